/-
  The walk over the law RecurFound. Conditions: the slices can be read.
-/
import Derived.Test.YtlnfkkapepgilaaLeast2
import Derived.Test.YtlnfkkapepgilaaRadds
namespace Go.Proofs.Ytlnfkkapepgilaa
set_option linter.unusedVariables false
open Go.RowKit

theorem found_bad (w : World) (p : Int) (v u : Value) (taps seed : List Int) (n : Int) (hv : Sl w v taps) (hu : Sl w u seed) (h1 : ∀ x ∈ taps, I64 x) (h2 : ∀ x ∈ seed, I64 x)
    (h : runC p taps seed n ≠ 0 ∨ 60 < n) :
    Calls Try.prog 10 #[.int .i64 p, v, u, .int .i64 n] w fun e w' => e = .returned (.bool true) ∧ Below w.heap.size w w' := by
  have HA := hid (fun w1 (h : Below w.heap.size w w1) => Run_any p v u taps seed n w1 (hv.below h) (hu.below h) h1 h2)
  have HF := hid (runs_any w)
  clear hv hu h1 h2
  generalize runC p taps seed n = e1 at *
  have hc : (e1 != 0) = true ∨ (e1 != 0) = false ∧ 60 < n := by
    by_cases h0 : e1 = 0
    · refine .inr ⟨by simpa using h0, ?_⟩
      rcases h with h | h
      · exact absurd h0 h
      · exact h
    · exact .inl (by simpa using h0)
  clear h
  rcases hc with q | ⟨q, q2⟩
  all_goals
    go_enter Try.func10, Try.ntmps10
    go_wp2_with fail
    refine HF.out.mono ?_
    rintro e w1 ⟨rfl, hb1⟩
    have B1 := hid hb1
    clear hb1
    go_wp2_with fail
    refine (HA.out _ B1.out).mono ?_
    rintro e w2 ⟨⟨r, rfl, _, _⟩, hb2⟩
    have B2 := hid (B1.out.trans (hb2.mono B1.out.size))
    clear hb2
    go_wp2
    go_ret
    exact ⟨rfl, B2.out⟩

set_option maxHeartbeats 2000000 in
set_option maxRecDepth 100000 in
theorem found_ok (w : World) (P : Nat) (v u : Value) (taps seed : List Int) (n : Nat) (hv : Sl w v taps) (hu : Sl w u seed) (h1 : ∀ x ∈ taps, I64 x) (h2 : ∀ x ∈ seed, I64 x)
    (ha : runC P taps seed n = 0) (hn : n ≤ 60) :
    Calls Try.prog 10 #[.int .i64 P, v, u, .int .i64 n] w fun e w' => e = .returned (.bool true) ∧ Below w.heap.size w w' := by
  obtain ⟨ra, _, _⟩ := runC_ok ha
  have RA := runE_ok ra
  have hp2 := RA.p2
  have hp7 := RA.p7
  have hsm : smallB (P : Int) = true := by
    unfold runE at ra
    by_cases h0 : tapsE P taps = 0
    · unfold tapsE at h0
      cases hs : smallB (P : Int) with
      | true => rfl
      | false => rw [hs, if_pos rfl] at h0; cases h0
    · rw [if_pos h0] at ra; exact absurd ra h0
  have HA := hid (fun w1 (h : Below w.heap.size w w1) => Run_any P v u taps seed n w1 (hv.below h) (hu.below h) h1 h2)
  rw [ha, Int.toNat_natCast] at HA
  have HF := hid (runs_any w)
  have hin := row_mem (p := (P : Int)) (taps := taps) (by omega) RA.fs n
  have hrl := rowL_len (P : Int) taps seed n
  have hgen := tap_gen (p := (P : Int)) (by omega) taps seed RA.len n
  have hk8 := RA.k8
  obtain ⟨at', ct, e1⟩ := hv.len
  subst e1
  generalize rowL (P : Int) taps seed n = row at *
  have HLS := hid (fun (r : Value) (w1 : World) (hr : Sl w1 r row) => Least_ok P r row w1 hr hsm (by rw [hrl]; exact hn) (fit_mk hin) (fun x hx => by have := hin x hx; unfold I64; omega))
  rw [hrl] at HLS
  have HMIN : Hid (∀ (C B : Nat → Int) (L g : Nat) (b : Int), BM P (gD row) n C B L g b → L ≤ taps.length) := hid (fun C B L g b hb => hb.mini (tapC taps) taps.length rfl hgen)
  have HIN := hid hin
  have HRL := hid hrl
  clear ra RA hv hu h1 h2 ha hgen hin hrl
  generalize taps.length = k at *
  go_enter Try.func10, Try.ntmps10
  go_wp2_with fail
  refine HF.out.mono ?_
  rintro e w1 ⟨rfl, hb1⟩
  have B1 := hid hb1
  clear hb1
  go_wp2_with fail
  refine (HA.out _ B1.out).mono ?_
  rintro e w2 ⟨⟨r, rfl, hr, _⟩, hb2⟩
  have hr := hr (by simp)
  have B2 := hid (B1.out.trans (hb2.mono B1.out.size))
  have hs2 := hr.sl (by rw [HRL.out]; omega)
  have HCL := hid (HLS.out r w2 hs2)
  have HR := hid (hr.mono B1.out.size)
  clear hb2 hr hs2 HA HF
  have hni : ¬ (60 : Int) < (n : Int) := by omega
  go_wp2_with fail
  refine HCL.out.mono ?_
  rintro e w3 ⟨⟨t, C, B, L, g, b, rfl, ht, hbm⟩, hb3⟩
  have hLk := HMIN.out C B L g b hbm
  have hLn := hbm.ln
  have hbs := B2.out.size
  have hR3 := HR.out.below hb3
  have B3 := hid (B2.out.trans (hb3.mono hbs))
  have HBM := hid hbm
  clear hb3 hbm HCL HLS HR
  by_cases hc : L = 0 ∨ n < 2 * L
  · have hT : lsT (P : Int) C L n = [] := if_pos hc
    rw [hT] at ht
    obtain ⟨a3, c3, e3⟩ := ht.len
    rw [List.length_nil] at e3
    subst e3
    clear hT ht hR3 hc
    go_wp2
    go_ret
    exact ⟨rfl, B3.out⟩
  · have hT : lsT (P : Int) C L n = bmT P C L := if_neg hc
    rw [hT] at ht
    have hTl := bmT_len (P : Int) C L
    obtain ⟨gt, ct2, e3, _, _⟩ := ht.form (by rw [hTl]; omega)
    rw [hTl] at e3
    subst e3
    obtain ⟨gr, cr, e4, _, _⟩ := hR3.form (by rw [HRL.out]; omega)
    rw [HRL.out] at e4
    subst e4
    have hcap := hR3.cap
    have hbmin := bmT_in (p := (P : Int)) (by omega) C L
    have hrow := bm_row (p := (P : Int)) (by omega) HIN.out HBM.out.c0 (show Gen P (fun i => row.getD i 0) C L row.length by rw [HRL.out]; exact HBM.out.gen) (by rw [HRL.out]; exact hLn) n (by rw [HRL.out]; exact Nat.le_refl _)
    have htn : row.take n = row := List.take_of_length_le (by rw [HRL.out]; exact Nat.le_refl _)
    rw [htn] at hrow
    have htl : (row.take L).length = L := by rw [List.length_take, HRL.out]; omega
    have hrc : runC P (bmT P C L) (row.take L) n = 0 := by
      have ht0 : tapsE P (bmT P C L) = 0 := by
        unfold tapsE
        rw [hsm, if_neg (by decide), hTl, if_neg (by omega), fit_mk hbmin, if_neg (by decide)]
      unfold runC
      have hr0 : runE P (bmT P C L) (row.take L) = 0 := by
        unfold runE
        rw [ht0, if_neg (by decide), htl, hTl, if_neg (by omega), fit_mk (fun x hx => HIN.out x (List.mem_of_mem_take hx)), if_neg (by decide)]
      rw [hr0, if_neg (by decide), if_neg (by omega)]
    have HRUN := hid (Run_any P (.slice (some ⟨gt, 0, none⟩) L ct2) (.slice (some ⟨gr, 0, none⟩) L cr) (bmT P C L) (row.take L) n w3 (ht.sl (by rw [hTl]; omega)) ((hR3.take L hLn).sl (by rw [htl]; omega)) (fun x hx => by have := hbmin x hx; unfold I64; omega) (fun x hx => by have := HIN.out x (List.mem_of_mem_take hx); unfold I64; omega))
    rw [hrc, Int.toNat_natCast, hrow] at HRUN
    have hR := hid hR3
    have hLz : ((L : Int) == 0) = false := by rw [beq_eq_false_iff_ne]; omega
    have hLki : ¬ (k : Int) < (L : Int) := by omega
    have hLni : ¬ (n : Int) < (L : Int) := by omega
    have hcL : (L : Int) ≤ (cr : Int) := by omega
    have hcL2 : L ≤ cr := by omega
    have hLni2 : (L : Int) ≤ (n : Int) := by omega
    clear hT ht hTl hR3 hbmin hrow htl hrc hc
    go_wp2_with fail
    refine HRUN.out.mono ?_
    rintro e w4 ⟨⟨q, rfl, hq, _⟩, hb4⟩
    have hq := hq (by simp)
    have hb3s := B3.out.size
    have HI := hid (ints_any q (.slice (some ⟨gr, 0, none⟩) n cr) row row w4 (hq.sl (by rw [HRL.out]; omega)) ((hR.out.below hb4).sl (by rw [HRL.out]; omega)))
    rw [show decide (row = row) = true by simp] at HI
    have B4 := hid (B3.out.trans (hb4.mono hb3s))
    clear hq hb4 HRUN hR
    go_wp2_with fail
    refine HI.out.mono ?_
    rintro e w5 ⟨rfl, m5, rfl⟩
    go_wp2
    go_ret
    exact ⟨rfl, below_drewN B4.out m5⟩

theorem recurFound_walk (w : World) (p : Int) (_ : I64 p) (v : Value) (taps : List Int) (hv : Sl w v taps) (h1 : ∀ x ∈ taps, I64 x) (u : Value) (seed : List Int) (hu : Sl w u seed) (h2 : ∀ x ∈ seed, I64 x) (n : Int) (_ : I64 n) :
    Calls Try.prog 10 #[.int .i64 p, v, u, .int .i64 n] w fun e w' => e = .returned (.bool true) ∧ Below w.heap.size w w' := by
  by_cases h : runC p taps seed n = 0 ∧ n ≤ 60
  · obtain ⟨ra, hn0, _⟩ := runC_ok h.1
    have hp2 := (runE_ok ra).p2
    obtain ⟨P, rfl⟩ := Int.eq_ofNat_of_zero_le (show 0 ≤ p by omega)
    obtain ⟨N, rfl⟩ := Int.eq_ofNat_of_zero_le hn0
    exact found_ok w P v u taps seed N hv hu h1 h2 h.1 (by omega)
  · refine found_bad w p v u taps seed n hv hu h1 h2 ?_
    by_cases h0 : runC p taps seed n = 0
    · right
      have : ¬ n ≤ 60 := fun hh => h ⟨h0, hh⟩
      omega
    · exact .inl h0
end Go.Proofs.Ytlnfkkapepgilaa
