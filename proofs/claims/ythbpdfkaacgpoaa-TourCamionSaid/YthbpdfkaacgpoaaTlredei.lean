/-
  The walk over parterrelaw4.TourRedei. Conditions: the slice can be read; the numbers are of 64 bits.
-/
import Derived.Test.YthbpdfkaacgpoaaTfact
import Derived.Test.YthbpdfkaacgpoaaTred
import Derived.Test.YthbpdfkaacgpoaaTsq
namespace Go.Proofs.Ythbpdfkaacgpoaa
set_option linter.unusedVariables false
open Go.RowKit

/-- One of two beats the other, not both; nobody himself. -/
theorem tot_two {S : Nat} {l : List Int} (hS9 : S ≤ 9) (h0 : l.any off01 = false) (hB : tB S l = false) {i j : Nat} (hi : i < S) (hj : j < S) (hij : i ≠ j) : beB S l (S * S) (j * 9 + i) = !beB S l (S * S) (i * 9 + j) := by
  rw [beB_at hS9 hi hj, beB_at hS9 hj hi]
  have hb : ∀ a b, a < S → b ≤ a → badAt S l a b = false := fun a b ha hb => by
    cases h : badAt S l a b with
    | false => rfl
    | true => rw [tB_yes ha hb h] at hB; cases hB
  have hx := cells01 h0 (i * S + j)
  have hy := cells01 h0 (j * S + i)
  have hne : gD l (i * S + j) ≠ gD l (j * S + i) := by
    rcases Nat.lt_or_ge i j with h | h
    · have := hb j i hj (by omega)
      unfold badAt at this
      rw [if_neg (by omega), beq_eq_false_iff_ne] at this
      exact fun e => this e.symm
    · have := hb i j hi (by omega)
      unfold badAt at this
      rw [if_neg hij, beq_eq_false_iff_ne] at this
      exact this
  rcases hx with h | h <;> rcases hy with h2 | h2 <;> rw [h, h2] <;> first | rfl | (exfalso; omega)
theorem tot_irr {S : Nat} {l : List Int} (hS9 : S ≤ 9) (h0 : l.any off01 = false) (hB : tB S l = false) {i : Nat} (hi : i < S) : beB S l (S * S) (i * 9 + i) = false := by
  rw [beB_at hS9 hi hi]
  cases h : badAt S l i i with
  | true => rw [tB_yes hi (Nat.le_refl _) h] at hB; cases hB
  | false => unfold badAt at h; rw [if_pos rfl] at h; exact h
theorem chn_get {b : Nat → Nat → Bool} : ∀ (Q : List Nat), chn b Q → ∀ i, i + 1 < Q.length → b (Q.getD i 0) (Q.getD (i + 1) 0) = true
  | [], _, i, h => by simp at h
  | [x], _, i, h => by simp at h
  | x :: y :: l, h, 0, _ => h.1
  | x :: y :: l, h, i + 1, hi => by
    have := chn_get (y :: l) h.2 i (by simp at hi ⊢; omega)
    simpa using this
/-- What a list that comes up is. -/
theorem comp_steps {S : Nat} {SB : Nat → Bool} {r : List Int} (hr : r ∈ comp S SB S []) : r.length = S ∧ ∀ i, i + 1 < S → ∃ a b : Nat, r.getD i 0 = (a : Int) ∧ r.getD (i + 1) 0 = (b : Int) ∧ a < S ∧ b < S ∧ SB (a * 9 + b) = true := by
  obtain ⟨Q, rfl, q2, q3, q4, q5⟩ := comp_sound (N := S) (SB := SB) S [] trivial List.nodup_nil (fun z hz => by cases hz) r hr
  have hl : Q.length = S := by simpa using q5
  refine ⟨by rw [List.length_map, hl], fun i hi => ⟨Q.getD i 0, Q.getD (i + 1) 0, ?_, ?_, ?_, ?_, chn_get Q q2 i (by omega)⟩⟩
  · simp only [List.getD_eq_getElem?_getD, List.getElem?_map, List.getElem?_eq_getElem (show i < Q.length by omega)]; rfl
  · simp only [List.getD_eq_getElem?_getD, List.getElem?_map, List.getElem?_eq_getElem (show i + 1 < Q.length by omega)]; rfl
  · rw [List.getD_eq_getElem?_getD, List.getElem?_eq_getElem (show i < Q.length by omega)]
    exact q4 _ (List.getElem_mem _)
  · rw [List.getD_eq_getElem?_getD, List.getElem?_eq_getElem (show i + 1 < Q.length by omega)]
    exact q4 _ (List.getElem_mem _)

set_option maxHeartbeats 2000000 in
set_option maxRecDepth 100000 in
theorem tourRedei_bad (w : World) (p : Int) (u : Value) (l : List Int) (hu : Sl w u l) (hi64 : ∀ x ∈ l, I64 x) (h : tE p l ≠ 0) :
    Calls Try.prog 4 #[sqV p u] w fun e w' => e = .returned (.bool true) ∧ Below w.heap.size w w' := by
  have HT := hid tourFact_any
  have HN := hid (fun w1 (hb : Below w.heap.size w w1) => Paths_bad p u l w1 (hu.below hb) hi64 h)
  obtain ⟨ax, cx, e1⟩ := hu.len
  subst e1
  have hne2 : (tE p l != 0) = true := by simpa using h
  generalize tE p l = E at *
  generalize l.length = N at *
  have HW0 := hid (And.intro (Arr.new w 24 [.int .i64 p, .slice ax N cx]) ((Below.refl w.heap.size w).alloc (Nat.le_refl _) (.cells #[.int .i64 p, .slice ax N cx] 24)))
  clear hu hi64 h
  unfold sqV at HN
  unfold sqV
  go_enter Try.func4, Try.ntmps4
  go_wp2_with fail
  refine (HT.out _).mono ?_
  rintro e w1 ⟨rfl, hb1⟩
  have HW1 := hid (And.intro (HW0.out.1.below hb1) (HW0.out.2.trans (hb1.mono HW0.out.2.size)))
  have k1 := HW1.out.1.cell 0
  have j1 := HW1.out.1.cell 1
  simp only [List.getElem?_cons_zero, List.getElem?_cons_succ] at k1 j1
  clear HW0
  go_wp2_with fail
  refine (HN.out _ HW1.out.2).mono ?_
  rintro e w2 ⟨rfl, hb2⟩
  have HW2 := hid (HW1.out.2.trans (hb2.mono HW1.out.2.size))
  clear k1 j1 hb2
  go_wp2
  go_ret
  exact ⟨rfl, HW2.out⟩

set_option maxHeartbeats 2000000 in
set_option maxRecDepth 100000 in
theorem tourRedei_ok (w : World) (p : Int) (u : Value) (l : List Int) (hu : Sl w u l) (hi64 : ∀ x ∈ l, I64 x) (h : tE p l = 0) :
    Calls Try.prog 4 #[sqV p u] w fun e w' => e = .returned (.bool true) ∧ Below w.heap.size w w' := by
  obtain ⟨S, rfl, hS1, hS9, hlen, h0, hB⟩ := tE_ok h
  have HT := hid tourFact_any
  obtain ⟨r, R, hR⟩ := path_some hS9 h0 hB
  have HP := hid (fun w1 (hb : Below w.heap.size w w1) => Path_yes S u l w1 (hu.below hb) hi64 h hS1 hS9 hlen (r := r) (by rw [hR]; rfl))
  have HN := hid (fun w1 (hb : Below w.heap.size w w1) => Paths_ok S u l w1 (hu.below hb) hi64 h hS1 hS9 hlen)
  have HB := hid (fun a b (ha : a < S) (hb : b < S) w1 (hw : Below w.heap.size w w1) => Beats_ok S a b u l w1 (hu.below hw) hS9 hlen ha hb)
  have hodd := redei_comp (S := S) (SB := beB S l (S * S)) hS1 (fun i j hi hj hij => tot_two hS9 h0 hB hi hj hij)
  have hbd := comp_len (N := S) (beB S l (S * S)) S []
  have hp9 := pow99 hS9
  obtain ⟨hrl, hst⟩ := comp_steps (S := S) (SB := beB S l (S * S)) (r := r) (by rw [hR]; simp)
  have HST := hid hst
  have HRL := hid hrl
  have hKb : (comp S (beB S l (S * S)) S []).length ≤ 387420489 := by omega
  generalize beB S l (S * S) = SB at *
  generalize (comp S SB S []).length = K at *
  have hmod : (K : Int).tmod 2 = 1 := by rw [Int.tmod_eq_emod_of_nonneg (by omega)]; omega
  obtain ⟨ax, cx, e1⟩ := hu.len
  subst e1
  generalize l.length = N at *
  have HW0 := hid (And.intro (Arr.new w 24 [.int .i64 (S : Int), .slice ax N cx]) ((Below.refl w.heap.size w).alloc (Nat.le_refl _) (.cells #[.int .i64 (S : Int), .slice ax N cx] 24)))
  clear hu hi64 h hR h0 hB hlen hst hrl hodd hbd hp9
  unfold sqV at HN HP HB
  unfold sqV
  go_enter Try.func4, Try.ntmps4
  go_wp2_with fail
  refine (HT.out _).mono ?_
  rintro e w1 ⟨rfl, hb1⟩
  have HW1 := hid (And.intro (HW0.out.1.below hb1) (HW0.out.2.trans (hb1.mono HW0.out.2.size)))
  have k1 := HW1.out.1.cell 0
  have j1 := HW1.out.1.cell 1
  simp only [List.getElem?_cons_zero, List.getElem?_cons_succ] at k1 j1
  clear HW0
  go_wp2_with fail
  refine (HN.out _ HW1.out.2).mono ?_
  rintro e w2 ⟨rfl, hb2⟩
  have HW2 := hid (And.intro (HW1.out.1.below hb2) (HW1.out.2.trans (hb2.mono HW1.out.2.size)))
  have k2 := HW2.out.1.cell 0
  have j2 := HW2.out.1.cell 1
  simp only [List.getElem?_cons_zero, List.getElem?_cons_succ] at k2 j2
  clear k1 j1 hb2 HW1
  go_wp2_with fail
  refine (HP.out _ HW2.out.2).mono ?_
  rintro e w3 ⟨⟨v, rfl, hv⟩, hb3⟩
  have hA3 := HW2.out.1.below hb3
  have hB3 := HW2.out.2.trans (hb3.mono HW2.out.2.size)
  have k3 := hA3.cell 0
  have j3 := hA3.cell 1
  simp only [List.getElem?_cons_zero, List.getElem?_cons_succ] at k3 j3
  obtain ⟨av, cv, Sv, rfl, hSv, hl1, hl2⟩ := hv.open
  obtain rfl : Sv = S := by rw [← hSv.out, HRL.out]
  obtain ⟨bs, os, rfl, hbs, hcs⟩ := hl2 (by omega)
  have HCS := hid hcs
  have HX := hid (And.intro hA3 (And.intro hB3 (Below.refl w3.heap.size w3)))
  clear k2 j2 hb3 HW2 hl1 hl2 hv hA3 hB3 hcs HP HN HT
  go_wp2
  clear k3 j3
  go_loopw [7, 8] (fun x _ wr => ∃ i : Nat, x = .int .i64 i ∧ 1 ≤ i ∧ i ≤ Sv ∧ Arr wr w.heap.size 24 [.int .i64 (Sv : Int), .slice ax N cx] ∧ Below w.heap.size w wr ∧ Below w3.heap.size w3 wr) (fun x _ _ => Sv - (intOf x).toNat)
  case atStart => exact ⟨1, rfl, Nat.le_refl _, hS1, HX.out.1, HX.out.2.1, HX.out.2.2⟩
  case round =>
    clear HX
    obtain ⟨i, rfl, hi1, hiS, hA, hB, hB3⟩ := hrel
    by_cases hlt : i < Sv
    · have hlti : (i : Int) < (Sv : Int) := by omega
      obtain ⟨a, b, ha, hb, haS, hbS, hab⟩ := HST.out (i - 1) (by omega)
      rw [show i - 1 + 1 = i by omega] at hb
      have c1 := (hB3.cell (p := ⟨bs, os + (i - 1), none⟩) hbs).trans (HCS.out (i - 1) (by omega))
      have c2 := (hB3.cell (p := ⟨bs, os + i, none⟩) hbs).trans (HCS.out i hlt)
      have hbsr := Nat.lt_of_lt_of_le hbs hB3.size
      have k0 := hA.cell 0
      have k1 := hA.cell 1
      simp only [List.getElem?_cons_zero, List.getElem?_cons_succ] at k0 k1
      have hwl := hA.lt
      have HCB := hid (HB.out a b haS hbS wr.drew hB.drew)
      rw [hab] at HCB
      have him : (i : Int) - 1 = ((i - 1 : Nat) : Int) := by omega
      rw [← List.getD_eq_getElem?_getD, ha] at c1
      rw [← List.getD_eq_getElem?_getD, hb] at c2
      have HX := hid (And.intro hA (And.intro hB hB3))
      clear hA hB hB3 ha hb hab
      have hme : i - 1 < i := by omega
      generalize i - 1 = im at *
      have q1 : (im : Int) < (Sv : Int) := by omega
      have q2 : (0 : Int) ≤ (im : Int) := by omega
      have q5 := IntWalk.i64_in (im : Int) (by omega)
      have hS0 : wr.drew.cell? ⟨w.heap.size, 0, none⟩ = some (.int .i64 (Sv : Int)) ∧ wr.drew.cell? ⟨w.heap.size, 1, none⟩ = some (.slice ax N cx) ∧ wr.drew.cell? ⟨bs, os + im, none⟩ = some (.int .i64 (a : Int)) ∧ wr.drew.cell? ⟨bs, os + i, none⟩ = some (.int .i64 (b : Int)) := ⟨k0, k1, c1, c2⟩
      clear k0 k1 c1 c2
      go_wp2
      go_region_held_law (fun W => W.cell? ⟨w.heap.size, 0, none⟩ = some (.int .i64 (Sv : Int)) ∧ W.cell? ⟨w.heap.size, 1, none⟩ = some (.slice ax N cx) ∧ W.cell? ⟨bs, os + im, none⟩ = some (.int .i64 (a : Int)) ∧ W.cell? ⟨bs, os + i, none⟩ = some (.int .i64 (b : Int))) (first | exact hS0 | exact hS5)
        ((go_at_call 18; refine HCB.out.mono ?_; rintro e w5 ⟨rfl, hb5⟩; have hS5 := And.intro ((hb5.cell (p := ⟨w.heap.size, 0, none⟩) hwl).trans hS0.1) (And.intro ((hb5.cell (p := ⟨w.heap.size, 1, none⟩) hwl).trans hS0.2.1) (And.intro ((hb5.cell (p := ⟨bs, os + im, none⟩) hbsr).trans hS0.2.2.1) ((hb5.cell (p := ⟨bs, os + i, none⟩) hbsr).trans hS0.2.2.2)))))
      all_goals
        have hbw5 : Below wr.heap.size wr w5 := (Below.refl wr.heap.size wr).drew.trans hb5
        have HY := hid (And.intro (HX.out.1.below hbw5) (And.intro (HX.out.2.1.trans (hbw5.mono HX.out.2.1.size)) (HX.out.2.2.trans (hbw5.mono HX.out.2.2.size))))
        clear hb5 hS5 hS0 hbw5 HCB
        go_wp2
        go_roundw
      all_goals first
        | exact ⟨i + 1, by go_num, by omega, by omega, HY.out.1, HY.out.2.1, HY.out.2.2⟩
        | (simp [intOf] <;> omega)
    · obtain rfl : i = Sv := by omega
      have hlti : ¬ (i : Int) < (i : Int) := by omega
      have HX := hid hB
      clear hA hB hB3
      go_wp2
      go_ret
      exact ⟨rfl, HX.out⟩
theorem tourRedei_walk (w : World) (p : Int) (u : Value) (l : List Int) (hu : Sl w u l) (hi64 : ∀ x ∈ l, I64 x) :
    Calls Try.prog 4 #[sqV p u] w fun e w' => e = .returned (.bool true) ∧ Below w.heap.size w w' := by
  by_cases h : tE p l = 0
  · exact tourRedei_ok w p u l hu hi64 h
  · exact tourRedei_bad w p u l hu hi64 h
end Go.Proofs.Ythbpdfkaacgpoaa
