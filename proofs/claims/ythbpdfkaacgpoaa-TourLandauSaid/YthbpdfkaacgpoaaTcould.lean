/-
  The walk over tour.Could. Conditions: the slice can be read; the numbers are of 64 bits.
-/
import Derived.Test.YthbpdfkaacgpoaaSeqW
import Derived.Test.YthbpdfkaacgpoaaSlib
namespace Go.Proofs.Ythbpdfkaacgpoaa
set_option linter.unusedVariables false
open Go.RowKit

def offN (n : Nat) (x : Int) : Bool := decide (x < 0) || decide ((n : Int) ≤ x)
theorem could1_any (n : Nat) (b : Nat) (x : Int) (w : World) (hc : w.cell? ⟨b, 0, none⟩ = some (.int .i64 n)) :
    Calls Try.prog 41 #[.int .i64 x, .pointer (some ⟨b, 0, none⟩)] w fun e w' => e = .returned (.bool (offN n x)) ∧ w = w' := by
  unfold offN
  by_cases h0 : x < 0
  · go_enter Try.func41, Try.ntmps41
    go_wp2
    go_ret
    exact ⟨by simp [h0], rfl⟩
  · by_cases h1 : (n : Int) ≤ x
    · go_enter Try.func41, Try.ntmps41
      go_wp2
      go_ret
      exact ⟨by simp, rfl⟩
    · go_enter Try.func41, Try.ntmps41
      go_wp2
      go_ret
      exact ⟨by simp [h0, h1], rfl⟩
theorem could1_tests (n : Nat) (b : Nat) (w : World) (hc : w.cell? ⟨b, 0, none⟩ = some (.int .i64 n)) : Tests 41 #[.pointer (some ⟨b, 0, none⟩)] (offN n) w where
  enter := run_callFunc_own Try.func41 (by kernel_rfl) (by kernel_rfl)
  calls := fun x _ => could1_any n b x w hc

/-- The first so many, together. -/
def sumI (Y : List Int) : Nat → Int
  | 0 => 0
  | i + 1 => sumI Y i + Y.getD i 0
def tri2 (i : Nat) : Int := ((i * (i + 1) / 2 : Nat) : Int)
/-- Sorted: are the first so many enough? -/
def lowB (Y : List Int) (N : Nat) : Bool := (List.range N).any fun i => decide (sumI Y (i + 1) < tri2 i)
def couB (Y : List Int) (N : Nat) : Bool := !lowB Y N && decide (sumI Y N = ((N * (N - 1) / 2 : Nat) : Int))
/-- What Could tells. -/
def coE (l : List Int) : Bool × Int := if 9 < l.length then (false, 3) else if l.length = 0 then (false, 2) else if l.any (offN l.length) = true then (false, 1) else (couB (insI ltI 0 l.length l) l.length, 0)
theorem lowB_yes {Y : List Int} {N i : Nat} (hi : i < N) (h : sumI Y (i + 1) < tri2 i) : lowB Y N = true := List.any_eq_true.2 ⟨i, List.mem_range.2 hi, decide_eq_true h⟩
theorem lowB_no {Y : List Int} {N : Nat} (h : ∀ i, i < N → ¬ sumI Y (i + 1) < tri2 i) : lowB Y N = false := by
  cases hb : lowB Y N with
  | false => rfl
  | true =>
    obtain ⟨i, hi, h2⟩ := List.any_eq_true.1 hb
    exact absurd (of_decide_eq_true h2) (h i (List.mem_range.1 hi))
theorem sumI_bd {Y : List Int} {c : Nat} (h : ∀ i, i < Y.length → 0 ≤ Y.getD i 0 ∧ Y.getD i 0 ≤ c) : ∀ i, i ≤ Y.length → 0 ≤ sumI Y i ∧ sumI Y i ≤ i * c
  | 0, _ => ⟨Int.le_refl _, by simp [sumI]⟩
  | i + 1, hi => by
    have h1 := sumI_bd h i (by omega)
    have h2 := h i (by omega)
    rw [sumI]
    have : (((i + 1 : Nat) : Int)) * (c : Int) = i * c + c := by rw [Int.natCast_add, Int.add_mul]; simp
    omega

set_option maxHeartbeats 1000000 in
set_option maxRecDepth 100000 in
theorem Could_any (v : Value) (l : List Int) (w : World) (hv : Sl w v l) (hi64 : ∀ x ∈ l, I64 x) :
    Calls Try.prog 21 #[v] w fun e w' => e = .returned (.tuple #[.bool (coE l).1, .int .i64 (coE l).2]) ∧ Below w.heap.size w w' := by
  have hb0 := (Below.refl w.heap.size w).alloc (Nat.le_refl _) (.cells #[.int .i64 (l.length : Int)] 3)
  have hc0 : (w.alloc (.cells #[.int .i64 (l.length : Int)] 3)).cell? ⟨w.heap.size, 0, none⟩ = some (.int .i64 (l.length : Int)) := lit_cell _ _ _
  have HC := hid (containsFunc_any 41 #[.pointer (some ⟨w.heap.size, 0, none⟩)] (offN l.length) v l _ (hv.below hb0) hi64 (could1_tests l.length w.heap.size _ hc0))
  obtain ⟨a, c, N, rfl, hN, hl1, hl2⟩ := hv.open
  have hNN := hN.out
  have HB0 := hid hb0
  by_cases h9 : 9 < N
  · have hE : Hid (coE l = (false, 3)) := hid (by unfold coE; rw [if_pos (by omega)])
    rw [hE.out]
    rw [hNN] at HC HB0
    have h9' : (9 : Int) < (N : Int) := by omega
    clear hb0 hc0 hv hl1 hl2 HC hNN hN hE h9
    go_enter Try.func21, Try.ntmps21
    go_wp2
    go_ret2
    exact ⟨rfl, HB0.out⟩
  · by_cases h0 : N = 0
    · subst h0
      have hE : Hid (coE l = (false, 2)) := hid (by unfold coE; rw [if_neg (by omega), if_pos (by omega)])
      rw [hE.out]
      rw [hNN] at HC HB0
      clear hb0 hc0 hv hl1 hl2 HC hNN hN hE h9
      go_enter Try.func21, Try.ntmps21
      go_wp2
      go_ret2
      exact ⟨rfl, HB0.out⟩
    · have h9' : ¬ (9 : Int) < (N : Int) := by omega
      have h0' : ((N : Int) == 0) = false := by rw [beq_eq_false_iff_ne]; omega
      cases hoff : l.any (offN l.length) with
      | true =>
        have hE : Hid (coE l = (false, 1)) := hid (by unfold coE; rw [if_neg (by omega), if_neg (by omega), if_pos hoff])
        rw [hE.out]
        rw [hoff] at HC
        rw [hNN] at HC HB0
        clear hb0 hc0 hv hl1 hl2 hNN hN hE h9 h0 hoff
        go_enter Try.func21, Try.ntmps21
        go_wp2_with fail
        refine HC.out.mono ?_
        rintro e w2 ⟨rfl, rfl⟩
        go_wp2
        go_ret2
        exact ⟨rfl, HB0.out⟩
      | false =>
        have hE : Hid (coE l = (couB (insI ltI 0 N l) N, 0)) := hid (by unfold coE; rw [if_neg (by omega), if_neg (by omega), if_neg (by rw [hoff]; decide), hNN])
        rw [hE.out]
        obtain ⟨hpm, _⟩ := insI_sorts (lt := ltI) (d := 0) (fun a b h => by unfold ltI at *; simp at h ⊢; omega) (fun a b c h1 h2 => by unfold ltI at *; simp at h1 h2 ⊢; omega) l
        rw [hNN] at hpm
        have hYN : (insI ltI 0 N l).length = N := by rw [insI_len, hNN]
        have hYb : ∀ i, i < (insI ltI 0 N l).length → 0 ≤ (insI ltI 0 N l).getD i 0 ∧ (insI ltI 0 N l).getD i 0 ≤ (9 : Nat) := fun i hi => by
          have hm := hpm.mem_iff.1 (List.getElem_mem hi)
          rw [List.getD_eq_getElem?_getD, List.getElem?_eq_getElem hi]
          have := List.any_eq_false.1 hoff _ hm
          unfold offN at this
          simp at this
          simp only [Option.getD_some]
          omega
        have HSB := hid (sumI_bd hYb)
        obtain ⟨b, off, rfl, hbw, hcs⟩ := hl2 (by omega)
        have HSO : Hid (∀ w1 : World, Below w.heap.size w w1 → ∀ Bs, Bs < w1.heap.size → w1.cell? ⟨Bs, 0, none⟩ = some (.slice (some ⟨b, off, none⟩) N c) → Calls Try.prog 42 #[.func (.func 52) #[] #[.pointer (some ⟨Bs, 0, none⟩)]] w1 fun e W' => (∃ v, e = .returned v ∧ OI w1.heap.size W' v (insI ltI 0 N l)) ∧ Below w1.heap.size w1 W') := hid (fun w1 hb1 Bs hBs hcell => by
          have := sorted_ok Bs b off c l w1 (by omega) (by omega) hBs (Nat.lt_of_lt_of_le hbw hb1.size) (by rw [hNN]; exact hcell) (fun j hj => (hb1.cell (p := ⟨b, off + j, none⟩) hbw).trans (hcs j (by omega)))
          rw [hNN] at this
          exact this)
        have HVA : Hid (∀ w1 : World, Calls Try.prog 43 #[.slice (some ⟨b, off, none⟩) N c] w1 fun e w' => e = .returned (.func (.func 52) #[] #[.pointer (some ⟨w1.heap.size, 0, none⟩)]) ∧ w' = w1.alloc (.cells #[.slice (some ⟨b, off, none⟩) N c] 22)) := hid (fun w1 => callsIn_wide.1 (values_in Fence.wide 3 trivial rfl _ _ _ w1))
        rw [hoff] at HC
        rw [hNN] at HC HB0 hc0
        have HC0 := hid hc0
        have HS0 : Hid (sumI (insI ltI 0 N l) 0 = 0) := hid rfl
        have HS1 : Hid (∀ i, sumI (insI ltI 0 N l) (i + 1) = sumI (insI ltI 0 N l) i + (insI ltI 0 N l).getD i 0) := hid (fun i => rfl)
        have HLY := hid (fun i => lowB_yes (Y := insI ltI 0 N l) (N := N) (i := i))
        have HLN : Hid ((∀ i, i < N → ¬ sumI (insI ltI 0 N l) (i + 1) < tri2 i) → lowB (insI ltI 0 N l) N = false) := hid lowB_no
        have HCB : Hid (couB (insI ltI 0 N l) N = (!lowB (insI ltI 0 N l) N && decide (sumI (insI ltI 0 N l) N = ((N * (N - 1) / 2 : Nat) : Int)))) := hid rfl
        generalize insI ltI 0 N l = Y at *
        generalize lowB Y N = LB at *
        generalize sumI Y = SI at *
        generalize couB Y N = CB at *
        have hN1 : 1 ≤ N := by omega
        have hN9 : N ≤ 9 := by omega
        have HYN := hid hYN
        have HYB := hid hYb
        clear hb0 hc0 hv hl1 hl2 hNN hN hE h0 hoff hpm hYN hYb hcs hi64
        go_enter Try.func21, Try.ntmps21
        go_wp2_with fail
        refine HC.out.mono ?_
        rintro e w2 ⟨rfl, rfl⟩
        go_wp2_with fail
        refine (HVA.out _).mono ?_
        rintro e w3 ⟨rfl, hw3⟩
        have hb3 : Below w.heap.size w w3 := by rw [hw3]; exact HB0.out.alloc HB0.out.size _
        have hS3 := HSO.out w3 hb3 (w.heap.size + 1) (by rw [hw3]; simp) (by
          rw [hw3]
          have := lit_cell (w.alloc (.cells #[.int .i64 (N : Int)] 3)) (.slice (some ⟨b, off, none⟩) N c) 22
          rw [World.size_alloc] at this
          exact this)
        have hn3 : w3.cell? ⟨w.heap.size, 0, none⟩ = some (.int .i64 (N : Int)) := by
          rw [hw3]
          exact (((Below.refl _ _).alloc (Nat.le_refl _) _).cell (p := ⟨w.heap.size, 0, none⟩) (by simp)).trans HC0.out
        have HS3 := hid hS3
        have HN3 := hid hn3
        have HB3 := hid hb3
        have hlt3 : w.heap.size < w3.heap.size := by rw [hw3]; simp; omega
        clear hw3 hS3 hn3 hb3
        simp only [World.size_alloc]
        go_wp2_with fail
        refine HS3.out.mono ?_
        rintro e w4 ⟨⟨v4, rfl, hv4⟩, hb4⟩
        have hn4 : w4.cell? ⟨w.heap.size, 0, none⟩ = some (.int .i64 (N : Int)) := (hb4.cell (p := ⟨w.heap.size, 0, none⟩) hlt3).trans HN3.out
        obtain ⟨g, c4, rfl, hg1, hg2⟩ := hv4.form (by rw [HYN.out]; omega)
        rw [HYN.out] at hv4
        have HV4 := hid hv4
        have HB4 := hid (HB3.out.trans (hb4.mono HB3.out.size))
        rw [HYN.out]
        clear hv4 hb4 HS3 HSO HVA HC
        have HN4 := hid hn4
        have HV5 : Hid (Below w.heap.size w w4) := HB4
        go_wp2_with fail
        go_loopw [5, 6, 7, 24] (fun s _ _ x wr => ∃ i : Nat, x = .int .i64 i ∧ i ≤ N ∧ s = .int .i64 (SI i) ∧ Hid (∀ j, j < i → ¬ SI (j + 1) < tri2 j) ∧ wr = w4) (fun _ _ _ x _ => N - (intOf x).toNat)
        case atStart => exact ⟨0, rfl, Nat.zero_le _, by rw [HS0.out], hid (fun j hj => by omega), rfl⟩
        case round =>
          obtain ⟨i, rfl, hiN, rfl, HJ, rfl⟩ := hrel
          by_cases hlt : i < N
          · have hlti : (i : Int) < (N : Int) := by omega
            have c1 := HV4.out.cell i (by rw [HYN.out]; exact hlt)
            have hs1 := HS1.out i
            have hbd := HSB.out (i + 1) (by rw [HYN.out]; omega)
            have hyb := HYB.out i (by rw [HYN.out]; exact hlt)
            have hsb := HSB.out i (by rw [HYN.out]; omega)
            have hii : (i : Int) + 1 = ((i + 1 : Nat) : Int) := by omega
            have hmm : (i : Int) * ((i + 1 : Nat) : Int) = ((i * (i + 1) : Nat) : Int) := (Int.natCast_mul _ _).symm
            have hdd : ((i * (i + 1) : Nat) : Int).tdiv 2 = tri2 i := by rw [Int.tdiv_eq_ediv_of_nonneg (by omega)]; unfold tri2; omega
            have hib : i * (i + 1) ≤ 90 := by
              have := Nat.mul_le_mul (show i ≤ 9 by omega) (show i + 1 ≤ 10 by omega)
              omega
            have hTb : 0 ≤ tri2 i ∧ tri2 i ≤ 45 := by unfold tri2; omega
            have hwT := IntWalk.i64_in (tri2 i) (by omega)
            have hw1 := IntWalk.i64_in (SI i + Y.getD i 0) (by omega)
            have HLYi := hid (HLY.out i hlt)
            have HJ2 : Hid (¬ SI (i + 1) < tri2 i → ∀ j, j < i + 1 → ¬ SI (j + 1) < tri2 j) := hid (fun h j hj => by
              by_cases e : j = i
              · rw [e]; exact h
              · exact HJ.out j (by omega))
            rw [← hs1] at hw1
            have hs1' := hs1.symm
            clear hs1
            generalize hs1d : SI (i + 1) = s1 at *
            have HSD := hid hs1d
            clear hs1d
            generalize SI i = s0 at *
            generalize Y.getD i 0 = y at *
            generalize tri2 i = T at *
            generalize i * (i + 1) = q at *
            have hi1N : i + 1 ≤ N := by omega
            have hi1 : i < i + 1 := by omega
            have hi12 : N - (i + 1) < N - i := by omega
            have hw2 := IntWalk.i64_in ((i + 1 : Nat) : Int) (by omega)
            generalize i + 1 = i1 at *
            by_cases hT : s1 < T
            · have HE : Hid (CB = false) := hid (by rw [HCB.out, HLYi.out hT]; rfl)
              clear HJ2
              go_wp2
              go_ret2
              exact ⟨by rw [HE.out]; rfl, HB4.out⟩
            · have HJ3 := hid (HJ2.out hT)
              clear HJ2
              go_wp2
              go_roundw
              case rel => exact ⟨i1, rfl, hi1N, by rw [HSD.out], HJ3, by first | rfl | trivial⟩
              case measure => simp [intOf] <;> omega
          · obtain rfl : i = N := by omega
            have hlti : ¬ (i : Int) < (i : Int) := by omega
            have HL := hid (HLN.out (fun j hj => by have := HJ.out j hj; omega))
            rw [HL.out, Bool.not_false, Bool.true_and] at HCB
            have hii : (i : Int) - 1 = ((i - 1 : Nat) : Int) := by omega
            have hmm : (i : Int) * ((i - 1 : Nat) : Int) = ((i * (i - 1) : Nat) : Int) := (Int.natCast_mul _ _).symm
            have hdd : ((i * (i - 1) : Nat) : Int).tdiv 2 = ((i * (i - 1) / 2 : Nat) : Int) := by rw [Int.tdiv_eq_ediv_of_nonneg (by omega)]; omega
            have hib : i * (i - 1) ≤ 81 := Nat.le_trans (Nat.mul_le_mul (show i ≤ 9 by omega) (show i - 1 ≤ 9 by omega)) (by omega)
            generalize SI i = s0 at *
            have HX : Hid (∀ t : Int, (s0 == t) = decide (s0 = t)) := hid (fun t => by by_cases h : s0 = t <;> simp [h])
            generalize hT : i * (i - 1) / 2 = T at *
            generalize i * (i - 1) = q at *
            generalize i - 1 = im at *
            go_wp2
            go_ret2
            exact ⟨by rw [HCB.out, ← HX.out]; rfl, HB4.out⟩
end Go.Proofs.Ythbpdfkaacgpoaa
