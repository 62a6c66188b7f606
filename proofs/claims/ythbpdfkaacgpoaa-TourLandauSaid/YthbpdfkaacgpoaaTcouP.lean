/-
  Scores: each set of them has enough just if, sorted, the first so many have. No program in sight.
-/
import Derived.Test.YthbpdfkaacgpoaaTcouf
namespace Go.Proofs.Ythbpdfkaacgpoaa
set_option linter.unusedVariables false
open Go.RowKit

def pkL (l : List Int) (s : Nat) : Nat → List Int
  | 0 => []
  | i + 1 => if s / 2 ^ i % 2 = 1 then pkL l s i ++ [l.getD i 0] else pkL l s i
theorem pkL_len (l : List Int) (s : Nat) : ∀ i, (pkL l s i).length = csK s i
  | 0 => rfl
  | i + 1 => by
    rw [pkL, csK]
    split
    · rw [List.length_append, pkL_len l s i]; rfl
    · exact pkL_len l s i
theorem pkL_sum (l : List Int) (s : Nat) : ∀ i, (pkL l s i).sum = csS l s i
  | 0 => rfl
  | i + 1 => by
    rw [pkL, csS]
    split
    · rw [List.sum_append, pkL_sum l s i]; simp
    · exact pkL_sum l s i
theorem take_next {l : List Int} {i : Nat} (h : i < l.length) : l.take (i + 1) = l.take i ++ [l.getD i 0] := by
  rw [List.take_succ_eq_append_getElem h, List.getD_eq_getElem?_getD, List.getElem?_eq_getElem h]
  rfl
theorem pkL_sub (l : List Int) (s : Nat) : ∀ i, i ≤ l.length → List.Sublist (pkL l s i) (l.take i)
  | 0, _ => List.Sublist.slnil
  | i + 1, h => by
    rw [pkL, take_next (by omega)]
    split
    · exact (pkL_sub l s i (by omega)).append (List.Sublist.refl _)
    · exact (pkL_sub l s i (by omega)).trans (List.sublist_append_left _ _)
theorem pkL_congr {l : List Int} {s t : Nat} : ∀ i, (∀ j, j < i → s / 2 ^ j % 2 = t / 2 ^ j % 2) → pkL l s i = pkL l t i
  | 0, _ => rfl
  | i + 1, h => by rw [pkL, pkL, pkL_congr i (fun j hj => h j (by omega)), h i (by omega)]
theorem bit_add {s n j : Nat} (hj : j < n) : (s + 2 ^ n) / 2 ^ j % 2 = s / 2 ^ j % 2 := by
  obtain ⟨d, rfl⟩ : ∃ d, n = j + 1 + d := ⟨n - (j + 1), by omega⟩
  have : 2 ^ (j + 1 + d) = 2 ^ j * (2 * 2 ^ d) := by rw [Nat.pow_add, Nat.pow_succ]; simp [Nat.mul_assoc]
  rw [this, Nat.add_mul_div_left _ _ (Nat.pos_of_ne_zero (by simp))]
  omega
theorem bit_top {s n : Nat} (hs : s < 2 ^ n) : (s + 2 ^ n) / 2 ^ n % 2 = 1 := by
  rw [Nat.add_div_right _ (Nat.pos_of_ne_zero (by simp)), Nat.div_eq_of_lt hs]
theorem bit_none {s n : Nat} (hs : s < 2 ^ n) : s / 2 ^ n % 2 = 0 := by rw [Nat.div_eq_of_lt hs]
theorem pkL_of (l : List Int) : ∀ (n : Nat) (T : List Int), n ≤ l.length → List.Sublist T (l.take n) → ∃ s, s < 2 ^ n ∧ pkL l s n = T
  | 0, T, _, h => ⟨0, by simp, by rw [List.take_zero] at h; exact (List.sublist_nil.1 h).symm⟩
  | n + 1, T, hn, h => by
    rw [take_next (by omega)] at h
    obtain ⟨A, B, rfl, hA, hB⟩ := List.sublist_append_iff.1 h
    obtain ⟨s, hs, hp⟩ := pkL_of l n A (by omega) hA
    have hP : 2 ^ (n + 1) = 2 ^ n + 2 ^ n := by rw [Nat.pow_succ]; omega
    have hBB : B = [] ∨ B = [l.getD n 0] := by
      cases B with
      | nil => exact .inl rfl
      | cons x B =>
        right
        have h1 := hB.length_le
        have : B = [] := List.eq_nil_of_length_eq_zero (by simp only [List.length_cons, List.length_nil] at h1; omega)
        subst this
        have := hB.subset (List.mem_singleton.2 rfl)
        rw [List.mem_singleton] at this
        rw [this]
    rcases hBB with rfl | rfl
    · exact ⟨s, by omega, by rw [pkL, bit_none hs, if_neg (by decide), hp, List.append_nil]⟩
    · exact ⟨s + 2 ^ n, by omega, by rw [pkL, bit_top hs, if_pos rfl, pkL_congr n (fun j hj => bit_add hj), hp]⟩
theorem perm_sum {A B : List Int} (h : A.Perm B) : A.sum = B.sum := by
  induction h with
  | nil => rfl
  | cons x _ ih => simp only [List.sum_cons, ih]
  | swap x y l => simp only [List.sum_cons]; omega
  | trans _ _ h1 h2 => exact h1.trans h2
theorem take_shift : ∀ (k : Nat) (y : Int) (Y : List Int), (∀ z ∈ Y, y ≤ z) → Y.Pairwise (· ≤ ·) → k ≤ Y.length → ((y :: Y).take k).sum ≤ (Y.take k).sum
  | 0, _, _, _, _, _ => Int.le_refl _
  | k + 1, y, [], _, _, hk => by simp at hk
  | k + 1, y, z :: Y, hy, hp, hk => by
    rw [List.pairwise_cons] at hp
    have ih := take_shift k z Y hp.1 hp.2 (by simpa using hk)
    have := hy z (by simp)
    rw [List.take_succ_cons, List.take_succ_cons, List.sum_cons, List.sum_cons]
    omega
theorem sub_sum {T Y : List Int} (h : List.Sublist T Y) (hp : Y.Pairwise (· ≤ ·)) : (Y.take T.length).sum ≤ T.sum := by
  induction h with
  | slnil => exact Int.le_refl _
  | @cons T Y y h ih =>
    rw [List.pairwise_cons] at hp
    exact Int.le_trans (take_shift T.length y Y hp.1 hp.2 h.length_le) (ih hp.2)
  | @cons_cons T Y y h ih =>
    rw [List.pairwise_cons] at hp
    have := ih hp.2
    rw [List.length_cons, List.take_succ_cons, List.sum_cons, List.sum_cons]
    omega
theorem sumI_take (Y : List Int) : ∀ k, k ≤ Y.length → sumI Y k = (Y.take k).sum
  | 0, _ => by simp [sumI]
  | k + 1, h => by rw [sumI, sumI_take Y k (by omega), take_next (by omega), List.sum_append]; simp
theorem trI_eq (k : Nat) : trI k = ((k * (k - 1) / 2 : Nat) : Int) := by
  unfold trI
  cases k with
  | zero => rfl
  | succ k =>
    rw [show ((k + 1 : Nat) : Int) - 1 = (k : Int) by omega, ← Int.natCast_mul, Int.tdiv_eq_ediv_of_nonneg (by omega)]
    rfl
theorem trI_succ (i : Nat) : trI (i + 1) = tri2 i := by
  rw [trI_eq]
  unfold tri2
  rw [Nat.add_sub_cancel, Nat.mul_comm]
/-- Landau's sums, either way. -/
theorem could_same {l Y : List Int} (hpm : Y.Perm l) (hord : Y.Pairwise (· ≤ ·)) (h1 : 1 ≤ l.length) : couB Y l.length = !badA l l.length (2 ^ l.length) := by
  have hlen : Y.length = l.length := hpm.length_eq
  have htot : sumI Y l.length = l.sum := by rw [sumI_take Y _ (by omega), ← hlen, List.take_length]; exact perm_sum hpm
  have hmin : ∀ s, sumI Y (csK s l.length) ≤ csS l s l.length := fun s => by
    have hs := pkL_sub l s l.length (Nat.le_refl _)
    rw [List.take_length] at hs
    obtain ⟨T, hT1, hT2⟩ := List.exists_perm_sublist hs hpm.symm
    rw [← pkL_len l, ← pkL_sum l, ← hT1.length_eq, ← perm_sum hT1, sumI_take Y _ hT2.length_le]
    exact sub_sum hT2 hord
  have hex : ∀ k, 1 ≤ k → k ≤ l.length → ∃ s, 1 ≤ s ∧ s < 2 ^ l.length ∧ csK s l.length = k ∧ csS l s l.length = sumI Y k := fun k hk1 hk => by
    obtain ⟨T, hT1, hT2⟩ := List.exists_perm_sublist (List.take_sublist k Y) hpm
    obtain ⟨s, hs, hp⟩ := pkL_of l l.length T (Nat.le_refl _) (by rw [List.take_length]; exact hT2)
    have hK : csK s l.length = k := by rw [← pkL_len l, hp, hT1.length_eq, List.length_take]; omega
    refine ⟨s, ?_, hs, hK, by rw [← pkL_sum l, hp, perm_sum hT1, sumI_take Y k (by omega)]⟩
    rcases Nat.eq_zero_or_pos s with h0 | h0
    · exfalso
      have : ∀ i, csK 0 i = 0 := fun i => by
        induction i with
        | zero => rfl
        | succ i ih => rw [csK, ih]; simp
      rw [h0, this] at hK
      omega
    · exact h0
  cases hc : couB Y l.length with
  | true =>
    unfold couB at hc
    rw [Bool.and_eq_true, Bool.not_eq_true', decide_eq_true_iff, ← trI_eq] at hc
    have hlow : ∀ i, i < l.length → tri2 i ≤ sumI Y (i + 1) := fun i hi => by
      refine Classical.byContradiction fun hh => ?_
      rw [lowB_yes hi (by omega)] at hc
      cases hc.1
    have hge : ∀ k, k ≤ l.length → trI k ≤ sumI Y k := fun k hk => by
      cases k with
      | zero => exact Int.le_refl _
      | succ i => rw [trI_succ]; exact hlow i (by omega)
    rw [badA_no (fun s h1 h2 => by
      unfold badS
      have hm := hmin s
      have hg := hge (csK s l.length) (csK_le s _)
      rw [decide_eq_false (by omega), Bool.false_or]
      by_cases hk : csK s l.length = l.length
      · have hpl := pkL_sub l s l.length (Nat.le_refl _)
        rw [List.take_length] at hpl
        have heq : pkL l s l.length = l := hpl.eq_of_length (by rw [pkL_len, hk])
        have hsum : csS l s l.length = l.sum := by rw [← pkL_sum l, heq]
        rw [hk, hsum, ← htot, hc.2, decide_eq_true rfl, Bool.true_and, decide_eq_false (by omega)]
      · rw [decide_eq_false hk, Bool.false_and])]
    rfl
  | false =>
    unfold couB at hc
    have hbad : badA l l.length (2 ^ l.length) = true := by
      cases hl : lowB Y l.length with
      | true =>
        obtain ⟨i, hi, h2⟩ := List.any_eq_true.1 hl
        have hi := List.mem_range.1 hi
        have h2 := of_decide_eq_true h2
        obtain ⟨s, s1, s2, s3, s4⟩ := hex (i + 1) (by omega) (by omega)
        refine badA_yes s1 s2 ?_
        unfold badS
        rw [s3, s4, trI_succ, decide_eq_true h2, Bool.true_or]
      | false =>
        rw [hl, Bool.not_false, Bool.true_and, decide_eq_false_iff_not, ← trI_eq] at hc
        have hlow : tri2 (l.length - 1) ≤ sumI Y (l.length - 1 + 1) := by
          refine Classical.byContradiction fun hh => ?_
          rw [lowB_yes (i := l.length - 1) (by omega) (by omega)] at hl
          cases hl
        rw [← trI_succ, show l.length - 1 + 1 = l.length by omega] at hlow
        obtain ⟨s, s1, s2, s3, s4⟩ := hex l.length h1 (Nat.le_refl _)
        refine badA_yes s1 s2 ?_
        unfold badS
        rw [s3, s4, decide_eq_true (rfl), decide_eq_true (show trI l.length < sumI Y l.length by omega)]
        simp
    rw [hbad]
    rfl
theorem coE_same (l : List Int) : coE l = cfE l := by
  unfold coE cfE
  split
  · rfl
  · split
    · rfl
    · split
      · rfl
      · obtain ⟨hpm, hord⟩ := insI_sorts (lt := ltI) (d := 0) (fun a b h => by unfold ltI at *; simp at h ⊢; omega) (fun a b c h1 h2 => by unfold ltI at *; simp at h1 h2 ⊢; omega) l
        rw [could_same hpm (hord.imp fun {a b} h => by unfold ltI at h; simp at h; exact h) (by omega)]

set_option maxHeartbeats 1000000 in
set_option maxRecDepth 100000 in
theorem tourCould_walk (w : World) (v : Value) (l : List Int) (hv : Sl w v l) (hi64 : ∀ x ∈ l, I64 x) :
    Calls Try.prog 6 #[v] w fun e w' => e = .returned (.bool true) ∧ Below w.heap.size w w' := by
  have H1 := hid (Could_any v l w hv hi64)
  have H2 := hid (fun w1 (hb : Below w.heap.size w w1) => CouldOf_any v l w1 (hv.below hb))
  rw [coE_same] at H1
  obtain ⟨a, c, N, rfl, hN, hl1, hl2⟩ := hv.open
  generalize (cfE l).1 = b at *
  generalize (cfE l).2 = z at *
  have hz : (z == z) = true := by simp
  have hb2 : (b == b) = true := by simp
  clear hv hl1 hl2 hN hi64
  go_enter Try.func6, Try.ntmps6
  go_wp2_with fail
  refine H1.out.mono ?_
  rintro e w1 ⟨rfl, hb1⟩
  have HB := hid hb1
  clear hb1
  go_wp2_with fail
  refine (H2.out _ HB.out).mono ?_
  rintro e w2 ⟨rfl, hb2'⟩
  have HB2 := hid (HB.out.trans (hb2'.mono HB.out.size))
  clear hb2' HB
  go_wp2
  go_ret
  exact ⟨by first | rfl | simp, HB2.out⟩
end Go.Proofs.Ythbpdfkaacgpoaa
