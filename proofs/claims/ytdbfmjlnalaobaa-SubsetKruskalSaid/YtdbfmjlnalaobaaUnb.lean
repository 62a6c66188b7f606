/-
  Lists of a rank: the greatest that goes, one by one. No program in sight.
-/
import Derived.Test.YtdbfmjlnalaobaaBin
namespace Go.Proofs.Ytdbfmjlnalaobaa
set_option linter.unusedVariables false

/-- The greatest n up to a bound with C(n, i) at most r. -/
def topG (i r : Nat) : Nat → Nat
  | 0 => 0
  | t + 1 => if bin (t + 1) i ≤ r then t + 1 else topG i r t
def topN (i r : Nat) : Nat := topG i r 60
theorem topG_spec {i r : Nat} (hi : 1 ≤ i) : ∀ t, bin (topG i r t) i ≤ r ∧ topG i r t ≤ t ∧ ∀ n, topG i r t < n → n ≤ t → r < bin n i
  | 0 => by
    refine ⟨?_, Nat.le_refl _, fun n h1 h2 => by simp only [topG] at h1; omega⟩
    simp only [topG]
    rw [bin_none 0 i (by omega)]
    omega
  | t + 1 => by
    obtain ⟨h1, h2, h3⟩ := topG_spec (r := r) hi t
    simp only [topG]
    by_cases h : bin (t + 1) i ≤ r
    · rw [if_pos h]
      exact ⟨h, Nat.le_refl _, fun n a b => by omega⟩
    · rw [if_neg h]
      refine ⟨h1, by omega, fun n a b => ?_⟩
      by_cases e : n = t + 1
      · subst e; omega
      · exact h3 n a (by omega)
theorem topN_spec {i r : Nat} (hi : 1 ≤ i) (hr : r < bin 61 i) : bin (topN i r) i ≤ r ∧ topN i r ≤ 60 ∧ i ≤ topN i r + 1 ∧ r < bin (topN i r + 1) i := by
  obtain ⟨h1, h2, h3⟩ := topG_spec (r := r) hi 60
  have h4 : i ≤ 61 := by
    rcases Nat.lt_or_ge 61 i with h | h
    · rw [bin_none 61 i h] at hr; omega
    · exact h
  refine ⟨h1, h2, ?_, ?_⟩
  · rcases Nat.lt_or_ge (topN i r + 1) i with h | h
    · have h5 := h3 (i - 1) (by show topN i r < i - 1; omega) (by omega)
      rw [bin_none (i - 1) i (by omega)] at h5
      omega
    · exact h
  · by_cases e : topN i r = 60
    · rw [e]; exact hr
    · have h2' : topN i r ≤ 60 := h2
      exact h3 _ (by show topN i r < topN i r + 1; omega) (by omega)
theorem topN_only {i r n : Nat} (hi : 1 ≤ i) (hr : r < bin 61 i) (h1 : bin n i ≤ r) (h2 : r < bin (n + 1) i) : n = topN i r := by
  obtain ⟨g1, g2, _, g4⟩ := topN_spec hi hr
  rcases Nat.lt_trichotomy n (topN i r) with h | h | h
  · have := bin_mono (show n + 1 ≤ topN i r by omega) i; omega
  · exact h
  · have := bin_mono (show topN i r + 1 ≤ n by omega) i; omega

/-- What is left of a rank after t numbers of k; the number found in step t. -/
def rrN (k r : Nat) : Nat → Nat
  | 0 => r
  | t + 1 => rrN k r t - bin (topN (k - t) (rrN k r t)) (k - t)
def tpN (k r t : Nat) : Nat := topN (k - t) (rrN k r t)
theorem rr_lt {k r : Nat} (hr : r < bin 61 k) : ∀ t, t < k → rrN k r t < bin 61 (k - t) ∧ bin (tpN k r t) (k - t) ≤ rrN k r t ∧ tpN k r t ≤ 60 ∧ k - t ≤ tpN k r t + 1 ∧ rrN k r t < bin (tpN k r t + 1) (k - t) ∧ rrN k r (t + 1) < bin (tpN k r t) (k - t - 1)
  | t, ht => by
    have h0 : rrN k r t < bin 61 (k - t) := by
      cases t with
      | zero => exact hr
      | succ t =>
        have := (rr_lt hr t (by omega)).2.2.2.2.2
        refine Nat.lt_of_lt_of_le this (Nat.le_trans (Nat.le_of_eq ?_) (bin_mono (show tpN k r t ≤ 61 by have := (rr_lt hr t (by omega)).2.2.1; omega) _))
        rw [show k - t - 1 = k - (t + 1) by omega]
    obtain ⟨h1, h2, h3, h4⟩ := topN_spec (show 1 ≤ k - t by omega) h0
    refine ⟨h0, h1, h2, h3, h4, ?_⟩
    simp only [rrN]
    have e : bin (tpN k r t + 1) (k - t) = bin (tpN k r t) (k - t - 1) + bin (tpN k r t) (k - t) := by
      rw [show k - t = (k - t - 1) + 1 by omega]; rfl
    have h4' : rrN k r t < bin (tpN k r t + 1) (k - t) := h4
    rw [e] at h4'
    show rrN k r t - bin (tpN k r t) (k - t) < _
    have h1' : bin (tpN k r t) (k - t) ≤ rrN k r t := h1
    omega
/-- The next number is below. -/
theorem tp_lt {k r : Nat} (hr : r < bin 61 k) {t : Nat} (ht : t + 1 < k) : tpN k r (t + 1) < tpN k r t := by
  obtain ⟨_, _, _, _, _, h5⟩ := rr_lt hr t (by omega)
  obtain ⟨_, g1, _, _, _, _⟩ := rr_lt hr (t + 1) (by omega)
  rcases Nat.lt_or_ge (tpN k r (t + 1)) (tpN k r t) with h | h
  · exact h
  · have := bin_mono h (k - t - 1)
    rw [show k - (t + 1) = k - t - 1 by omega] at g1
    omega
/-- The numbers after t steps: the last t of them. -/
def unbL (k r t : Nat) : List Int := (List.range k).map fun j => if k - t ≤ j then (tpN k r (k - 1 - j) : Int) else 0
theorem unb_len (k r t : Nat) : (unbL k r t).length = k := by simp [unbL]
theorem unb_get (k r t j : Nat) (h : j < k) : (unbL k r t)[j]? = some (if k - t ≤ j then (tpN k r (k - 1 - j) : Int) else 0) := by
  unfold unbL
  rw [List.getElem?_map, List.getElem?_range h]
  rfl
theorem unb_zero (k r : Nat) : unbL k r 0 = List.replicate k 0 := by
  apply List.ext_getElem?
  intro j
  by_cases h : j < k
  · rw [unb_get k r 0 j h, if_neg (by omega), List.getElem?_replicate, if_pos h]
  · rw [List.getElem?_eq_none (by rw [unb_len]; omega), List.getElem?_eq_none (by simp; omega)]
theorem unb_succ {k r t : Nat} (ht : t < k) : unbL k r (t + 1) = (unbL k r t).set (k - t - 1) (tpN k r t : Int) := by
  apply List.ext_getElem?
  intro j
  by_cases e : k - t - 1 = j
  · subst e
    rw [List.getElem?_set_self (by rw [unb_len]; omega), unb_get k r (t + 1) _ (by omega), if_pos (by omega), show k - 1 - (k - t - 1) = t by omega]
  · rw [List.getElem?_set_ne e]
    by_cases h : j < k
    · rw [unb_get k r (t + 1) j h, unb_get k r t j h]
      by_cases h2 : k - t ≤ j
      · rw [if_pos h2, if_pos (by omega)]
      · rw [if_neg h2, if_neg (by omega)]
    · rw [List.getElem?_eq_none (by rw [unb_len]; omega), List.getElem?_eq_none (by rw [unb_len]; omega)]
end Go.Proofs.Ytdbfmjlnalaobaa
