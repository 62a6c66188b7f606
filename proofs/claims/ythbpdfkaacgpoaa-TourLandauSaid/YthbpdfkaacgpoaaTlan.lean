/-
  Landau: a tournament's scores are enough for each set of players. No program in sight.
-/
import Derived.Test.YthbpdfkaacgpoaaTcouP
import Derived.Test.YthbpdfkaacgpoaaTscor
import Derived.Test.YthbpdfkaacgpoaaTlredei
namespace Go.Proofs.Ythbpdfkaacgpoaa
set_option linter.unusedVariables false
open Go.RowKit

/-- A sum over the chosen ones among the first so many. -/
def cSum (s : Nat) (f : Nat → Int) : Nat → Int
  | 0 => 0
  | i + 1 => if s / 2 ^ i % 2 = 1 then cSum s f i + f i else cSum s f i
theorem cSum_le {s : Nat} {f g : Nat → Int} : ∀ n, (∀ i, i < n → f i ≤ g i) → cSum s f n ≤ cSum s g n
  | 0, _ => Int.le_refl _
  | n + 1, h => by
    have := cSum_le (s := s) n (fun i hi => h i (by omega))
    have := h n (by omega)
    rw [cSum, cSum]
    split <;> omega
theorem cSum_congr {s : Nat} {f g : Nat → Int} : ∀ n, (∀ i, i < n → f i = g i) → cSum s f n = cSum s g n
  | 0, _ => rfl
  | n + 1, h => by rw [cSum, cSum, cSum_congr n (fun i hi => h i (by omega)), h n (by omega)]
theorem cSum_add {s : Nat} (f g : Nat → Int) : ∀ n, cSum s (fun i => f i + g i) n = cSum s f n + cSum s g n
  | 0 => rfl
  | n + 1 => by
    rw [cSum, cSum, cSum, cSum_add f g n]
    split <;> omega
theorem cSum_one (s : Nat) : ∀ n, cSum s (fun _ => 1) n = csK s n
  | 0 => rfl
  | n + 1 => by
    rw [cSum, csK, cSum_one s n]
    split <;> simp
theorem csS_cSum (l : List Int) (s : Nat) : ∀ n, csS l s n = cSum s (fun i => l.getD i 0) n
  | 0 => rfl
  | n + 1 => by rw [csS, cSum, csS_cSum l s n]
/-- Each with each, of the chosen ones. -/
theorem cSum_pairs {s : Nat} {c : Nat → Nat → Int} : ∀ n, (∀ i j, i < n → j < n → i ≠ j → c i j + c j i = 1) → (∀ i, i < n → c i i = 0) → 2 * cSum s (fun i => cSum s (c i) n) n = (csK s n : Int) * ((csK s n : Int) - 1)
  | 0, _, _ => by simp [cSum, csK]
  | n + 1, h1, h2 => by
    have ih := cSum_pairs (s := s) (c := c) n (fun i j hi hj => h1 i j (by omega) (by omega)) (fun i hi => h2 i (by omega))
    by_cases hb : s / 2 ^ n % 2 = 1
    · have e1 : cSum s (fun i => cSum s (c i) (n + 1)) (n + 1) = cSum s (fun i => cSum s (c i) n) n + cSum s (fun i => c i n) n + cSum s (c n) n := by
        have e2 : ∀ i, cSum s (c i) (n + 1) = cSum s (c i) n + c i n := fun i => by rw [cSum, if_pos hb]
        rw [cSum, if_pos hb, e2 n, h2 n (by omega)]
        rw [show (fun i => cSum s (c i) (n + 1)) = fun i => cSum s (c i) n + c i n from funext e2, cSum_add]
        omega
      have e3 : cSum s (fun i => c i n) n + cSum s (c n) n = csK s n := by
        rw [← cSum_add, ← cSum_one]
        exact cSum_congr n (fun i hi => h1 i n (by omega) (by omega) (by omega))
      have e4 : csK s (n + 1) = csK s n + 1 := by rw [csK, if_pos hb]
      rw [e1, e4]
      generalize cSum s (fun i => cSum s (c i) n) n = A at *
      have e5 : ((csK s n + 1 : Nat) : Int) * (((csK s n + 1 : Nat) : Int) - 1) = (csK s n : Int) * ((csK s n : Int) - 1) + 2 * csK s n := by
        rw [show ((csK s n + 1 : Nat) : Int) = (csK s n : Int) + 1 by omega, Int.add_sub_cancel, Int.add_mul, Int.mul_sub]
        omega
      omega
    · have e2 : ∀ i, cSum s (c i) (n + 1) = cSum s (c i) n := fun i => by rw [cSum, if_neg hb]
      rw [cSum, if_neg hb, show (fun i => cSum s (c i) (n + 1)) = fun i => cSum s (c i) n from funext e2, csK, if_neg hb, ih]
theorem cSum_full {s : Nat} {f : Nat → Int} : ∀ n, csK s n = n → (∀ i, i < n → s / 2 ^ i % 2 = 1)
  | 0, _, i, h => by omega
  | n + 1, hk, i, h => by
    rw [csK] at hk
    have := csK_le s n
    split at hk
    · rename_i hb
      by_cases e : i = n
      · rw [e]; exact hb
      · exact cSum_full (s := s) (f := f) n (by omega) i (by omega)
    · omega
theorem rowS_cSum {S : Nat} {l : List Int} (h0 : ∀ i, gD l i = 0 ∨ gD l i = 1) (s i : Nat) : ∀ j, cSum s (fun j => gD l (i * S + j)) j ≤ rowS S l i j ∧ ((∀ k, k < j → s / 2 ^ k % 2 = 1) → cSum s (fun j => gD l (i * S + j)) j = rowS S l i j)
  | 0 => ⟨Int.le_refl _, fun _ => rfl⟩
  | j + 1 => by
    obtain ⟨h1, h2⟩ := rowS_cSum (S := S) h0 s i j
    have := h0 (i * S + j)
    rw [cSum, rowS]
    refine ⟨by split <;> omega, fun h => ?_⟩
    rw [if_pos (h j (by omega)), h2 (fun k hk => h k (by omega))]
/-- A tournament's scores can be. -/
theorem land_could {S : Nat} {l : List Int} (hS1 : 1 ≤ S) (hS9 : S ≤ 9) (h0 : l.any off01 = false) (hB : tB S l = false) : coE (scL S l) = (true, 0) := by
  rw [coE_same]
  have hb : ∀ a b, a < S → b ≤ a → badAt S l a b = false := fun a b ha hb => by
    cases h : badAt S l a b with
    | false => rfl
    | true => rw [tB_yes ha hb h] at hB; cases hB
  have h01 := cells01 h0
  have hone : ∀ i j, i < S → j < S → i ≠ j → gD l (i * S + j) + gD l (j * S + i) = 1 := fun i j hi hj hij => by
    have hx := h01 (i * S + j)
    have hy := h01 (j * S + i)
    rcases Nat.lt_or_ge i j with h | h
    · have := hb j i hj (by omega)
      unfold badAt at this
      rw [if_neg (by omega), beq_eq_false_iff_ne] at this
      omega
    · have := hb i j hi (by omega)
      unfold badAt at this
      rw [if_neg hij, beq_eq_false_iff_ne] at this
      omega
  have hself : ∀ i, i < S → gD l (i * S + i) = 0 := fun i hi => by
    have := hb i i hi (Nat.le_refl _)
    unfold badAt at this
    rw [if_pos rfl, beq_eq_false_iff_ne] at this
    have := h01 (i * S + i)
    omega
  have hget : ∀ i, i < S → (scL S l).getD i 0 = rowS S l i S := fun i hi => by simp [scL, hi]
  have hoff : (scL S l).any (offN S) = false := by
    rw [List.any_eq_false]
    intro x hx
    obtain ⟨i, hi, rfl⟩ := List.mem_map.1 hx
    have hi := List.mem_range.1 hi
    have e1 := rowS_cnt hS9 h0 hi S (Nat.le_refl _)
    have e2 := score_le (S := S) (SB := beB S l (S * S)) (fun i hi => tot_irr hS9 h0 hB hi) hi
    unfold scN at e2
    unfold offN
    simp only [Bool.not_eq_true, Bool.or_eq_false_iff, decide_eq_false_iff_not]
    omega
  have hbad : badA (scL S l) S (2 ^ S) = false := badA_no (fun s h1 h2 => by
    have hp := cSum_pairs (s := s) (c := fun i j => gD l (i * S + j)) S hone hself
    have htr : trI (csK s S) = cSum s (fun i => cSum s (fun j => gD l (i * S + j)) S) S := by
      unfold trI
      rw [← hp, Int.mul_tdiv_cancel_left _ (by omega)]
    have hcs : csS (scL S l) s S = cSum s (fun i => rowS S l i S) S := by
      rw [csS_cSum]
      exact cSum_congr S hget
    have hge : trI (csK s S) ≤ csS (scL S l) s S := by
      rw [htr, hcs]
      exact cSum_le S (fun i hi => (rowS_cSum h01 s i S).1)
    unfold badS
    rw [decide_eq_false (by omega), Bool.false_or]
    by_cases hk : csK s S = S
    · have hall := cSum_full (s := s) (f := fun _ => 0) S hk
      have heq : csS (scL S l) s S = trI (csK s S) := by
        rw [htr, hcs]
        exact cSum_congr S (fun i hi => ((rowS_cSum h01 s i S).2 hall).symm)
      rw [heq, decide_eq_false (show ¬ trI (csK s S) < trI (csK s S) by omega), Bool.and_false]
    · rw [decide_eq_false hk, Bool.false_and])
  unfold cfE
  rw [scL_len, if_neg (by omega), if_neg (by omega), if_neg (by rw [hoff]; decide), hbad]
  rfl
end Go.Proofs.Ythbpdfkaacgpoaa
