/-
  What a right tournament has: a side, one of two beats the other, a path of all. No program in sight.
-/
import Derived.Test.YthbpdfkaacgpoaaTcyc2
namespace Go.Proofs.Ythbpdfkaacgpoaa
set_option linter.unusedVariables false
open Go.RowKit

theorem tE_ok {n : Int} {l : List Int} (h : tE n l = 0) : ∃ S : Nat, n = (S : Int) ∧ 1 ≤ S ∧ S ≤ 9 ∧ l.length = S * S ∧ l.any off01 = false ∧ tB S l = false := by
  by_cases h1 : n < 1 ∨ 9 < n
  · rw [tE_range h1] at h; cases h
  · by_cases h2 : (l.length : Int) = n * n
    · obtain ⟨S, rfl⟩ := Int.eq_ofNat_of_zero_le (show 0 ≤ n by omega)
      cases h3 : l.any off01 with
      | true => rw [tE_off h1 h2 h3] at h; cases h
      | false =>
        rw [tE_in h1 h2 h3, Int.toNat_natCast] at h
        refine ⟨S, rfl, by omega, by omega, by rw [← Int.natCast_mul] at h2; omega, rfl, ?_⟩
        cases h4 : tB S l with
        | false => rfl
        | true => rw [h4, if_pos rfl] at h; cases h
    · rw [tE_shape h1 h2] at h; cases h
theorem tot_one {S : Nat} {l : List Int} (hS9 : S ≤ 9) (h0 : l.any off01 = false) (hB : tB S l = false) {i j : Nat} (hi : i < S) (hj : j < S) (hij : i ≠ j) : beB S l (S * S) (i * 9 + j) = true ∨ beB S l (S * S) (j * 9 + i) = true := by
  rw [beB_at hS9 hi hj, beB_at hS9 hj hi, beq_iff_eq, beq_iff_eq]
  have hb : ∀ a b, a < S → b ≤ a → badAt S l a b = false := fun a b ha hb => by
    cases h : badAt S l a b with
    | false => rfl
    | true => rw [tB_yes ha hb h] at hB; cases hB
  have hx := cells01 h0 (i * S + j)
  have hy := cells01 h0 (j * S + i)
  rcases Nat.lt_or_ge i j with h | h
  · have := hb j i hj (by omega)
    unfold badAt at this
    rw [if_neg (by omega), beq_eq_false_iff_ne] at this
    omega
  · have := hb i j hi (by omega)
    unfold badAt at this
    rw [if_neg hij, beq_eq_false_iff_ne] at this
    omega
theorem path_some {S : Nat} {l : List Int} (hS9 : S ≤ 9) (h0 : l.any off01 = false) (hB : tB S l = false) : ∃ r R, comp S (beB S l (S * S)) S [] = r :: R := by
  have h := comp_some (S := S) (SB := beB S l (S * S)) (fun i j hi hj hij => tot_one hS9 h0 hB hi hj hij)
  cases hc : comp S (beB S l (S * S)) S [] with
  | nil => exact absurd hc h
  | cons r R => exact ⟨r, R, rfl⟩
theorem cmpF_all (N : Nat) (SB : Nat → Bool) (f : Nat) (l : List Int) : cmpF N SB false f l = comp N SB f l := by
  unfold cmpF
  rw [List.filter_eq_self]
  intro a _
  rfl
theorem cmpF_ring (N : Nat) (SB : Nat → Bool) (f : Nat) (l : List Int) : cmpF N SB true f l = (comp N SB f l).filter (clB SB) := rfl
end Go.Proofs.Ythbpdfkaacgpoaa
