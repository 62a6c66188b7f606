/-
  The walks over perm.Sign and parterreref1.PermSign. Conditions: the slice can be read; a permutation where it is said.
-/
import Derived.Test.YtgfdddknajeknaaDoorDPord
import Derived.Test.YtgfdddknajeknaaDoorPsgn
namespace Go.Proofs.YtgfdddknajeknaaDoor
set_option linter.unusedVariables false
open Go.RowKit

def sgnZ (k : Nat) : Int := if k % 2 = 0 then 1 else -1
theorem sgn_mod {a b : Nat} (h : a % 2 = b % 2) : sgnZ a = sgnZ b := by unfold sgnZ; rw [h]
theorem sgn_succ (k : Nat) : sgnZ (k + 1) = -sgnZ k := by
  unfold sgnZ
  by_cases h : k % 2 = 0
  · rw [if_pos h, if_neg (by omega)]
  · rw [if_neg h, if_pos (by omega)]; rfl
theorem sgn_bd (k : Nat) : sgnZ k = 1 ∨ sgnZ k = -1 := by
  unfold sgnZ
  split
  · exact .inl rfl
  · exact .inr rfl
theorem sgn_add (a b : Nat) : sgnZ (a + b) = sgnZ a * sgnZ b := by
  unfold sgnZ
  by_cases h1 : a % 2 = 0
  · by_cases h2 : b % 2 = 0
    · rw [if_pos h1, if_pos h2, if_pos (by omega)]; rfl
    · rw [if_pos h1, if_neg h2, if_neg (by omega)]; rfl
  · by_cases h2 : b % 2 = 0
    · rw [if_neg h1, if_pos h2, if_neg (by omega)]; rfl
    · rw [if_neg h1, if_neg h2, if_pos (by omega)]; rfl

end Go.Proofs.YtgfdddknajeknaaDoor
