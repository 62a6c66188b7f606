/-
  The walk over perm.Unrank. Conditions: a size and a rank within bounds where it is said.
-/
import Derived.Test.YtnbgnoimanpjnaaGUnrP
namespace Go.Proofs.Ytnbgnoimanpjnaa
set_option linter.unusedVariables false
open Go.RowKit

theorem Apart.symm {u v : Value} (h : Apart u v) : Apart v u := fun g h1 h2 => h g h2 h1
theorem Apart.same {u u' v : Value} (h : Apart u v) (e : u'.ownBlock = u.ownBlock) : Apart u' v := fun g h1 h2 => h g (by rw [← e]; exact h1) h2

theorem intsL_erase : ∀ (L : List Nat) (i : Nat), (intsL L).eraseIdx i = intsL (L.eraseIdx i)
  | [], _ => rfl
  | _ :: _, 0 => rfl
  | x :: L, i + 1 => by
    have ih := intsL_erase L i
    simp only [intsL, List.map_cons, List.eraseIdx_cons_succ] at ih ⊢
    rw [ih]
/-- A rank out of bounds; the list. -/
def unrEnd (n : Nat) (k : Int) (w : World) (e : Ending) (w' : World) : Prop :=
  ((k < 0 ∨ (fac n : Int) ≤ k) ∧ e = .returned (.tuple #[.slice none 0 0, .int .i64 1]) ∨ ¬ (k < 0 ∨ (fac n : Int) ≤ k) ∧ ∃ u, e = .returned (.tuple #[u, .int .i64 0]) ∧ OI w.heap.size w' u (intsL (outL n k.toNat n))) ∧ Below w.heap.size w w'
theorem intsL_getD (L : List Nat) (i : Nat) (h : i < L.length) : (intsL L).getD i 0 = ((L.getD i 0 : Nat) : Int) := by
  simp [intsL, List.getD_eq_getElem?_getD, h]

end Go.Proofs.Ytnbgnoimanpjnaa
