/-
  Does a number stand in a list? By its places. No program in sight.
-/
import Derived.Test.YtgfdddknajeknaaDoorBase
namespace Go.Proofs.YtgfdddknajeknaaDoor
set_option linter.unusedVariables false

theorem lies_not {l : List Int} {x : Int} (h : ∀ i, i < l.length → l[i]?.getD 0 ≠ x) : decide (x ∈ l) = false := by
  rw [decide_eq_false_iff_not]
  intro hx
  obtain ⟨i, hi, e⟩ := List.mem_iff_getElem.1 hx
  exact h i hi (by rw [List.getElem?_eq_getElem hi]; exact e)
theorem lies_yes {l : List Int} {x : Int} {i : Nat} (hi : i < l.length) (h : l[i]?.getD 0 = x) : decide (x ∈ l) = true := by
  rw [decide_eq_true_iff, ← h, List.getElem?_eq_getElem hi]
  exact List.getElem_mem _
end Go.Proofs.YtgfdddknajeknaaDoor
