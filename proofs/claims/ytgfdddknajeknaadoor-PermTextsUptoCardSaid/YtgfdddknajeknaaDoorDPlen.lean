/-
  The walk over parterreref1.Lengths; when two have as many cycles of each length. Conditions: the slice can be read and is a permutation.
-/
import Derived.Test.YtgfdddknajeknaaDoorDPkind
import Derived.Test.YtgfdddknajeknaaDoorDPcomp
namespace Go.Proofs.YtgfdddknajeknaaDoor
set_option linter.unusedVariables false
open Go.RowKit

def lenL (f : Nat → Nat) (N k : Nat) : List Int := (List.range (N + 1)).map fun c => ((sumN (fun i => if per f N i = c then 1 else 0) k : Nat) : Int)
theorem lenL_len (f : Nat → Nat) (N k : Nat) : (lenL f N k).length = N + 1 := by simp [lenL]
theorem lenL_get {f : Nat → Nat} {N k c : Nat} (h : c < N + 1) : (lenL f N k).getD c 0 = ((sumN (fun i => if per f N i = c then 1 else 0) k : Nat) : Int) := by simp [lenL, h]
theorem lenL_zero (f : Nat → Nat) (N : Nat) : lenL f N 0 = List.replicate (N + 1) 0 := by
  refine List.ext_getElem (by simp [lenL]) fun i h1 h2 => ?_
  simp [lenL, sumN]
theorem lenL_set {f : Nat → Nat} {N k : Nat} (h : per f N k < N + 1) : (lenL f N k).set (per f N k) ((lenL f N k).getD (per f N k) 0 + 1) = lenL f N (k + 1) := by
  refine List.ext_getElem? fun i => ?_
  by_cases e : per f N k = i
  · subst e
    rw [List.getElem?_set_self (by rw [lenL_len]; exact h), lenL_get h]
    simp [lenL, h, sumN]
  · rw [List.getElem?_set_ne e]
    by_cases hi : i < N + 1
    · simp [lenL, hi, sumN, e]
    · simp [lenL, hi]
theorem sumN_le (g : Nat → Nat) (h : ∀ i, g i ≤ 1) : ∀ k, sumN g k ≤ k
  | 0 => Nat.le_refl _
  | k + 1 => by
    have := sumN_le g h k
    have := h k
    simp only [sumN]; omega

end Go.Proofs.YtgfdddknajeknaaDoor
