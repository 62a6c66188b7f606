/-
  The walks over perm.kind and what it says: how many cycles of each length there are. Condition: the slice can be read and is a permutation.
-/
import Derived.Test.YtgfdddknajeknaaDoorPcyc
import Derived.Deep.MidRow
namespace Go.Proofs.YtgfdddknajeknaaDoor
set_option linter.unusedVariables false
open Go.RowKit

/-- How many lists of each length. -/
def kcL (ll : List (List Int)) : List Value := (List.range 13).map fun c : Nat => Value.int .i64 ((ll.countP (fun l => l.length == c) : Nat) : Int)
theorem kc_len (ll : List (List Int)) : (kcL ll).length = 13 := by simp [kcL]
theorem kc_one {ll : List (List Int)} : (kcL ll).toArray.all (·.oneCell') = true := by simp [kcL, Value.oneCell']
theorem kc_get {ll : List (List Int)} {c : Nat} (h : c < 13) : (kcL ll)[c]? = some (.int .i64 ((ll.countP (fun l => l.length == c) : Nat) : Int)) := by simp [kcL, h]
theorem kc_set {ll : List (List Int)} {l : List Int} (h : l.length < 13) : (kcL ll).set l.length (.int .i64 ((ll.countP (fun x => x.length == l.length) : Nat) + 1 : Int)) = kcL (ll ++ [l]) := by
  refine List.ext_getElem? fun i => ?_
  by_cases e : l.length = i
  · subst e
    rw [List.getElem?_set_self (by simpa [kcL] using h), kc_get h, List.countP_append]
    simp
  · rw [List.getElem?_set_ne e]
    by_cases hi : i < 13
    · rw [kc_get hi, kc_get hi, List.countP_append]
      have : List.countP (fun x => x.length == i) [l] = 0 := by simp [e]
      rw [this]
      rfl
    · simp [kcL, hi]

end Go.Proofs.YtgfdddknajeknaaDoor
