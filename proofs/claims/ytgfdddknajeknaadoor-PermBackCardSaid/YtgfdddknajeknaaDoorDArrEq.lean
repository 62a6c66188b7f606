/-
  Two arrays of integers, compared: are the lists the same? No condition but that the lists are as long as the array.
-/
import Derived.Test.YtgfdddknajeknaaDoorBase
import Derived.ChangeKeysEq
import Derived.Laws.StructEq
namespace Go.Proofs.YtgfdddknajeknaaDoor
set_option linter.unusedVariables false
open Go.RowKit

theorem run_eqItems_ints {P : Program} (w : World) (d : Nat) {e : TypeId} (hu : P.underlying e = some (.int .i64)) (hc : P.cellsOf e = 1) (xs ys : List Int) : ∀ (is : List Nat), (∀ i ∈ is, i < xs.length ∧ i < ys.length) →
    (Op.eqItems (d + 1) e (P.cellsOf e) (xs.map (Value.int .i64)).toArray (ys.map (Value.int .i64)).toArray is).run P w = .ok (is.all fun i => xs.getD i 0 == ys.getD i 0) w
  | [], _ => by simp [Op.eqItems]
  | i :: is, h => by
    obtain ⟨h1, h2⟩ := h i (by simp)
    have ih := run_eqItems_ints w d hu hc xs ys is fun j hj => h j (by simp [hj])
    have hp : P.plainKey e = true := by simp [Program.plainKey, hu]
    have p1 : (part e (xs.map (Value.int .i64)).toArray i).run P w = .ok (.int .i64 (xs.getD i 0)) w := run_part_plain w hp (by simp [h1])
    have p2 : (part e (ys.map (Value.int .i64)).toArray i).run P w = .ok (.int .i64 (ys.getD i 0)) w := run_part_plain w hp (by simp [h2])
    rw [hc] at ih ⊢
    simp only [Op.eqItems, Nat.mul_one, Sem.run_bind, p1, p2, Result.andThen_ok, run_equalIn_int w d e .i64 .i64 _ _ hu, List.all_cons]
    cases hq : (xs.getD i 0 == ys.getD i 0)
    · simp
    · simp only [Bool.not_true, Bool.false_eq_true, if_false, Bool.true_and]
      exact ih
theorem all_eq_iff {xs ys : List Int} {n : Nat} (hx : xs.length = n) (hy : ys.length = n) : ((List.range n).all fun i => xs.getD i 0 == ys.getD i 0) = decide (xs = ys) := by
  rw [Bool.eq_iff_iff, List.all_eq_true, decide_eq_true_eq]
  constructor
  · intro h
    refine List.ext_getElem (by omega) fun i h1 h2 => ?_
    have := h i (List.mem_range.2 (by omega))
    simpa [h1, h2] using this
  · intro h i _
    rw [h]; simp
/-- THE LAW. -/
theorem run_eq_ints {P : Program} (w : World) (d : Nat) {t e : TypeId} {n : Nat} {i : TypeInfo} (hu : P.underlying t = some (.array n e)) (he : P.underlying e = some (.int .i64)) (hi : P.info? e = some i) (hc : P.cellsOf e = 1) {xs ys : List Int} (hx : xs.length = n) (hy : ys.length = n) :
    (Op.equalIn (d + 2) t (.agg (xs.map (Value.int .i64)).toArray) (.agg (ys.map (Value.int .i64)).toArray)).run P w = .ok (decide (xs = ys)) w := by
  rw [run_equalIn_array w (d + 1) _ _ hu hi, run_eqItems_ints w d he hc xs ys _ (fun i hi => by have := List.mem_range.1 hi; omega), all_eq_iff hx hy]
end Go.Proofs.YtgfdddknajeknaaDoor
