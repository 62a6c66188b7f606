/-
  slices.Delete of one number from a slice of the call's own: the kit's proved contract, laid at this program by hand, in the words of XBase. Condition: the place lies in the slice.
-/
import Derived.Test.YtgfdddknajeknaaDoorBase
import Derived.Shelf.Slices.Delete
namespace Go.Proofs.YtgfdddknajeknaaDoor
set_option linter.unusedVariables false
open Go.RowKit Go.Shelf Go.Lib Go.Sort

def delRen : Ren := ⟨fun x => match x with | 23 => 22 | n => n, fun x => match x with | 0 => 0 | 3 => 3 | 4 => 4 | 22 => 22 | n => n, fun n => n⟩
theorem delLays : Lays2.n23 Tryd.prog delRen where
  mixed := by kernel_rfl
  f23 := Tryd.func22.trans (congrArg some (by kernel_rfl))
  t0 := Tryd.underlying0
  a0 := Tryd.isAgg0
  z0 := Tryd.sizeOf0
  v0 := Tryd.zeroValue0
  t3 := Tryd.underlying3
  a3 := Tryd.isAgg3
  z3 := Tryd.sizeOf3
  v3 := Tryd.zeroValue3
  t4 := Tryd.underlying4
  a4 := Tryd.isAgg4
  z4 := Tryd.sizeOf4
  v4 := Tryd.zeroValue4
  t22 := Tryd.underlying22
  a22 := Tryd.isAgg22
  z22 := Tryd.sizeOf22
  v22 := Tryd.zeroValue22
  i3 := by kernel_rfl

theorem grownBy_put {w : World} {g n : Nat} (d : Array Int) : w.grownBy (putRow (Value.int .i64) (Sort.ahead w n) g 0 d) (some g) := by
  refine ⟨rfl, rfl, rfl, by simp [Sort.ahead], fun k hk hne => ?_⟩
  have : g ≠ k := fun e => hne (by rw [e])
  simp [putRow, mapBlock, Sort.ahead, Array.getElem?_modify, this]

theorem heap_put {w : World} {g n : Nat} {cur : Array Value} {e : TypeId} {fr : Nat × Nat} (d : Array Int) (hb : w.heap[g]? = some (.cells cur e fr)) :
    (putRow (Value.int .i64) (Sort.ahead w n) g 0 d).heap[g]? = some (.cells (putCells (Value.int .i64) 0 d cur) e fr) := by
  simp [putRow, mapBlock, Sort.ahead, Array.getElem?_modify, hb, onCells]

theorem take_put (cur : Array Value) (ts : List Int) (h : ts.length ≤ cur.size) : (putCells (Value.int .i64) 0 ts.toArray cur).toList.take ts.length = ts.map (Value.int .i64) := by
  apply List.ext_getElem?
  intro j
  by_cases hj : j < ts.length
  · rw [List.getElem?_take_of_lt hj, Array.getElem?_toList]
    simp [putCells, hj, show j < cur.size by omega]
  · rw [List.getElem?_take_eq_none (by omega), List.getElem?_eq_none (by simp; omega)]

/-- Behind a row that is laid over with as many numbers the same slice owns the new ones. -/
theorem OI.put {B g c n : Nat} {w : World} {l ts : List Int} (h : OI B w (.slice (some ⟨g, 0, none⟩) l.length c) l) (hl : ts.length = l.length) :
    OI B (putRow (Value.int .i64) (Sort.ahead w n) g 0 ts.toArray) (.slice (some ⟨g, 0, none⟩) ts.length c) ts := by
  unfold OI Ow
  rcases h.2 with ⟨h1, _⟩ | ⟨g', cap, cur, h1, hb, hg, hnc, hcm, hcs, htake⟩
  · simp at h1
  · simp only [Value.slice.injEq, Option.some.injEq, Addr.mk.injEq, and_true] at h1
    obtain ⟨rfl, _, rfl⟩ := h1
    rw [List.length_map] at hnc
    refine ⟨by simp, .inr ⟨g, c, _, by simp, hb, heap_put _ hg, by simpa [hl] using hnc, hcm, by simp [putCells, hcs], ?_⟩⟩
    rw [Nat.mul_one, List.length_map]
    exact take_put cur ts (by omega)

theorem OI.capm {B g c n : Nat} {w : World} {l : List Int} (h : OI B w (.slice (some ⟨g, 0, none⟩) n c) l) : c ≤ 9223372036854775807 := by
  rcases h.2 with ⟨h1, _⟩ | ⟨g', cap, cur, h1, hb, hg, hnc, hcm, hcs, htake⟩
  · simp at h1
  · simp only [Value.slice.injEq, Option.some.injEq, Addr.mk.injEq, and_true] at h1
    obtain ⟨rfl, _, rfl⟩ := h1
    unfold maxLen at hcm
    omega

theorem delete_own {B : Nat} {v : Value} {l : List Int} {w : World} (i : Nat) (h : OI B w v l) (hi : i < l.length) :
    Calls Tryd.prog 22 #[v, .int .i64 i, .int .i64 ((i : Int) + 1)] w fun e w' => ∃ v', e = .returned v' ∧ OI B w' v' (l.eraseIdx i) ∧ w.grownBy w' v.ownBlock ∧ v'.ownBlock = v.ownBlock := by
  obtain ⟨g, c, rfl, hB, hg⟩ := h.form (by omega)
  have hH : Holds (Value.int .i64) w g 0 l.toArray := by
    intro j hj
    have hj' : j < l.length := by simpa using hj
    refine ⟨?_, ?_⟩
    · rw [Nat.zero_add, h.cell j hj']
      simp [hj', List.getD_eq_getElem?_getD]
    · rw [Nat.zero_add]
      exact h.frozen j
  have hc := Any.slices_Delete_int delLays g 0 c i (i + 1) l w hH h.cap h.capm (by omega) (by omega)
  refine (show Calls Tryd.prog 22 #[.slice (some ⟨g, 0, none⟩) l.length c, .int .i64 i, .int .i64 ((i : Int) + 1)] w _ from hc).mono ?_
  rintro e w' ⟨rfl, q, rfl⟩
  have hlen : (l.take i ++ l.drop (i + 1) ++ List.replicate (i + 1 - i) 0).length = l.length := by simp; omega
  have h2 := h.put (n := q) hlen
  have h3 := h2.take (l.length - 1) (by rw [hlen]; omega)
  refine ⟨_, rfl, ?_, grownBy_put _, rfl⟩
  rw [show l.length - (i + 1 - i) = l.length - 1 by omega]
  refine h3.cast ?_
  rw [List.take_append_of_le_length (by simp; omega), List.take_of_length_le (by simp; omega), ← List.eraseIdx_eq_take_drop_succ]
end Go.Proofs.YtgfdddknajeknaaDoor
