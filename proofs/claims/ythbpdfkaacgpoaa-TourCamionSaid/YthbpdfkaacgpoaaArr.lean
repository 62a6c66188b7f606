/-
  A block of the call's own that holds an array. No program in sight.
-/
import Derived.Test.YthbpdfkaacgpoaaBase
import Derived.Deep.MidRow
import Derived.BigQuiet
import Derived.RangeFuncBox
namespace Go.Proofs.Ythbpdfkaacgpoaa
set_option linter.unusedVariables false
open Go.RowKit

/-- A block that holds an array. -/
def Arr (w : World) (b : Nat) (t : TypeId) (xs : List Value) : Prop := w.heap[b]? = some (.cells xs.toArray t (0, 0))
theorem Arr.lt {w : World} {b : Nat} {t : TypeId} {xs : List Value} (h : Arr w b t xs) : b < w.heap.size := (Array.getElem?_eq_some_iff.1 h).1
theorem Arr.cell {w : World} {b : Nat} {t : TypeId} {xs : List Value} (h : Arr w b t xs) (i : Nat) : w.cell? ⟨b, i, none⟩ = xs[i]? := by simp [World.cell?, show w.heap[b]? = _ from h]
theorem Arr.frozen {w : World} {b : Nat} {t : TypeId} {xs : List Value} (h : Arr w b t xs) (i : Nat) : w.frozen? ⟨b, i, none⟩ = false := by simp [World.frozen?, show w.heap[b]? = _ from h]
theorem Arr.kept {w w' : World} {row : Option Nat} {b : Nat} {t : TypeId} {xs : List Value} (h : Arr w b t xs) (hg : w.grownBy w' row) (hne : some b ≠ row) : Arr w' b t xs := (hg.block b h.lt hne).trans h
theorem Arr.below {w w' : World} {b : Nat} {t : TypeId} {xs : List Value} (h : Arr w b t xs) (hb : Below w.heap.size w w') : Arr w' b t xs := (hb.block b h.lt).trans h
theorem Arr.alloc {w : World} {b : Nat} {t : TypeId} {xs : List Value} (h : Arr w b t xs) (o : Obj) : Arr (w.alloc o) b t xs := h.kept (World.grownBy_alloc w o none) (by simp)
theorem Arr.new (w : World) (t : TypeId) (xs : List Value) : Arr (w.alloc (.cells xs.toArray t)) w.heap.size t xs := World.alloc_heap_new w _
theorem Arr.stored {w : World} {b : Nat} {t : TypeId} {xs : List Value} (h : Arr w b t xs) (i : Nat) (v : Value) : Arr (w.setCell ⟨b, i, none⟩ v) b t (xs.set i v) ∧ w.grownBy (w.setCell ⟨b, i, none⟩ v) (some b) := by
  obtain ⟨hlt, hk⟩ := Array.getElem?_eq_some_iff.1 h
  refine ⟨?_, ⟨rfl, rfl, rfl, (KeepsWalks.setCell w _ v).size, fun k _ hk => Below.heap_setCell _ _ _ k (fun e => hk (by rw [e]))⟩⟩
  show (w.heap.modify b _)[b]? = _
  rw [Array.getElem?_eq_getElem (by rw [Array.size_modify]; exact hlt), Array.getElem_modify_self, hk]
  simp

theorem Arr.setCells {b : Nat} {t : TypeId} : ∀ (vs xs ys : List Value) (w : World), Arr w b t (xs ++ ys) → ys.length = vs.length → Arr (w.setCells b xs.length vs) b t (xs ++ vs)
  | [], xs, ys, w, h, hl => by
    obtain rfl : ys = [] := List.eq_nil_of_length_eq_zero hl
    exact h
  | v :: vs, xs, y :: ys, w, h, hl => by
    have h1 := (h.stored xs.length v).1
    rw [List.set_append_right _ _ (Nat.le_refl _), Nat.sub_self, List.set_cons_zero] at h1
    have h2 : Arr (w.setCell ⟨b, xs.length, none⟩ v) b t ((xs ++ [v]) ++ ys) := by simpa using h1
    have h3 := Arr.setCells vs (xs ++ [v]) ys _ h2 (by simpa using hl)
    rw [List.length_append] at h3
    simpa [World.setCells] using h3
theorem grown_setCells {b : Nat} : ∀ (vs : List Value) (o : Nat) (w : World), w.grownBy (w.setCells b o vs) (some b)
  | [], o, w => ⟨rfl, rfl, rfl, Nat.le_refl _, fun _ _ _ => rfl⟩
  | v :: vs, o, w => by
    have h1 : w.grownBy (w.setCell ⟨b, o, none⟩ v) (some b) := ⟨rfl, rfl, rfl, (KeepsWalks.setCell w _ v).size, fun k _ hk => Below.heap_setCell _ _ _ k (fun e => hk (by rw [e]))⟩
    have h2 := grown_setCells (b := b) vs (o + 1) (w.setCell ⟨b, o, none⟩ v)
    exact ⟨h2.os.trans h1.os, h2.tape.trans h1.tape, h2.output.trans h1.output, Nat.le_trans h1.size h2.size, fun k hk hne => (h2.block k (Nat.lt_of_lt_of_le hk h1.size) hne).trans (h1.block k hk hne)⟩
theorem Arr.range {w : World} {b : Nat} {t : TypeId} {xs : List Value} (h : Arr w b t xs) : w.rangeAt b 0 xs := fun j v hv => by rw [Nat.zero_add, h.cell]; exact hv
theorem Arr.there {w : World} {b : Nat} {t : TypeId} {xs : List Value} (h : Arr w b t xs) : w.there b 0 xs.length := fun j hj => by
  rw [Nat.zero_add, h.cell]
  exact ⟨by simp [hj], h.frozen j⟩

/-- An element of an array by value. -/
theorem run_index_cell {P : Program} (t e : TypeId) (n i : Nat) (cs : List Value) (x : Value) (w : World) (h : P.underlying t = some (.array n e)) (ha : ∀ w, (isAgg e).run P w = .ok false w) (hz : ∀ w, (sizeOf e).run P w = .ok 1 w) (hi : i < n) (hx : cs[i]? = some x) :
    (Instr.index t (.agg cs.toArray) (.int .i64 i)).run P w = .ok x w := by
  have h1 : (0 : Int) ≤ (i : Int) ∧ (i : Int) < (n : Int) := by omega
  simp [Instr.index, run_underlying h, asIntOf, h1, part, ha, hz, hx, Result.andThen, hi]
end Go.Proofs.Ythbpdfkaacgpoaa
