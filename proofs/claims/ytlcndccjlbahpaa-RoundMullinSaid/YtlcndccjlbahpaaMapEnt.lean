/-
  Maps of the call's own from integers to integers, by their keys: an entry made or found, then stored to. Conditions as each law states.
-/
import Derived.Test.YtlcndccjlbahpaaBase
import Derived.Maps.OwnSet
import Derived.Maps.OwnOps
import Derived.MapKept
import Derived.WideKeyEntry
namespace Go.Proofs.Ytlcndccjlbahpaa
set_option linter.unusedVariables false
open Go.RowKit Go.Maps Go.MapKept

def inr (x : Nat) (S : List Nat) : List Nat := if x ∈ S then S else S ++ [x]
/-- Block b is a map whose keys, in the order in which they came, are those of S. -/
def MI (w : World) (b : Nat) (S : List Nat) : Prop :=
  ∃ es clock, w.heap[b]? = some (.map es clock) ∧ Stamped es clock ∧ es.toList.map (·.key) = S.map fun x : Nat => Value.int .i64 (x : Int)
theorem MI.keys {es : Array MapEntry} {S : List Nat} (h : es.toList.map (·.key) = S.map fun x : Nat => Value.int .i64 (x : Int)) : ∀ x ∈ es.toList, IsKey (.int .i64) x.key := by
  intro x hx
  have : x.key ∈ es.toList.map (·.key) := List.mem_map.2 ⟨x, hx, rfl⟩
  rw [h] at this
  obtain ⟨y, _, e⟩ := List.mem_map.1 this
  rw [← e]
  rfl
theorem MI.new (w : World) : MI (w.alloc (.map #[] 0)) w.heap.size [] := ⟨#[], 0, Go.heap_alloc_new w _, stamped_empty 0, rfl⟩
theorem MI.below {w w' : World} {b : Nat} {S : List Nat} (h : MI w b S) (hb : Below w.heap.size w w') : MI w' b S := by
  obtain ⟨es, cl, h1, h2⟩ := h
  exact ⟨es, cl, (hb.block b (Array.getElem?_eq_some_iff.1 h1).1).trans h1, h2⟩
theorem MI.kept {row : Option Nat} {w w' : World} {b : Nat} {S : List Nat} (h : MI w b S) (hg : w.grownBy w' row) (hne : some b ≠ row) : MI w' b S := by
  obtain ⟨es, cl, h1, h2⟩ := h
  exact ⟨es, cl, (hg.block b (Array.getElem?_eq_some_iff.1 h1).1 hne).trans h1, h2⟩
theorem MI.lt {w : World} {b : Nat} {S : List Nat} (h : MI w b S) : b < w.heap.size := by
  obtain ⟨es, cl, h1, h2⟩ := h
  exact (Array.getElem?_eq_some_iff.1 h1).1
/-- The world with another thing in block b. -/
def put (w : World) (b : Nat) (o : Obj) : World := { w with heap := w.heap.setIfInBounds b o }
theorem put_drew (w : World) (b : Nat) (o : Obj) : put w.drew b o = (put w b o).drew := rfl
theorem put_grown {w : World} {b : Nat} (o : Obj) : w.grownBy (put w b o) (some b) := by
  refine ⟨rfl, rfl, rfl, by simp [put], fun k hk hne => ?_⟩
  have : b ≠ k := fun e => hne (by rw [e])
  simp [put, this]
theorem put_at {w : World} {b : Nat} {o o' : Obj} (h : w.heap[b]? = some o) : (put w b o').heap[b]? = some o' := (heap_set h).1

/-- Where an entry lies. -/
def Stp (w : World) (b : Nat) (S : List Nat) (st : Nat) : Prop := ∃ (es : Array MapEntry) (clock j : Nat) (e : MapEntry), w.heap[b]? = some (.map es clock) ∧ Stamped es clock ∧ es.toList.map (·.key) = (S.map fun x : Nat => Value.int .i64 (x : Int)) ∧ es[j]? = some e ∧ e.born = st

theorem MI.entry {P : Program} {t K E : TypeId} {z : Value} (ht : P.underlying t = some (.map K E)) (hK : P.underlying K = some (.int .i64)) (hz : ∀ u : World, (zeroValue E).run P u = .ok z u) {w : World} {b : Nat} {S : List Nat} (h : MI w b S) (x : Nat) :
    ∃ v0 st w1, (Instr.mapEntry t (.map (some b)) (.int .i64 (x : Int))).run P w = .ok (.tuple #[v0, .int .i64 ((st : Nat) : Int)]) w1 ∧ Stp w1 b (inr x S) st ∧ w.grownBy w1 (some b) := by
  obtain ⟨es, clock, hb, hs, hk⟩ := h
  have hkey : IsKey (.int .i64) (.int .i64 (x : Int)) := rfl
  have hks := MI.keys hk
  have hck : (Instr.checkKey false 10000 K (.int .i64 (x : Int))).run P w = .ok () w := run_checkKey hK hkey false 9999
  rcases findNow_spec hkey es.toList 0 hks with ⟨h1, h2⟩ | ⟨j, e, h1, h2, h3⟩
  · refine ⟨z, clock, put w b (.map (es.push ⟨.int .i64 (x : Int), z, clock⟩) (clock + 1)), ?_, ⟨_, _, es.size, ⟨.int .i64 (x : Int), z, clock⟩, put_at hb, stamped_push hs h2, ?_, by simp, rfl⟩, put_grown _⟩
    · simp [Instr.mapEntry, run_underlying ht, MapKept.run_getObj_map hb, hck, run_findKey hK h1, hz, MapKept.run_setObj_map _ hb, Result.andThen, put, goInt]
    · have hx : x ∉ S := by
        intro hx
        have : Value.int .i64 (x : Int) ∈ es.toList.map (·.key) := by rw [hk]; exact List.mem_map.2 ⟨x, hx, rfl⟩
        obtain ⟨e, he, hee⟩ := List.mem_map.1 this
        exact h2 e he hee
      rw [inr, if_neg hx]
      simp [hk]
  · have hj : es[j]? = some e := by simpa using h2
    have hx : x ∈ S := by
      have : e.key ∈ es.toList.map (·.key) := List.mem_map.2 ⟨e, Array.mem_toList_iff.2 (Array.mem_of_getElem? hj), rfl⟩
      rw [hk, h3] at this
      obtain ⟨y, hy, hyy⟩ := List.mem_map.1 this
      simp only [Value.int.injEq, true_and] at hyy
      have : y = x := by omega
      rw [← this]; exact hy
    have hkk : ∀ e', es[j]? = some e' → ({ e' with key := Value.int .i64 (x : Int) } : MapEntry).key = e'.key := fun e' he' => by rw [hj] at he'; cases he'; exact h3.symm
    refine ⟨e.val, e.born, put w b (.map (es.modify j fun e => { e with key := .int .i64 (x : Int) }) clock), ?_, ⟨_, _, j, { e with key := .int .i64 (x : Int) }, put_at hb, stamped_modify hs _ _ (fun _ _ => rfl) (fun e' _ he' => hkk e' he'), ?_, ?_, rfl⟩, put_grown _⟩
    · simp [Instr.mapEntry, run_underlying ht, MapKept.run_getObj_map hb, hck, run_findKey hK h1, hj, h3, run_keyThatStays hkey, MapKept.run_setObj_map _ hb, Result.andThen, put, goInt]
    · rw [modify_keys _ _ hkk, hk, inr, if_pos hx]
    · simp [Array.getElem?_modify, hj]
theorem Stp.store {P : Program} {t : TypeId} {w : World} {b : Nat} {S : List Nat} {st : Nat} (h : Stp w b S st) (val : Value) :
    ∃ w1, (Instr.entryStore t (.map (some b)) (.int .i64 (st : Int)) val).run P w = .ok () w1 ∧ MI w1 b S ∧ w.grownBy w1 (some b) := by
  obtain ⟨es, clock, j, e, hb, hs, hk, hj, rfl⟩ := h
  have hidx : es.findIdx? (fun x => ((x.born : Nat) : Int) == ((e.born : Nat) : Int)) = some j := by
    rw [WideElems.findIdx_arr]
    exact WideElems.findIdx_born hs.2.1 (by simpa using hj)
  refine ⟨put w b (.map (es.modify j fun e => { e with val := val }) clock), ?_, ⟨_, _, put_at hb, stamped_modify hs _ _ (fun _ _ => rfl) (fun _ _ _ => rfl), (modify_keys (es := es) j (fun e => { e with val := val }) (fun _ _ => rfl)).trans hk⟩, put_grown _⟩
  simp [Instr.entryStore, MapKept.run_getObj_map hb, asInt, asIntOf, hidx, MapKept.run_setObj_map _ hb, Result.andThen, put]
theorem MI.len {P : Program} {t K E : TypeId} (ht : P.underlying t = some (.map K E)) {w : World} {b : Nat} {S : List Nat} (h : MI w b S) (ty : TypeId) : (Builtin.len_ #[t] ty #[.map (some b)]).run P w = .ok (.int .i64 (S.length : Nat)) w := by
  obtain ⟨es, clock, hb, hs, hk⟩ := h
  have hl : es.size = S.length := by
    have := congrArg List.length hk
    simpa using this
  simp [Builtin.len_, run_underlying ht, MapKept.run_getObj_map hb, hl, Result.andThen, goInt]
end Go.Proofs.Ytlcndccjlbahpaa
