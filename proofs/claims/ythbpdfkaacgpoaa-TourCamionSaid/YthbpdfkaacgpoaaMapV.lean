/-
  A map of the call's own from ints to ints, by what it answers. Conditions as each law states.
-/
import Derived.Test.YthbpdfkaacgpoaaBase
import Derived.Maps.OwnSet
import Derived.Maps.OwnOps
namespace Go.Proofs.Ythbpdfkaacgpoaa
set_option linter.unusedVariables false
open Go.RowKit Go.Maps

/-- What is looked up. -/
def lookL : List (Nat × Nat) → Nat → Nat
  | [], _ => 0
  | p :: L, k => if p.1 = k then p.2 else lookL L k
def MV (w : World) (b n : Nat) (L : List (Nat × Nat)) : Prop :=
  ∃ D : DataW Unit, w.ownsMap Try.prog 3 (plainElem Try.prog 3) b n D ∧ ∀ k : Nat, D.atKey (.int .i64 (k : Int)) (.lit (.int .i64 0)) = .lit (.int .i64 (lookL L k : Nat))
section
variable {w w' : World} {b n : Nat} {L : List (Nat × Nat)}
theorem MV.new (w : World) : MV (w.alloc (.map #[] 0)) w.heap.size 0 [] := ⟨_, World.ownsMap_made w _ _ _, fun k => rfl⟩
theorem MV.lt (h : MV w b n L) : b < w.heap.size := h.choose_spec.1.lt
theorem MV.kept {row : Option Nat} (h : MV w b n L) (hg : w.grownBy w' row) (hne : some b ≠ row) : MV w' b n L := by
  obtain ⟨D, h1, h2⟩ := h
  exact ⟨D, h1.kept hg hne, h2⟩
theorem MV.below (h : MV w b n L) (hb : Below w.heap.size w w') : MV w' b n L := by
  obtain ⟨D, h1, h2⟩ := h
  obtain ⟨es, clock, hm, r⟩ := h1
  have hlt : b < w.heap.size := (Array.getElem?_eq_some_iff.1 hm).1
  exact ⟨D, ⟨es, clock, (hb.block b hlt).trans hm, r⟩, h2⟩
theorem MV.alloc (h : MV w b n L) (o : Obj) : MV (w.alloc o) b n L := h.kept (World.grownBy_alloc w o none) (by simp)
theorem MV.drew (h : MV w b n L) : MV w.drew b n L := h
theorem MV.drewN (h : MV w b n L) (m : Nat) : MV (w.drewN m) b n L := h
theorem MV.mono {n' : Nat} (h : MV w b n L) (hn : n ≤ n') : MV w b n' L := by
  obtain ⟨D, h1, h2⟩ := h
  exact ⟨D, h1.mono hn, h2⟩
theorem key_wf {k : Nat} (hk : k ≤ 1000) : (Lit.int .i64 (k : Int)).wf = true := by
  simp only [Lit.wf, IntKind.min, IntKind.max, IntKind.signed, IntKind.bits, Bool.and_eq_true, decide_eq_true_eq, if_true]
  omega
/-- The answer of a look-up. -/
theorem MV.look {t : TypeId} (ht : Try.prog.underlying t = some (.map 3 3)) (h : MV w b n L) {k : Nat} (hk : k ≤ 1000) : (Instr.lookup t (.map (some b)) (.int .i64 (k : Int)) false).run Try.prog w = .ok (.int .i64 (lookL L k : Nat)) w := by
  obtain ⟨D, h1, h2⟩ := h
  obtain ⟨c, hrun, hat, _⟩ := h1.lookup_int (int_keyed Try.underlying3) ht Try.underlying3 (Try.zeroValue3 w) (keyOf_int_mk Try.underlying3 (key_wf hk))
  rw [h2] at hat
  simp only [DataW.lit.injEq, Lit.int.injEq, true_and] at hat
  rw [← hat] at hrun
  exact hrun
/-- A store. -/
theorem MV.put {t : TypeId} (ht : Try.prog.underlying t = some (.map 3 3)) (h : MV w b n L) (hn : n ≤ 1000) {k v : Nat} (hk : k ≤ 1000) (hv : v ≤ 1000) : ∃ w', (Instr.mapUpdate t (.map (some b)) (.int .i64 (k : Int)) (.int .i64 (v : Int))).run Try.prog w = .ok () w' ∧ MV w' b (n + 1) ((k, v) :: L) ∧ w.grownBy w' (some b) := by
  obtain ⟨D, h1, h2⟩ := h
  obtain ⟨w', hrun, h3, h4⟩ := h1.update (int_keyed Try.underlying3) ht (by unfold maxLen; omega) (keyOf_int_mk Try.underlying3 (key_wf hk)) (plainElem_int Try.underlying3 (key_wf hv))
  refine ⟨w', hrun, ⟨_, h3, fun x => ?_⟩, h4⟩
  rw [lookL]
  by_cases e : k = x
  · subst e
    rw [if_pos rfl, atKey_put_same h1.isMap ((int_keyed Try.underlying3).key (keyOf_int_mk Try.underlying3 (key_wf hk)))]
  · rw [if_neg e, atKey_put_other (fun e2 => e (by
      simp only [Lit.int.injEq, true_and] at e2
      omega)), h2]
end
end Go.Proofs.Ythbpdfkaacgpoaa
