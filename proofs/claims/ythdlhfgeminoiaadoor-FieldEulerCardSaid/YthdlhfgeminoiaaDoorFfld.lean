/-
  A field that came in by value: its numbers, and its slice, which can be read.
-/
import Derived.Test.YthdlhfgeminoiaaDoorFwith
import Derived.Lib.SmallJoins
import Derived.ProofKit
import Derived.OpenShut
import Derived.SizedLaws
namespace Go.Proofs.YthdlhfgeminoiaaDoor
set_option linter.unusedVariables false
open Go.RowKit Go.ChangeShapes Go.WideShapes Go.ChangeAt

theorem fld_of_open {H : Type} {enc : TypeId × Value → H} {w : World} {base b0 : Nat} {held : Bool} {r : Reach} {v : Value} {d : DataW H} {p : List MemPlace}
    (hv : Value.okWide Tryd.prog w r b0 24 v) (h : DataW.Trod enc Tryd.prog w base (fun _ => true) held 24 v d p) (hsz : ∀ n ∈ d.weights Tryd.prog 24, n ≤ reachBytes) :
    ∃ (a k : Int) (u : Value) (low : List Int), v = fldV a k u ∧ I64 a ∧ I64 k ∧ Sl w u low ∧ ∀ x ∈ low, I64 x := by
  obtain ⟨v0, v1, v2, y0, y1, y2, n, rfl, rfl, rfl, h0, h1, h2⟩ := Joins.open_agg3 Tryd.underlying24 (by kernel_rfl) (by kernel_rfl) hv h
  obtain ⟨a, e0, rfl, w0⟩ := DataW.trod_int Tryd.underlying3 h0
  obtain ⟨k, e1, rfl, w1⟩ := DataW.trod_int Tryd.underlying3 h1
  obtain ⟨x, l, c, e2⟩ := Joins.slice_form Tryd.underlying22 h2
  simp only [List.cons.injEq, and_true] at e0 e1 e2
  subst e0 e1 e2
  obtain ⟨low, hs, hb⟩ := sl_of_open (a := x) (len := l) (cap := c) (d := y2.1) (ps := y2.2) Tryd.underlying22 Tryd.underlying3 (by kernel_rfl) (by kernel_rfl) h2 (fun elems spare hd => hsz _ (by
    rw [hd]
    simp [DataW.weights, DataW.weightsEach, Tryd.underlying24, Tryd.underlying22]))
  exact ⟨a, k, _, low, rfl, I64.of_wf w0, I64.of_wf w1, hs, hb⟩
end Go.Proofs.YthdlhfgeminoiaaDoor
