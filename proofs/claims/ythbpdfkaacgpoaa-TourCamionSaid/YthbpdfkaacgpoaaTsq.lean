/-
  A square that came in by value: its side, and its slice, which can be read.
-/
import Derived.Test.YthbpdfkaacgpoaaTchk
import Derived.Lib.SmallJoins
import Derived.ProofKit
import Derived.OpenShut
import Derived.SizedLaws
namespace Go.Proofs.Ythbpdfkaacgpoaa
set_option linter.unusedVariables false
open Go.RowKit Go.ChangeShapes Go.WideShapes Go.ChangeAt

set_option maxRecDepth 100000 in
theorem sq_of_open {H : Type} {enc : TypeId × Value → H} {w : World} {base b0 : Nat} {held : Bool} {r : Reach} {v : Value} {d : DataW H} {p : List MemPlace}
    (hv : Value.okWide Try.prog w r b0 24 v) (h : DataW.Trod enc Try.prog w base (fun _ => true) held 24 v d p) (hsz : ∀ n ∈ d.weights Try.prog 24, n ≤ reachBytes) :
    ∃ (a : Int) (u : Value) (low : List Int), v = sqV a u ∧ I64 a ∧ Sl w u low ∧ ∀ x ∈ low, I64 x := by
  obtain ⟨v0, v2, y0, y2, n, rfl, rfl, rfl, h0, h2⟩ := Joins.open_agg2 Try.underlying24 (by kernel_rfl) (by kernel_rfl) hv h
  obtain ⟨a, e0, rfl, w0⟩ := DataW.trod_int Try.underlying3 h0
  obtain ⟨x, l, c, e2⟩ := Joins.slice_form Try.underlying22 h2
  simp only [List.cons.injEq, and_true] at e0 e2
  subst e0 e2
  obtain ⟨low, hs, hb⟩ := sl_of_open (a := x) (len := l) (cap := c) (d := y2.1) (ps := y2.2) Try.underlying22 Try.underlying3 (by kernel_rfl) (by kernel_rfl) h2 (fun elems spare hd => hsz _ (by
    rw [hd]
    simp [DataW.weights, DataW.weightsEach, Try.underlying24, Try.underlying22]))
  exact ⟨a, _, low, rfl, I64.of_wf w0, hs, hb⟩
end Go.Proofs.Ythbpdfkaacgpoaa
