/-
  From a world's shape: the library's variables lie; a witness at a world that holds what a row lists. No condition.
-/
import Derived.Test.YtgfdddknajeknaaDoorTwlib
import Derived.Test.YtgfdddknajeknaaDoorRows
import Derived.ProofKit
import Derived.Lay
import Derived.Deep.DeepHandedRow
import Derived.Lib.LaidU8
import Derived.LaidMore
namespace Go.Proofs.YtgfdddknajeknaaDoor
set_option linter.unusedVariables false
set_option maxRecDepth 100000
open Go.RowKit

/-- A listed sentinel's cell. -/
theorem err_of_reads {P : Program} {w : World} {n nm : String} {g : Nat} {ti : TypeId} {ms : Array (String × TypeId)} {d : DataW Unit} (h : Lib.VarReads P w n (.iface nm d)) (hg : P.globalNamed n = some g) (ht : (P.globals[g]?).map (·.type) = some ti) (hi : P.underlying ti = some (.interface ms)) : ∃ v, w.cell? ⟨g, 0, none⟩ = some v ∧ ErrV v := by
  obtain ⟨g0, t0, cs, fuel, p, hg0, ht0, hv, hd⟩ := h
  obtain rfl := Option.some.inj (hg.symm.trans hg0)
  obtain rfl := Option.some.inj (ht.symm.trans ht0)
  obtain ⟨f1, u, v, e, _, _⟩ := iface_of_trod hi hd
  have hc := World.var?_cell hg hv 0
  have e2 : cs[0]? = some (.iface u v) := by
    rw [← Array.getElem?_toList, e]
    rfl
  rw [e2] at hc
  exact ⟨_, hc, .inr ⟨u, v, rfl⟩⟩
theorem lib_of {W : World} (hL : laidMetH Tryd.prog Rows.permTextsRow.laid W) (h : W.ShapedOpen Tryd.prog) : LibW W := by
  rw [MakeChecks.laidMetH_plain _ _ _ (by kernel_rfl)] at hL
  exact ⟨maxlen_of W h,
    err_of_reads (n := "strconv.ErrSyntax") (ti := 56) (Lib.laidMet.reads hL (by unfold Rows.permTextsRow; simp only; exact .tail _ (.tail _ (.tail _ (.tail _ (.tail _ (.head _))))))) (by kernel_rfl) (by kernel_rfl) Tryd.underlying56,
    err_of_reads (n := "strconv.ErrRange") (ti := 56) (Lib.laidMet.reads hL (by unfold Rows.permTextsRow; simp only; exact .tail _ (.tail _ (.tail _ (.tail _ (.head _)))))) (by kernel_rfl) (by kernel_rfl) Tryd.underlying56⟩
theorem laid_met_all (os : Os) (args : Array Value) : laidMetH Tryd.prog Rows.permTextsRow.laid ((World.laidAll Tryd.prog os Rows.permTextsRow.laid).forCall (fun _ _ => 0) ⟨#[], args, []⟩).memory := by
  rw [MakeChecks.laidMetH_plain _ _ _ (by kernel_rfl)]
  exact laidMet_laidAll _ (by kernel_rfl) (by kernel_rfl)
theorem laid_shaped (os : Os) (args : Array Value) : ((World.laidAll Tryd.prog os Rows.permTextsRow.laid).forCall (fun _ _ => 0) ⟨#[], args, []⟩).Shaped Tryd.prog := World.shaped_of_ZipB (by kernel_rfl) (by kernel_rfl)
/-- An input that fits, at a world that is written out. -/
theorem witness_row_sh {H : Type} {enc : TypeId × Value → H} {C : Checked} {os : Os} {f : FuncId} {fn : Func} {s : OpenSpec} {conds : List PathCond} {apart : Bool} {laid : List (String × DataW Unit)} (modest : Bool) (w0 : World) (args : Array Value) (hos : w0.os = os)
    (hsh : (w0.forCall (fun _ _ => 0) ⟨#[], args, []⟩).Shaped C.prog)
    (hok : Input.okWideB C.prog (w0.forCall (fun _ _ => 0) ⟨#[], args, []⟩) f ⟨#[], args, []⟩ = true)
    (hrow : s.preRow enc C.prog fn conds apart laid (w0.forCall (fun _ _ => 0) ⟨#[], args, []⟩).memory args) :
    ∃ (w : World) (tape : Tape) (i : Input), w.os = os ∧ (w.forCall tape i).Shaped C.prog ∧ i.vars = [] ∧ Input.okWide C.prog (w.forCall tape i) .any w.heap.size f i ∧
      s.preRow enc C.prog fn conds apart laid (w.forCall tape i).memory i.args ∧ ({ modest := modest } : Assume).holds C.prog (lone (Frame.enter C.prog f i.args .normal) [] (w.forCall tape i)) :=
  ⟨w0, fun _ _ => 0, ⟨#[], args, []⟩, hos, hsh, (Input.okWide_of_okWideB (base := 0) hok).1, (Input.okWide_of_okWideB hok).2, hrow, by
    simp only [Assume.holds]
    exact ⟨by simp, by simp, fun _ => Modest.zero, by simp, by simp⟩⟩
end Go.Proofs.YtgfdddknajeknaaDoor
