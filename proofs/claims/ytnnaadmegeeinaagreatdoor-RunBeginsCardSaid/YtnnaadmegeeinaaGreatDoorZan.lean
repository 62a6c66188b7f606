/-
  Part 40 of a proof: what it proves stands in the last text.
-/
import Derived.Test.YtnnaadmegeeinaaGreatDoorZak
import Derived.Test.YtnnaadmegeeinaaGreatDoorRows
import Derived.ProofKit
import Derived.Lay
import Derived.Deep.DeepHandedRow
import Derived.Lib.LaidU8
import Derived.LaidMore
set_option linter.unusedVariables false
set_option maxHeartbeats 8000000
set_option maxRecDepth 100000
namespace Go.Proofs.YtnnaadmegeeinaaGreatDoor
open Go.RowKit
theorem err_of_reads {P:Program} {w:World} {n nm:String} {g:Nat} {ti:TypeId} {ms:Array (String×TypeId)} {d:DataW Unit} (h:Lib.VarReads P w n (.iface nm d)) (hg:P.globalNamed n=some g) (ht:(P.globals[g]?).map (·.type)=some ti) (hi:P.underlying ti=some (.interface ms)):∃v,w.cell? ⟨g,0,none⟩=some v∧ErrV v:=by
 obtain⟨g0,t0,cs,fuel,p,hg0,ht0,hv,hd⟩:=h
 obtain rfl:=Option.some.inj (hg.symm.trans hg0)
 obtain rfl:=Option.some.inj (ht.symm.trans ht0)
 obtain⟨f1,u,v,e,_,_⟩:=iface_of_trod hi hd
 have hc:=World.var?_cell hg hv 0
 have e2:cs[0]? =some (.iface u v):=by
  rw[←Array.getElem?_toList,e]
  rfl
 rw[e2]at hc
 exact⟨_,hc,.inr ⟨u,v,rfl⟩⟩
theorem tab_of_reads {P:Program} {w:World} {n:String} {k:IntKind} {zs:List Int} {g m:Nat} {t e:TypeId} (h:Lib.VarReads P w n (Lib.tabData k zs)) (hg:P.globalNamed n=some g) (hty:(P.globals[g]?).map (·.type)=some t) (ht:P.underlying t=some (.array m e)) (he:P.underlying e=some (.int k)) (hce:P.cellsOf e=1) (hct:P.cellsOf t=m):Lib.TabIs P w n k zs:=by
 obtain⟨g0,t0,cs,fuel,p,hg0,ht0,hv,hd⟩:=h
 obtain rfl:=Option.some.inj (hg.symm.trans hg0)
 obtain rfl:=Option.some.inj (hty.symm.trans ht0)
 have h2:=Lib.cells_of_tab ht he hce hct hd
 unfold Lib.TabIs
 rw[hv,←h2]
theorem prs_of_tab {w:World} (h:Lib.TabIs Tryz.prog w "parterre/field.primes" .i64 prL):Prs w:=by
 have hg:Tryz.prog.globalNamed "parterre/field.primes" =some 3:=by kernel_rfl
 have hcell:∀i:Nat,w.cell? ⟨3,i,none⟩=prV[i]? :=fun i=>by
  rw[World.var?_cell hg h i,List.getElem?_toArray]
  rfl
 refine⟨World.block_lt_of_cell? w _ ((hcell 0).trans (prV_get (i:=0) (by decide))),fun j v hv=> ?_⟩
 rw[Nat.zero_add,hcell j]
 exact hv
theorem runw_of {W:World} (hL:laidMetH Tryz.prog Rows.runBeginsRow.laid W) (h:W.ShapedOpen Tryz.prog):RunW W:=by
 rw[MakeChecks.laidMetH_plain _ _ _ (by kernel_rfl)]at hL
 refine⟨⟨maxlen_of W h,err_of_reads (n:= "strconv.ErrSyntax") (ti:=32) (Lib.laidMet.reads hL (by unfold Rows.runBeginsRow;simp only;exact .tail _ (.tail _ (.tail _ (.tail _ (.tail _ (.tail _ (.head _)))))))) (by kernel_rfl) (by kernel_rfl) Tryz.underlying32,
  err_of_reads (n:= "strconv.ErrRange") (ti:=32) (Lib.laidMet.reads hL (by unfold Rows.runBeginsRow;simp only;exact .tail _ (.tail _ (.tail _ (.tail _ (.tail _ (.head _))))))) (by kernel_rfl) (by kernel_rfl) Tryz.underlying32⟩,?_,?_⟩
 ·exact tab_of_reads (g:=6) (Lib.laidMet.reads hL (by unfold Rows.runBeginsRow;simp only;exact .tail _ (.tail _ (.head _)))) (by kernel_rfl) (by kernel_rfl) Tryz.underlying270 Tryz.underlying188 (by kernel_rfl) (by kernel_rfl)
 ·exact prs_of_tab (tab_of_reads (g:=3) (Lib.laidMet.reads hL (by unfold Rows.runBeginsRow;simp only;exact .tail _ (.tail _ (.tail _ (.head _))))) (by kernel_rfl) (by kernel_rfl) Tryz.underlying251 Tryz.underlying3 (by kernel_rfl) (by kernel_rfl))
theorem laid_met_all (os:Os) (args:Array Value):laidMetH Tryz.prog Rows.runBeginsRow.laid ((World.laidAll Tryz.prog os Rows.runBeginsRow.laid).forCall (fun _ _=>0) ⟨#[],args,[]⟩).memory:=by
 rw[MakeChecks.laidMetH_plain _ _ _ (by kernel_rfl)]
 exact laidMet_laidAll _ (by kernel_rfl) (by kernel_rfl)
theorem laid_shaped (os:Os) (args:Array Value):((World.laidAll Tryz.prog os Rows.runBeginsRow.laid).forCall (fun _ _=>0) ⟨#[],args,[]⟩).Shaped Tryz.prog:=World.shaped_of_ZipB (by kernel_rfl) (by kernel_rfl)
theorem witness_row_sh {H:Type} {enc:TypeId×Value→H} {C:Checked} {os:Os} {f:FuncId} {fn:Func} {s:OpenSpec} {conds:List PathCond} {apart:Bool} {laid:List (String×DataW Unit)} (modest:Bool) (w0:World) (args:Array Value) (hos:w0.os=os)
 (hsh:(w0.forCall (fun _ _=>0) ⟨#[],args,[]⟩).Shaped C.prog)
 (hok:Input.okWideB C.prog (w0.forCall (fun _ _=>0) ⟨#[],args,[]⟩) f ⟨#[],args,[]⟩=true)
 (hrow:s.preRow enc C.prog fn conds apart laid (w0.forCall (fun _ _=>0) ⟨#[],args,[]⟩).memory args):
 ∃(w:World) (tape:Tape) (i:Input),w.os=os∧(w.forCall tape i).Shaped C.prog∧i.vars=[]∧Input.okWide C.prog (w.forCall tape i) .any w.heap.size f i∧
  s.preRow enc C.prog fn conds apart laid (w.forCall tape i).memory i.args∧({modest:=modest}:Assume).holds C.prog (lone (Frame.enter C.prog f i.args .normal) [] (w.forCall tape i)):=
 ⟨w0,fun _ _=>0,⟨#[],args,[]⟩,hos,hsh,(Input.okWide_of_okWideB (base:=0) hok).1,(Input.okWide_of_okWideB hok).2,hrow,by
   simp only[Assume.holds]
   exact⟨by simp,by simp,fun _=>Modest.zero,by simp,by simp⟩⟩
end Go.Proofs.YtnnaadmegeeinaaGreatDoor
