/-
  The law parterrelaw4.RunBegins: for every input it returns true, and what it was handed reads afterwards as before. Condition: the listed variables hold what the program's text lays.
-/
import Derived.Test.YtnnaadmegeeinaaGreatDoorZaw
import Derived.Test.YtnnaadmegeeinaaGreatDoorZan
import Derived.Test.YtnnaadmegeeinaaGreatDoorZb
import Derived.Test.YtnnaadmegeeinaaGreatDoorCards
import Derived.Test.YtnnaadmegeeinaaGreatDoorTie
import Derived.SevenTiedAt
import Derived.ProofKit
import Derived.OpenShut
import Derived.SizedLaws
import Derived.ChangeMaps5
set_option linter.unusedVariables false
set_option maxHeartbeats 8000000
set_option maxRecDepth 100000
namespace Go.Proofs.YtnnaadmegeeinaaGreatDoor.runBegins
open Go.ChangeShapes Go.WideShapes Go.ChangeAt Go.RowKit Go.ChangeMaps
theorem own:ownKnob Tryz.prog.godebug=none:=by kernel_rfl
theorem reads (os:Os) {H:Type} (enc:TypeId×Value→H):∃places,DataW.whole enc Tryz.prog ((World.laidAll Tryz.prog os Rows.runBeginsRow.laid).forCall (fun _ _=>0) ⟨#[],#[.string ByteArray.empty,.int .i64 0],[]⟩).memory Tryz.f4.params.toList Rows.runBeginsSpec.vars false (#[.string ByteArray.empty,.int .i64 0]:Array Value).toList 8=some ([.lit (.string []),.lit (.int .i64 0)],[],places):=
 ⟨[],by kernel_rfl⟩
theorem lifted (os:Os) (started:os.Started) (H:Type) (enc:TypeId×Value→H) (F:Stop.Interp):
 ReturnsInHanded {} Tryz.checked os 4 .any ((OpenSpec.ofChange Rows.runBeginsSpec).preRow enc Tryz.prog Tryz.f4 Rows.runBeginsRow.domain false Rows.runBeginsRow.laid) (((OpenSpec.ofChange Rows.runBeginsSpec).at F).post enc Tryz.prog Tryz.f4 false true false false):=by
 obtain⟨places,hx⟩:=reads os enc
 refine returnsInHanded_of_row (C:=Tryz.checked) (s:=OpenSpec.ofChange Rows.runBeginsSpec) own started (by kernel_rfl) Tryz.func4
  (witness_row_sh (enc:=enc) (C:=Tryz.checked) false (World.laidAll Tryz.prog os Rows.runBeginsRow.laid) #[.string ByteArray.empty,.int .i64 0] (World.laidAll_os _ _ _) (laid_shaped os _) (by kernel_rfl)
    (OpenSpec.preRow_of_cond 8 hx (by kernel_rfl) (fun k hk=>by cases hk) (by kernel_rfl) (laid_met_all os _))) ?_
 intro W base args ds gs before hval0 hW hcnd hcond hsz0 hL hS _
 have hrun:=runw_of hL hS
 have hval:∀(j:Nat) t v,Tryz.f4.params[j]? =some t→args[j]? =some v→Value.okWide Tryz.prog W .any base t v:=hval0
 have hsz:(DataW.weightsEach Tryz.prog (Tryz.f4.params.toList++Rows.runBeginsSpec.plain.varTypes Tryz.prog) (ds++gs)).all (·≤reachBytes)=true:=hsz0
 have hW':=hW
 obtain⟨p,q,hA0,hV,rfl,hfz,hnd⟩:=hW
 have hA:DataW.TrodAll enc Tryz.prog W 0 (fun _=>true) true Tryz.f4.params.toList args.toList ds p:=hA0
 rw[Tryz.params4]at hA hval hsz
 obtain⟨v0,vs0,d0,ds0,p0,q0,hargs,rfl,rfl,h0,r0⟩:=trodAll_cons hA
 obtain⟨v1,vs1,d1,ds1,p1,q1,rfl,rfl,rfl,h1,r1⟩:=trodAll_cons r0
 obtain⟨rfl,rfl,rfl⟩:=trodAll_nil r1
 obtain rfl:args= #[v0,v1]:=by cases args;simp_all
 obtain⟨rfl,rfl⟩:=trodVars_none hV
 obtain⟨a0,rfl,rfl,rfl,w0⟩:=open_string Tryz.underlying9 (hval 0 9 v0 rfl rfl) h0
 have y0:a0.data.toList.length≤140737488355328:=Nat.le_trans (sized_string hsz (j:=0) (t:=9) rfl rfl) (by decide)
 obtain⟨a1,rfl,rfl,rfl,w1⟩:=open_int Tryz.underlying3 (hval 1 3 v1 rfl rfl) h1
 clear hA0 hval0 hsz hsz0
 refine(runBegins_walk W hrun a0.data.toList y0 a1 (I64.of_wf w1)).mono fun e W' ⟨he,bel⟩=> ?_
 subst he
 exact⟨_,rfl,_,_,_,[],_,[],hW',trodAll_mk1 (shut_bool Tryz.underlying4 _),(trodAll_cons_mk (shut_string Tryz.underlying9 w0) (trodAll_cons_mk (shut_int Tryz.underlying3 w1) trodAll_mk0)),rfl,bel.frame _,fun h=>by cases h⟩
theorem over:Rows.runBeginsRow.holds Tryz.pinned (OpenSpec.ofChange Rows.runBeginsSpec):=
 OpenClaim.holds_of_cond 4 Tryz.f4 rfl rfl rfl rfl rfl rfl rfl ⟨rfl,rfl,rfl,rfl,rfl⟩ rfl rfl rfl rfl rfl named Tryz.func4 closed
  inst wrapper
  (fun os started H enc _ F=>by rw[OpenClaim.pre_eq_preRow];exact lifted os started H enc F)
theorem proved:Rows.RunBeginsCardSaid:=
 Claim7.holds_tied_plain_at .later [] _ _ _ _
  over (fun _ h=>by cases h) (by kernel_rfl) (fun _ h=>by cases h) runBegins_row_tie rfl ⟨rfl,rfl⟩ (by kernel_rfl) rfl
  (fun f fn hf hfn=>by
    obtain rfl:f=4:=Option.some.inj (named.symm.trans hf)|>.symm
    obtain rfl:fn=Tryz.f4:=(Option.some.inj (Tryz.func4.symm.trans hfn)).symm
    exact⟨by kernel_rfl,fun j t ht=>by
     rw[Tryz.params4]at ht
     have hm:t∈[9,3]:=by simpa using Array.mem_of_getElem? ht
     have hall:([9,3].all fun u=> !Tryz.prog.wantsStandIn u)=true:=by kernel_rfl
     exact(show Tryz.prog.wantsStandIn t=false by simpa using List.all_eq_true.1 hall t hm)⟩)
  (by kernel_rfl)
#print axioms proved
end Go.Proofs.YtnnaadmegeeinaaGreatDoor.runBegins
