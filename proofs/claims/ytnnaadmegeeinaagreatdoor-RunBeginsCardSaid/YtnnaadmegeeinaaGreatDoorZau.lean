/-
  Part 47 of a proof: what it proves stands in the last text.
-/
import Derived.Test.YtnnaadmegeeinaaGreatDoorZap
import Derived.Test.YtnnaadmegeeinaaGreatDoorZaa
import Derived.Test.YtnnaadmegeeinaaGreatDoorZat
import Derived.Laws.EntriesVeiled
import Derived.WalkLawsBesides
set_option linter.unusedVariables false
set_option maxHeartbeats 8000000
set_option maxRecDepth 100000
namespace Go.Proofs.YtnnaadmegeeinaaGreatDoor
open Go.RowKit
theorem ciL_fine:∀n,n≤16→((ciL n).all (fun m=>m.all (fun x=>decide (0≤x∧x<1000))&&decide (m.length≤1000))&&decide ((ciL n).length≤1000))=true:=by decide+kernel
theorem tmB_le {n:Nat} (h:tmB n=true):n≤16:=by
 unfold tmB at h
 have:=of_decide_eq_true h
 omega
theorem ciL_bd {n:Nat} (h:tmB n=true):(∀m∈ciL n,(∀x∈m,I64 x)∧m.length≤1000)∧(ciL n).length≤1000:=by
 have h1:=ciL_fine n (tmB_le h)
 simp only[Bool.and_eq_true,decide_eq_true_eq,List.all_eq_true]at h1
 refine⟨fun m hm=>⟨fun x hx=> ?_,(h1.1 m hm).2⟩,h1.2⟩
 have:=(h1.1 m hm).1 x hx
 unfold I64
 omega
theorem pkCir:PkCir (fun a=>if tmB a=true then 0 else 1) ciL:=by
 intro a w1 hW h0
 by_cases h:tmB a=true
 ·obtain⟨b1,b2⟩:=ciL_bd h
  refine(Circle_ok a w1 h).mono ?_
  rintro e w' ⟨⟨u,rfl,hu⟩,hb⟩
  obtain⟨pa,pc,e⟩:=hu.len
  refine⟨u,by dsimp only;rw[if_pos h],by dsimp only;rw[if_pos h];decide,fun _=>⟨hu.rl (by omega) (fun i hi=> ?_),b1,b2⟩,⟨pa,_,pc,e⟩,hb⟩
  rw[List.getD_eq_getElem?_getD,List.getElem?_eq_getElem hi]
  have:=(b1 _ (List.getElem_mem hi)).2
  simp only[Option.getD_some]
  omega
 ·refine(Circle_bad a w1 (by simpa using h)).mono ?_
  rintro e w' ⟨rfl,rfl⟩
  exact⟨.slice none 0 0,by dsimp only;rw[if_neg h],by dsimp only;rw[if_neg h];decide,fun h2=>absurd h2 (by dsimp only;rw[if_neg h];decide),⟨_,_,_,rfl⟩,Below.refl _ _⟩
end Go.Proofs.YtnnaadmegeeinaaGreatDoor
namespace Go.Proofs.YtnnaadmegeeinaaGreatDoor
open Go.RowKit
theorem cmd_one (k F:Nat):(#[Value.int .i64 k,.func (Fn.func F) #[] #[]]:Array Value).all (·.oneCell')=true:=by simp[Value.oneCell']
section
variable {P:Program} {o:Oper} {a:Act} {w:World} {K:Act→World→Prop} {Q:Exit→Act→World→Prop}
theorem dag_callv (f n:Nat) (args:Array Operand) (ty:Array TypeId) (vs:Array Value) (ho:o.op= .call {callee:= .value (.tmp n),args:=args,argTypes:=ty}) (hq:a.tmps[n]?.getD undef= .func (Fn.func f) #[] #[]) (ha:args.map a.eval=vs) (fn:Func) (hf:P.funcs[f]? =some fn) (h1:(fn.name== "runtime.NumGoroutine")=false) (h2:fn.body.isNone=false) (H:Calls P f vs w fun e w'=>(∃v,e= .returned v∧K (a.put o.dst v) w')∨(∃ch,e= .panicked ch∧Q (.panic ch) a w')):Oper.wp P o a w K Q:=by
 unfold Oper.wp
 have:(execOp a.eval o).run P w= .ok (.enter f vs) w:=by
  unfold execOp
  rw[ho]
  have h3:fn.name≠ "runtime.NumGoroutine" :=by simpa using h1
  have h4:fn.body≠none:=by intro e;rw[e]at h2;cases h2
  simp[resolve,Act.eval,ha,go_sem,callFunc,hf,h3,h4,hq]
 rw[this]
 refine H.mono ?_
 rintro e w' (⟨v,rfl,h⟩|⟨ch,rfl,h⟩)
 ·exact h
 ·exact h
end
theorem cmds_fine:(cmdL1++cmdL2).all (fun c=>decide (1≤c.2.1)&&(match Tryz.prog.funcs[c.2.2]? with|some fn=> !(fn.name== "runtime.NumGoroutine")&& !fn.body.isNone|none=>false))=true:=by kernel_rfl
theorem cmdOf_fine {T:List UInt8} {k F:Nat} (h:cmdOf T=some (k,F)):1≤k∧∃fn,Tryz.prog.funcs[F]? =some fn∧(fn.name== "runtime.NumGoroutine")=false∧fn.body.isNone=false:=by
 unfold cmdOf at h
 obtain⟨c,hc,e⟩:=Option.map_eq_some_iff.1 h
 have hm:=List.mem_of_find?_eq_some hc
 have h1:=List.all_eq_true.1 cmds_fine c hm
 rw[e]at h1
 simp only[Bool.and_eq_true,decide_eq_true_eq]at h1
 refine⟨h1.1,?_⟩
 have h2:=h1.2
 split at h2
 ·rename_i fn hf
  simp only[Bool.and_eq_true,Bool.not_eq_true']at h2
  exact⟨fn,hf,h2.1,h2.2⟩
 ·cases h2
def ansL (A:List UInt8→List (List UInt8)→List UInt8) (s:List UInt8):List UInt8:=
 match cmdOf ((spl 32 s).getD 0 [])with
 |some (k,F)=>if(spl 32 s).length=k+1 then A ((spl 32 s).getD 0 []) ((spl 32 s).drop 1)else badT
 |none=>badT
def CmdsOk (A:List UInt8→List (List UInt8)→List UInt8):Prop:=∀T k F,cmdOf T=some (k,F)→∀ts v w,ts.length=k→RunW w→SS w v ts→(∀t∈ts,t.length≤10000)→Calls Tryz.prog F #[v] w (TE (A T ts) w)
theorem leave_fault (R:Ending→World→Prop) (tmps:Array Value) (b:Nat) (x:ByteArray) (t:List UInt8) (w:World) (hA:Arr w b 9 [.string x]) (ht:tmps[2]?.getD undef= .pointer (some ⟨b,0,none⟩)) (h:R (.returned (.string (str t))) (w.setCell ⟨b,0,none⟩ (.string (str t)))):
 Leaves Tryz.prog Tryz.f9 tmps R [{target:= .fn (Fn.func 14) #[.pointer (some ⟨b,0,none⟩)],args:= #[]}] (.panicking [{v:= .iface 36 (.string (str t)),recovered:=false}]) w:=by
 refine leaves_cons (f:=14) (args:= #[.pointer (some ⟨b,0,none⟩)]) (by simp) (by simp[go_sem]) ?_
 refine(catch_fault b x (str t) [] w (hA.cell 0) (hA.frozen 0)).mono ?_
 rintro e u' w'' ⟨rfl,rfl,rfl⟩
 have hc2:(w.setCell ⟨b,0,none⟩ (.string (str t))).cell? ⟨b,0,none⟩=some (.string (str t)):=(hA.stored 0 (.string (str t))).1.cell 0
 simp[Leaves,settle,results,Tryz.f9,go_sem,ht,hc2,asAddr]
 exact h
theorem leave_idle (R:Ending→World→Prop) (tmps:Array Value) (b:Nat) (t:List UInt8) (w:World) (hA:Arr w b 9 [.string (str t)]) (ht:tmps[2]?.getD undef= .pointer (some ⟨b,0,none⟩)) (h:∀w',Below w.heap.size w w'→R (.returned (.string (str t))) w'):
 Leaves Tryz.prog Tryz.f9 tmps R [{target:= .fn (Fn.func 14) #[.pointer (some ⟨b,0,none⟩)],args:= #[]}] .returning w:=by
 refine leaves_cons (f:=14) (args:= #[.pointer (some ⟨b,0,none⟩)]) (by simp) (by simp[go_sem]) ?_
 refine(catch_idle ⟨b,0,none⟩ w).mono ?_
 rintro e u' w'' ⟨rfl,rfl,hb⟩
 have hc2:w''.cell? ⟨b,0,none⟩=some (.string (str t)):=(hA.below hb).cell 0
 have hR:=h w'' hb
 simp[Leaves,settle,results,Tryz.f9,go_sem,ht,hc2,asAddr]
 exact hR
theorem answer_any (A:List UInt8→List (List UInt8)→List UInt8) (HC:CmdsOk A) (s:List UInt8) (w:World) (hs:s.length≤8000) (hW:RunW w):
 Calls Tryz.prog 9 #[.string (str s)] w fun e w'=>e= .returned (.string (str (ansL A s)))∧Below w.heap.size w w':=by
 have hmf:∀(fn:Fn) (first cap:Array Value) (w:World),(Instr.makeFunc fn first cap).run Tryz.prog w= .ok (.func fn first cap) w:=fun _ _ _ _=>rfl
 have hb0:Below w.heap.size w (w.alloc (.cells #[.string ByteArray.empty] 9)):=(Below.refl _ _).alloc (Nat.le_refl _) _
 have hA0:Arr (w.alloc (.cells #[.string ByteArray.empty] 9)) w.heap.size 9 [.string ByteArray.empty]:=Arr.new w _ _
 have HS:=hid (split_w s (w.alloc (.cells #[.string ByteArray.empty] 9)) (by omega) (hW.below hb0).lib 32)
 have H0:=hid (And.intro hA0 hb0)
 have HWW:=hid (fun(w1:World) (hb:Below w.heap.size w w1)=>hW.below hb)
 have HANS:Hid (ansL A s=match cmdOf ((spl 32 s).getD 0 [])with
 |some (k,F)=>if(spl 32 s).length=k+1 then A ((spl 32 s).getD 0 []) ((spl 32 s).drop 1)else badT
 |none=>badT):=hid rfl
 have hpos:0<(spl 32 s).length:=by rw[spl_len];omega
 have HPC:=hid (fun x hx=>Nat.le_trans (spl_piece 32 s x hx) hs)
 have hle:=spl_le 32 s
 clear hb0 hA0 hW
 generalize spl 32 s=ws at*
 obtain⟨NW,hNW⟩:∃NW,ws.length=NW:=⟨_,rfl⟩
 rw[hNW]at HS hle hpos
 have HNW:=hid hNW
 clear hNW
 go_enter_defers Tryz.func9,Tryz.ntmps9
 go_wp2_with fail
 refine HS.out.mono ?_
 rintro e w4 ⟨gs,rfl,hsp,hb4⟩
 have HB4:=hid (H0.out.2.trans (hb4.mono H0.out.2.size))
 have HA4:=hid (H0.out.1.below hb4)
 have HSP:=hid hsp
 have hcl:=hsp.cell 0 (by rw[List.length_map,HNW.out];exact hpos)
 have hcl2:(ws.map fun x=>Value.string (str x))[0]? =some (.string (str (ws.getD 0 []))):=by
  have:0<ws.length:=by rw[HNW.out];exact hpos
  simp[this]
 rw[hcl2]at hcl
 have HF:=hid (find_any (ws.getD 0 []) w4)
 have hpi:(0:Int)<(NW:Int):=by omega
 clear hb4 hcl2 hsp HS
 generalize ws.getD 0 []=T at*
 go_wp2_with fail
 refine HF.out.mono ?_
 rintro e w5 ⟨h,hb5⟩
 have HB5:=hid (HB4.out.trans (hb5.mono HB4.out.size))
 have HA5:=hid (HA4.out.below hb5)
 have HSP5:=hid (HSP.out.below hb5)
 clear hb5 HF hcl
 rcases h with⟨k,F,hc,rfl⟩|⟨hc,rfl⟩
 ·have hN:Arr (w5.alloc (.cells #[.int .i64 0,.nilFunc] 41)) w5.heap.size 41 ([]++[.int .i64 0,.nilFunc]):=Arr.new w5 _ _
  have t1:(w5.alloc (.cells #[.int .i64 0,.nilFunc] 41)).there w5.heap.size 0 (#[Value.int .i64 k,.func (Fn.func F) #[] #[]]).size:=hN.there
  have hr4:Arr ((w5.alloc (.cells #[.int .i64 0,.nilFunc] 41)).setCells w5.heap.size 0 [Value.int .i64 k,.func (Fn.func F) #[] #[]]) w5.heap.size 41 [Value.int .i64 k,.func (Fn.func F) #[] #[]]:=Arr.setCells _ [] [.int .i64 0,.nilFunc] _ hN rfl
  have hg4:=grown_setCells (b:=w5.heap.size) [Value.int .i64 k,.func (Fn.func F) #[] #[]] 0 (w5.alloc (.cells #[.int .i64 0,.nilFunc] 41))
  have hb4:=((Below.refl w5.heap.size w5).alloc (Nat.le_refl _) (.cells #[.int .i64 0,.nilFunc] 41)).grown hg4 (by simp) (fun k h=>by cases h;omega)
  have H4:=hid (And.intro hr4 hb4)
  have hone:=cmd_one k F
  have i3:=cmd_info
  have HCC:=hid hc
  clear hN hr4 hg4 hb4 hc
  unfold cmdV
  by_cases hk:NW=k+1
  ·subst hk
   obtain⟨hk1,fn,hf1,hf2,hf3⟩:=cmdOf_fine HCC.out
   have HFN:=hid (And.intro hf1 (And.intro hf2 hf3))
   clear hf1 hf2 hf3
   go_wp2_with (first
    |(refine wpList_store_mid rfl 41 _ _ rfl w5.heap.size 0 #[Value.int .i64 k,.func (Fn.func F) #[] #[]] rfl rfl t1 i3 hone ?_;show wpList _ _ _ _ _ ((w5.alloc (.cells #[.int .i64 0,.nilFunc] 41)).setCells w5.heap.size 0 [Value.int .i64 k,.func (Fn.func F) #[] #[]]);generalize ((w5.alloc (.cells #[.int .i64 0,.nilFunc] 41)).setCells w5.heap.size 0 [Value.int .i64 k,.func (Fn.func F) #[] #[]])=w6 at H4⊢;have hc0:w6.cell? ⟨w5.heap.size,0,none⟩=some (.int .i64 k):=H4.out.1.cell 0;clear t1 hone;skip))
   have HH:=hid (fun(w':World) (hb:Below w6.heap.size w6 w')=>(HB5.out.trans (H4.out.2.mono HB5.out.size)).trans (hb.mono (HB5.out.trans (H4.out.2.mono HB5.out.size)).size))
   have HR:=hid (fun(w':World) (hb:Below w6.heap.size w6 w')=>(HA5.out.below H4.out.2).below hb)
   have HS6:=hid (fun(w':World) (hb:Below w6.heap.size w6 w')=>(HSP5.out.below H4.out.2).below hb)
   have HAK:Hid (ansL A s=A T (ws.drop 1)):=hid (by
    rw[HANS.out,HCC.out]
    exact if_pos HNW.out)
   clear hc0
   refine region_dagPL [19,20,21,22,23] [fun v _=>v= .pointer (some ⟨w5.heap.size,1,none⟩),fun v _=>v= .func (Fn.func F) #[] #[],fun v _=>v= .slice (some ⟨gs,0,none⟩) (k+1) (k+1),fun v _=>v= .slice (some ⟨gs,1,none⟩) k k,fun v _=>v= .string (str (ansL A s))] (by kernel_rfl) (by kernel_rfl) rfl rfl ⟨Kp_eq _,Kp_eq _,Kp_eq _,Kp_eq _,Kp_eq _,trivial⟩ ⟨?_,?_,?_,?_,?_,trivial⟩ ?_
   ·intro a w' K hb hf hdf hd hK
    have h3:a.tmps[4]?.getD undef= .pointer (some ⟨w5.heap.size,0,none⟩):=ev_tmp (hf 4 rfl)
    clear hf hd hdf
    refine ?_
    go_simp
    exact hK _ _ rfl (Below.refl _ _)
   ·intro a w' K hb hf hdf hd hK
    have h3:a.tmps[19]?.getD undef= .pointer (some ⟨w5.heap.size,1,none⟩):=ev_tmp (hd 0 (by decide) (by kernel_rfl))
    have hc1:w'.cell? ⟨w5.heap.size,1,none⟩=some (.func (Fn.func F) #[] #[]):=(H4.out.1.below hb).cell 1
    clear hf hd hdf
    refine ?_
    go_simp
    exact hK _ _ rfl (Below.refl _ _)
   ·intro a w' K hb hf hdf hd hK
    exact dag_move _ rfl (hK _ _ (hf 3 rfl) (Below.refl _ _))
   ·intro a w' K hb hf hdf hd hK
    have h3:a.tmps[21]?.getD undef= .slice (some ⟨gs,0,none⟩) (k+1) (k+1):=ev_tmp (hd 2 (by decide) (by kernel_rfl))
    have hn1:¬k=0:=by omega
    have hn2:(1:Int)≤(k:Int)+1:=by omega
    clear hf hd hdf
    refine ?_
    go_simp
    exact hK _ _ rfl (Below.refl _ _)
   ·intro a w' K hb hf hdf hd hK
    have hq0:a.tmps[20]?.getD undef= .func (Fn.func F) #[] #[]:=ev_tmp (hd 1 (by decide) (by kernel_rfl))
    have hq1:a.eval (.tmp 22)= .slice (some ⟨gs,1,none⟩) k k:=hd 3 (by decide) (by kernel_rfl)
    refine dag_callv F 20 _ _ #[_] rfl hq0 (by rw[List.map_toArray,List.map_cons,List.map_nil,hq1]) fn HFN.out.1 HFN.out.2.1 HFN.out.2.2 ?_
    have hs6:=HS6.out w' hb
    have hlt:=(hs6.lt gs rfl).2
    have hdl:(ws.drop 1).length=k:=by rw[List.length_drop,HNW.out];omega
    refine(HC T k F HCC.out (ws.drop 1) _ w' hdl (HWW.out w' (HH.out w' hb)) ⟨gs,1,k,by rw[hdl],hlt,fun i hi=> ?_⟩ (fun t ht=>by have:=HPC.out t (List.mem_of_mem_drop ht);omega)).mono ?_
    ·rw[hs6.cell (1+i) (by rw[List.length_map,HNW.out];omega)]
     have:1+i<ws.length:=by rw[HNW.out];omega
     have h2:i+1<ws.length:=by omega
     simp[this,List.getD_eq_getElem?_getD,Nat.add_comm i 1]
    ·rintro e w2 ⟨h,hb2⟩
     rw[←HAK.out]at h
     rcases h with rfl|rfl
     ·exact .inl ⟨_,rfl,hK _ _ rfl hb2⟩
     ·refine .inr ⟨_,rfl,?_⟩
      have hB:=(HH.out w' hb).trans (hb2.mono (HH.out w' hb).size)
      have h9:=leave_fault (fun e w'=>e= .returned (.string (str (ansL A s)))∧Below w.heap.size w w') a.tmps w.heap.size _ (ansL A s) w2 ((HR.out w' hb).below hb2) (ev_tmp (hf 2 rfl)) ⟨rfl,hB.setCell (Nat.le_refl _) _⟩
      show Leaves _ _ a.tmps _ a.defers _ w2
      rw[hdf]
      exact h9
   ·rintro vals w8 ⟨hh0,hh1,hh2,hh3,hh4,_⟩ hb8
    clear hh0 hh1 hh2 hh3
    simp only[Nat.reduceAdd]at hh4
    simp only[putAll,Act.put,List.setIfInBounds_toArray,List.set_cons_zero,List.set_cons_succ,List.drop_succ_cons,List.drop_zero,List.length_cons,List.length_nil,Nat.reduceAdd]
    rw[hh4]
    have hA8:=HR.out w8 hb8
    have hc8:w8.cell? ⟨w.heap.size,0,none⟩=some (.string ByteArray.empty):=hA8.cell 0
    have hz8:w8.frozen? ⟨w.heap.size,0,none⟩=false:=hA8.frozen 0
    have HB8:=hid (HH.out w8 hb8)
    have HA8:=hid hA8
    clear hb8 hA8
    go_wp2
    have hB9:Below w.heap.size w (w8.setCell ⟨w.heap.size,0,none⟩ (.string (str (ansL A s)))):=HB8.out.setCell (Nat.le_refl _) _
    exact leave_idle _ _ w.heap.size (ansL A s) _ (HA8.out.stored 0 _).1 rfl (fun w' hb=>⟨rfl,hB9.trans (hb.mono hB9.size)⟩)
  ·have hki:((NW:Int)-1 !=(k:Int))=true:=by simp;omega
   go_wp2_with (first
    |(refine wpList_store_mid rfl 41 _ _ rfl w5.heap.size 0 #[Value.int .i64 k,.func (Fn.func F) #[] #[]] rfl rfl t1 i3 hone ?_;show wpList _ _ _ _ _ ((w5.alloc (.cells #[.int .i64 0,.nilFunc] 41)).setCells w5.heap.size 0 [Value.int .i64 k,.func (Fn.func F) #[] #[]]);generalize ((w5.alloc (.cells #[.int .i64 0,.nilFunc] 41)).setCells w5.heap.size 0 [Value.int .i64 k,.func (Fn.func F) #[] #[]])=w6 at H4⊢;have hc0:w6.cell? ⟨w5.heap.size,0,none⟩=some (.int .i64 k):=H4.out.1.cell 0;clear t1 hone;skip))
   refine leave_fault _ _ w.heap.size _ badT w6 (HA5.out.below H4.out.2) rfl ⟨?_,?_⟩
   ·rw[HANS.out,HCC.out]
    exact congrArg (fun x=>Ending.returned (.string (str x))) (if_neg (by rw[HNW.out];omega)).symm
   ·exact(HB5.out.trans (H4.out.2.mono HB5.out.size)).setCell (Nat.le_refl _) _
 ·refine leave_fault _ _ w.heap.size _ badT w5 HA5.out rfl ⟨?_,?_⟩
  ·rw[HANS.out,hc]
  ·exact HB5.out.setCell (Nat.le_refl _) _
end Go.Proofs.YtnnaadmegeeinaaGreatDoor
namespace Go.Proofs.YtnnaadmegeeinaaGreatDoor
open Go.RowKit
def runL (A:List UInt8→List (List UInt8)→List UInt8):Nat→List UInt8→List UInt8
 |0,_=>[]
 |n+1,t=>if t=[]then[]else ansL A (Lib.cut t [10]).1++10::runL A n (Lib.cut t [10]).2.1
def SmallA (A:List UInt8→List (List UInt8)→List UInt8):Prop:=∀T ts,(A T ts).length≤1000000000
theorem ansL_len {A:List UInt8→List (List UInt8)→List UInt8} (h:SmallA A) (s:List UInt8):(ansL A s).length≤1000000000:=by
 unfold ansL
 split
 ·split
  ·exact h _ _
  ·decide
 ·decide
def runT (A:List UInt8→List (List UInt8)→List UInt8) (t:List UInt8):List UInt8:=if 8000<t.length then[116,111,111,32,108,111,110,103,10]else runL A t.length t
theorem bld_below {T e:TypeId} {B b:Nat} {bs:List Value} {w w':World} (h:Lib.IsBuilder T e B b bs w) (hb:Below w.heap.size w w'):Lib.IsBuilder T e B b bs w':=by
 have key:∀p,Lib.BuilderAt T e B b p bs w→Lib.BuilderAt T e B b p bs w':=by
  rintro p ⟨h1,v,h2,h3,h4⟩
  refine⟨h1,v,(hb.block b (Array.getElem?_eq_some_iff.1 h2).1).trans h2,?_,h4⟩
  obtain⟨o1,o2⟩:=h3
  refine⟨o1,o2.imp id ?_⟩
  rintro⟨g,cap,cur,e,hg,hh,r⟩
  exact⟨g,cap,cur,e,hg,by rw[hb.block g (Array.getElem?_eq_some_iff.1 hh).1];exact hh,r⟩
 exact h.imp (key _) (key _)
theorem cut_next {t:List UInt8} (ht:t≠[]):(Lib.cut t [10]).1.length≤t.length∧(Lib.cut t [10]).2.1.length<t.length:=by
 have h:=cut_lt ht 10
 refine⟨h.1,?_⟩
 cases e:(Lib.cut t [10]).2.2 with
 |true=>exact h.2 e
 |false=>
  have:(Lib.cut t [10]).2.1=[]:=by
   unfold Lib.cut at e⊢
   split at e
   ·cases e
   ·rename_i hn
    rw[if_neg hn]
  rw[this]
  exact List.length_pos_iff.2 ht
theorem write_any (b:Nat) (B:Nat) (acc:List UInt8) (s:List UInt8) (w:World) (h:Lib.IsBuilder 28 5 B b (Lib.byteCells acc) w) (hl:acc.length+s.length≤140737488355328) (hB:B≤w.heap.size):
 Calls Tryz.prog 8 #[.pointer (some ⟨b,0,none⟩),.string (str s)] w fun e w'=>(∃v,e= .returned v)∧Lib.IsBuilder 28 5 B b (Lib.byteCells (acc++s)) w'∧Below B w w':=by
 refine(Any.Builder_WriteString {lJoin with} xJoin B b (Lib.byteCells acc) (str s) w h (by rw[Lib.byteCells_length,str_size];exact hl) hB).mono ?_
 rintro e w' ⟨rfl,h1,h2⟩
 refine⟨⟨_,rfl⟩,.inr ?_,h2⟩
 have:Lib.byteCells acc++Lib.strCells (str s)=Lib.byteCells (acc++s):=by rw[Lib.strCells_eq,str_data];simp[Lib.byteCells]
 rw[←this]
 exact h1
theorem bstring_any (b:Nat) (B:Nat) (acc:List UInt8) (w:World) (h:Lib.IsBuilder 28 5 B b (Lib.byteCells acc) w) (hB:B≤w.heap.size):
 Calls Tryz.prog 10 #[.pointer (some ⟨b,0,none⟩)] w fun e w'=>e= .returned (.string (str acc))∧Below B w w':=by
 refine(Any.Builder_String_any {lJoin with} xJoin B b acc w h hB).mono ?_
 exact fun e w' h=>h
theorem runL_step (A:List UInt8→List (List UInt8)→List UInt8) {n:Nat} {t:List UInt8} (h:t.length≤n) (ht:t≠[]):runL A n t=(ansL A (Lib.cut t [10]).1++[10])++runL A (n-1) (Lib.cut t [10]).2.1:=by
 have:=List.length_pos_iff.2 ht
 obtain⟨m,rfl⟩:∃m,n=m+1:=⟨n-1,by omega⟩
 rw[runL,if_neg ht]
 simp
theorem run_any (A:List UInt8→List (List UInt8)→List UInt8) (HC:CmdsOk A) (HS:SmallA A) (s:List UInt8) (w:World) (hW:RunW w) (hs:s.length≤140737488355328):
 Calls Tryz.prog 5 #[.string (str s)] w fun e w'=>e= .returned (.string (str (runT A s)))∧Below w.heap.size w w':=by
 have hsz:(str s).size=s.length:=str_size s
 by_cases hbig:8000<s.length
 ·have HR:Hid (runT A s=[116,111,111,32,108,111,110,103,10]):=hid (if_pos hbig)
  have hbi:(8000:Int)<(s.length:Int):=by omega
  rw[HR.out]
  clear HR hW HC
  generalize str s=q at*
  go_enter Tryz.func5,Tryz.ntmps5
  go_wp2
  go_ret
  exact⟨rfl,Below.refl _ _⟩
 ·have hbi:¬(8000:Int)<(s.length:Int):=by omega
  have HR:Hid (runT A s=runL A s.length s):=hid (if_neg hbig)
  have hle:s.length≤8000:=by omega
  have HANS:=hid (fun(t:List UInt8) (w1:World) (h:t.length≤8000) (hb:Below w.heap.size w w1)=>answer_any A HC t w1 h (hW.below hb))
  have HCUT:=hid (fun(t:List UInt8) (w1:World) (h:t.length≤8000) (hb:Below w.heap.size w w1)=>cut_at_w t w1 (by omega) (hW.below hb).lib 10)
  have HB0:=hid ((Below.refl w.heap.size w).alloc (Nat.le_refl _) (.cells #[.pointer none,.slice none 0 0] 28))
  have HF0:=hid (Lib.fresh_isBuilder 28 5 w)
  clear hW HC
  go_enter Tryz.func5,Tryz.ntmps5
  go_wp2
  go_loopw [0,4,5,6,10] (fun tv _ _ _ _ wr=>∃(n:Nat) (t acc:List UInt8),tv= .string (str t)∧t.length≤n∧n≤s.length∧acc++runL A n t=runL A s.length s∧acc.length≤(s.length-n)*1000000001∧Lib.IsBuilder 28 5 w.heap.size w.heap.size (Lib.byteCells acc) wr∧Below w.heap.size w wr) (fun tv _ _ _ _ _=>match tv with| .string x=>x.size|_=>0)
  case atStart=>exact⟨s.length,s,[],rfl,Nat.le_refl _,Nat.le_refl _,rfl,by simp,HF0.out,HB0.out⟩
  case round=>
   obtain⟨n,t,acc,rfl,htn,hns,hrun,hacc,hbld,hb⟩:=hrel
   by_cases ht:t=[]
   ·have hq:((str t).toList==[])=true:=by rw[ht,Lib.toList_data,str_data];rfl
    have he:acc=runL A s.length s:=by
     rw[←hrun,ht]
     cases n<;>simp[runL]
    have HG:=hid (bstring_any w.heap.size w.heap.size acc wr hbld hb.size)
    have HBB:=hid hb
    have HE:=hid he
    clear he hbld hb hrun hacc ht
    go_wp2_with fail
    refine HG.out.mono ?_
    rintro e w9 ⟨rfl,hb9⟩
    have HZ:=hid (HBB.out.trans hb9)
    have HEE:Hid (str acc=str (runT A s)):=hid (by rw[HE.out,HR.out])
    rw[HEE.out]
    clear hb9
    go_wp2
    go_ret
    exact⟨rfl,HZ.out⟩
   ·have hq:((str t).toList==[])=false:=by rw[Lib.toList_data,str_data,beq_eq_false_iff_ne];exact ht
    have hst:=runL_step A htn ht
    obtain⟨hc1,hc2⟩:=cut_next ht
    have HCT:=hid (HCUT.out t wr (by omega) hb)
    have HAL:=hid (fun(w1:World) (hb1:Below wr.heap.size wr w1)=>HANS.out (Lib.cut t [10]).1 w1 (by omega) (hb.trans (hb1.mono hb.size)))
    have hsm:=ansL_len HS (Lib.cut t [10]).1
    have HRUN:=hid (hrun.symm.trans (congrArg (acc++ ·) hst))
    have HBLD:=hid hbld
    have HBB:=hid hb
    have HSZ:=hid hb.size
    have hn0:0<n:=by have:=List.length_pos_iff.2 ht;omega
    have HTN:=hid (show(Lib.cut t [10]).2.1.length≤n-1 by omega)
    have HLT:=hid hc2
    have hsa:(str (ansL A (Lib.cut t [10]).1)).size≤1000000000:=by rw[str_size];exact hsm
    clear hst hrun hbld hb hc1 hc2 ht
    generalize (Lib.cut t [10]).2.1=rest at*
    generalize (Lib.cut t [10]).2.2=fnd at*
    generalize (Lib.cut t [10]).1=ln at*
    go_wp2_with fail
    refine HCT.out.mono ?_
    rintro e w4 ⟨rfl,hb4⟩
    have HB4:=hid hb4
    have HA4:=hid (HAL.out w4 hb4)
    clear hb4 HCT HAL
    go_wp2_with fail
    refine HA4.out.mono ?_
    rintro e w5 ⟨rfl,hb5⟩
    have HB5:=hid (HB4.out.trans (hb5.mono HB4.out.size))
    have HE:Hid (str (ansL A ln)++(⟨#[10]⟩:ByteArray)=str (ansL A ln++[10])):=hid (by simp[str,ByteArray.ext_iff])
    have HW:=hid (write_any w.heap.size w.heap.size acc (ansL A ln++[10]) w5 (bld_below HBLD.out HB5.out) (by simp;omega) (Nat.le_trans HSZ.out HB5.out.size))
    have HACC:=hid hacc
    clear hb5 HA4 hacc
    go_wp2_with fail
    rw[HE.out]
    refine HW.out.mono ?_
    rintro e w6 ⟨⟨v6,rfl⟩,hbld6,hb6⟩
    have HX:=hid (And.intro hbld6 ((HBB.out.trans (HB5.out.mono HSZ.out)).trans hb6))
    clear hbld6 hb6 HW
    go_wp2
    go_roundw
    case rel=>
     refine⟨n-1,rest,acc++(ansL A ln++[10]),rfl,HTN.out,by omega,?_,?_,HX.out.1,HX.out.2⟩
     ·rw[List.append_assoc]
      exact HRUN.out.symm
     ·have:=HACC.out
      simp
      omega
    case measure=>
     have:=HLT.out
     simp[str_size]
     omega
end Go.Proofs.YtnnaadmegeeinaaGreatDoor
