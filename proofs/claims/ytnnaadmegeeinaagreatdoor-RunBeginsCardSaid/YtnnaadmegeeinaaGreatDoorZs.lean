/-
  Part 19 of a proof: what it proves stands in the last text.
-/
import Derived.Test.YtnnaadmegeeinaaGreatDoorZc
import Derived.RangeFuncBox
import Derived.RangeFuncLeaves
import Derived.RangeFuncFrom
import Derived.Shelf.Sort.Plain
import Derived.Shelf.Small.Bits
import Derived.Sort.OwnSortedInts
import Derived.Shelf.Strings.Shaped
import Derived.Shelf.Strings.SplitShaped
import Derived.Shelf.Small.Wraps
import Derived.Test.YtnnaadmegeeinaaGreatDoorZo
set_option linter.unusedVariables false
set_option maxHeartbeats 8000000
set_option maxRecDepth 100000
namespace Go.Proofs.YtnnaadmegeeinaaGreatDoor
open Go.RowKit
structure Rest (B:Nat) (A C:World) (u:Value):Prop where
 size:A.heap.size≤C.heap.size
 same:∀r,B≤r→r<A.heap.size→u.ownBlock≠some r→C.heap[r]? =A.heap[r]?
def OwnStep (A:World) (u u':Value):Prop:=∀g,u'.ownBlock=some g→u.ownBlock=some g∨A.heap.size≤g
def Ever (P:Program) (gf:Nat) (lb:Array Value) (val:Nat→Int) (Src:World→Prop) (N:Nat):Prop:=
 ∀(l:Nat) (J Jx:Nat→Value→World→Prop) (W:World),
  (∀k u A,J k u A→Src A∧k<N∧∀g,u.ownBlock=some g→g<A.heap.size)→
  (∀k u A C row,J k u A→A.grownBy C row→(∀r,row=some r→W.heap.size≤r∧u.ownBlock≠some r)→J k u C)→
  (∀k u A,J k u A→YieldAt Fence.wide 0 P l #[.int .i64 (val k)] A fun e C=>
    (e= .returned (.bool true)∧∃u',J (k+1) u' C∧Rest W.heap.size A C u∧OwnStep A u u')∨(e= .returned (.bool false)∧∃u',Jx (k+1) u' C))→
  J 0 (.slice none 0 0) W→
  CallsIn Fence.wide 0 P gf (#[.func (.yield l) #[] #[]]++lb) W fun e C=>(∃v,e= .returned v)∧∃k u,Jx k u C
def everPost (B:Nat) (I:Nat→Value→World→Prop) (Ix:Code→Nat→Value→World→Prop) (k:Nat) (u:Value) (W:World):Exit→Act→World→Prop
 | .normal,_,W'=>KeepsOthers W W'∧∃u',I (k+1) u' W'∧Rest B W W' u∧OwnStep W u u'
 | .ret,_,W'=>KeepsOthers W W'∧∃u',Ix .ret (k+1) u' W'
 | .exit id,_,W'=>KeepsOthers W W'∧∃u',Ix (.exit id) (k+1) u' W'
 | .goto t,_,W'=>KeepsOthers W W'∧∃u',Ix (.goto t) (k+1) u' W'
 | .panic _,_,_=>False
 | .outgrown,_,_=>False
theorem range_ever {P:Program} {g:Operand} {ps:Array Tmp} {assign body:Code} {Q:Exit→Act→World→Prop} {a:Act} {w:World} {gf:Nat} {lb:Array Value}
 (hg:a.eval g= .func (.func gf) #[] lb) (eg:∀args w,(callFunc gf args).run P w= .ok (.enter gf args) w) (hps:ps.size=1)
 {val:Nat→Int} {Src:World→Prop} {N:Nat} (hE:Ever P gf lb val Src N)
 (I:Nat→Value→World→Prop) (Ix:Code→Nat→Value→World→Prop)
 (hI:∀k u A C row,I k u A→A.grownBy C row→(∀r,row=some r→w.heap.size≤r∧u.ownBlock≠some r)→I k u C)
 (hIx:∀c k u A C row,Ix c k u A→A.grownBy C row→(∀r,row=some r→w.heap.size≤r∧u.ownBlock≠some r)→Ix c k u C)
 (hJ:∀k u A,I k u A→Src A∧k<N∧∀g,u.ownBlock=some g→∃o:Obj,A.heap[g]? =some o∧o.isCells=true)
 (hJx:∀c k u A,Ix c k u A→∀g,u.ownBlock=some g→∃o:Obj,A.heap[g]? =some o∧o.isCells=true)
 (h0:I 0 (.slice none 0 0) w) (a₁:Int→Act)
 (hassign:∀(l:Nat) (x:Int) (W:World) (K:Act→World→Prop),K (a₁ x) W→
   assign.wpIn (Fence.wide.inRound l) 0 P (Exit.then K (fun _ _ _=>False)) {tmps:=(ps.zip #[.int .i64 x]).foldl (fun t (p,v)=>t.setIfInBounds p v) a.tmps,defers:=[]} W)
 (hbody:∀(l k:Nat) (u:Value) (W:World),I k u W→body.wpIn (Fence.wide.inRound l) 0 P (everPost (w.heap.size+2) I Ix k u W) (a₁ (val k)) W)
 (hstop:∀(D:Nat) (c:Code) (k:Nat) (u:Value) (W:World),w.heap.size≤D→Ix c k u W→W.heap[D]? =some (.deferred (some []))→c.wp P Q {a with defers:={target:= .collected D,args:= #[]}::a.defers} W):
 (Code.rangeFunc g ps assign body).wp P Q a w:=by
 refine(wpIn_wide (n:=0)).1 (wpIn_rangeFunc fun fn _=> ?_)
 obtain⟨rc,hrc⟩:∃rc:LoopState→Option Code→Loop,rc=fun st pe=>{state:=st,pending:=pe,fn,tmps:=a.tmps,params:=ps,assign,body,defers:=w.heap.size}:=⟨_,rfl⟩
 obtain⟨V,hV⟩:∃V,(w.alloc (.deferred (some []))).alloc (.loop (rc .ready none))=V:=⟨_,rfl⟩
 have hVs:V.heap.size=w.heap.size+2:=by rw[←hV];simp
 have hVl:V.heap[w.heap.size+1]? =some (.loop (rc .ready none)):=by
  rw[←hV]
  have:=World.alloc_heap_new (w.alloc (.deferred (some []))) (.loop (rc .ready none))
  rwa [World.size_alloc]at this
 have hVd:V.heap[w.heap.size]? =some (.deferred (some [])):=by
  rw[←hV]
  exact(Below.heap_alloc _ _ _ (by simp)).trans (World.alloc_heap_new w _)
 have hVi:I 0 (.slice none 0 0) V:=by
  rw[←hV]
  exact hI _ _ _ _ none (hI _ _ _ _ none h0 (World.grownBy_alloc _ _ none) (fun r e=>by cases e)) (World.grownBy_alloc _ _ none) (fun r e=>by cases e)
 have turn:∀{k:Nat} {u:Value} {A:World} {o:Obj} (o':Obj),I k u A→A.heap[w.heap.size+1]? =some o→o.isCells=false→I k u (A.putObj (w.heap.size+1) o'):=by
  intro k u A o o' hi ho hc
  refine hI _ _ _ _ _ hi (grownBy_putObj' A _ o') fun r e=> ?_
  cases e
  refine⟨by omega,fun e2=> ?_⟩
  obtain⟨o2,h2,h3⟩:=(hJ _ _ _ hi).2.2 _ e2
  rw[ho]at h2
  cases h2
  rw[hc]at h3
  cases h3
 have turnx:∀{c:Code} {k:Nat} {u:Value} {A:World} {o:Obj} (o':Obj),Ix c k u A→A.heap[w.heap.size+1]? =some o→o.isCells=false→Ix c k u (A.putObj (w.heap.size+1) o'):=by
  intro c k u A o o' hi ho hc
  refine hIx _ _ _ _ _ _ hi (grownBy_putObj' A _ o') fun r e=> ?_
  cases e
  refine⟨by omega,fun e2=> ?_⟩
  obtain⟨o2,h2,h3⟩:=hJx _ _ _ _ hi _ e2
  rw[ho]at h2
  cases h2
  rw[hc]at h3
  cases h3
 refine⟨w.heap.size+1,[{target:= .collected w.heap.size,args:= #[]}],V,{target:= .fn (.func gf) lb,args:= #[.func (.yield (w.heap.size+1)) #[] #[]]},V,gf,
  #[.func (.yield (w.heap.size+1)) #[] #[]]++lb,V,?_,?_,fun _ _=>trivial,?_,fun h=>by simp[Fence.wide]at h,?_⟩
 ·show(Instr.enterLoop fn a.tmps ps assign body none).run P w=_
  rw[←hV,hrc]
  exact run_enterLoop_outer _ _ _ _ _
 ·simp only[resolve,hg]
  simp[go_sem]
 ·simp[invoke,go_sem,eg]
 refine(hE (w.heap.size+1) (fun k u A=>I k u A∧A.heap[w.heap.size+1]? =some (.loop (rc .ready none))∧A.heap[w.heap.size]? =some (.deferred (some [])))
  (fun k u A=>∃c,Ix c k u A∧A.heap[w.heap.size+1]? =some (.loop (rc .done (some c)))∧A.heap[w.heap.size]? =some (.deferred (some []))) V ?_ ?_ ?_ ⟨hVi,hVl,hVd⟩).mono ?_
 ·rintro k u A ⟨hi,_,_⟩
  obtain⟨a1,a2,a3⟩:=hJ _ _ _ hi
  refine⟨a1,a2,fun q hq=> ?_⟩
  obtain⟨o,ho,_⟩:=a3 q hq
  exact(Array.getElem?_eq_some_iff.1 ho).1
 ·rintro k u A C row ⟨hi,hl,hd⟩ hgr hr
  refine⟨hI _ _ _ _ _ hi hgr fun r e=>⟨by have:=(hr r e).1;omega,(hr r e).2⟩,?_,?_⟩
  ·rw[hgr.block _ (Array.getElem?_eq_some_iff.1 hl).1 (fun e=>by have:=(hr _ e.symm).1;omega)];exact hl
  ·rw[hgr.block _ (Array.getElem?_eq_some_iff.1 hd).1 (fun e=>by have:=(hr _ e.symm).1;omega)];exact hd
 ·
  rintro k u A ⟨hi,hl,hd⟩
  have hlt:=(Array.getElem?_eq_some_iff.1 hl).1
  have hy:=run_yield (P:=P) (args:= #[.int .i64 (val k)]) hl (by rw[hrc];simp[hps])
  rw[hrc]at hy
  refine⟨fn,_,assign,body,hy,roundIn_of_wpIn trivial (hassign _ _ A _ ⟨_,run_beginRound hl (by rw[hrc]),?_⟩)⟩
  obtain⟨B,hB⟩:∃B,A.putObj (w.heap.size+1) (.loop {rc .ready none with state:= .busy})=B:=⟨_,rfl⟩
  have hBl:B.heap[w.heap.size+1]? =some (.loop {rc .ready none with state:= .busy}):=by rw[←hB];exact World.putObj_heap_same hlt
  have hBd:B.heap[w.heap.size]? =some (.deferred (some [])):=by rw[←hB];exact(World.putObj_heap_other (by omega)).trans hd
  have hBs:B.heap.size=A.heap.size:=by rw[←hB];simp
  have hBr:∀r,w.heap.size+2≤r→B.heap[r]? =A.heap[r]? :=fun r h=>by rw[←hB];exact World.putObj_heap_other (by omega)
  have hBi:I k u B:=by rw[←hB];exact turn _ hi hl rfl
  rw[hB]
  refine wpIn_mono (hbody _ k u B hBi) ?_
  have fin:∀(jump:Option Code) (C:World),KeepsOthers B C→
   (Instr.endRound (w.heap.size+1) jump).run P C= .ok (.bool jump.isNone) (C.putObj (w.heap.size+1) (.loop (rc (if jump.isNone then .ready else .done) jump)))∧
   C.heap[w.heap.size+1]? =some (.loop {rc .ready none with state:= .busy})∧
   (C.putObj (w.heap.size+1) (.loop (rc (if jump.isNone then .ready else .done) jump))).heap[w.heap.size+1]? =some (.loop (rc (if jump.isNone then .ready else .done) jump))∧
   (C.putObj (w.heap.size+1) (.loop (rc (if jump.isNone then .ready else .done) jump))).heap[w.heap.size]? =some (.deferred (some [])):=by
   intro jump C hk
   have hC:=hk.same _ _ hBl rfl
   have hr:=run_endRound (P:=P) jump hC
   rw[hrc]at hr hC⊢
   exact⟨hr,hC,World.putObj_heap_same (Array.getElem?_eq_some_iff.1 hC).1,(World.putObj_heap_other (by omega)).trans (hk.same _ _ hBd rfl)⟩
  have stop:∀(c:Code) (C:World),KeepsOthers B C→(∃u',Ix c (k+1) u' C)→∃v w',(Instr.endRound (w.heap.size+1) (some c)).run P C= .ok v w'∧
   ((Ending.returned v= .returned (.bool true)∧∃u',(I (k+1) u' w'∧w'.heap[w.heap.size+1]? =some (.loop (rc .ready none))∧w'.heap[w.heap.size]? =some (.deferred (some [])))∧Rest V.heap.size A w' u∧OwnStep A u u')∨
    (Ending.returned v= .returned (.bool false)∧∃u' c,Ix c (k+1) u' w'∧w'.heap[w.heap.size+1]? =some (.loop (rc .done (some c)))∧w'.heap[w.heap.size]? =some (.deferred (some [])))):=by
   rintro c C hk ⟨u',hx⟩
   obtain⟨hr,hC,h1,h2⟩:=fin (some c) C hk
   exact⟨_,_,hr,.inr ⟨rfl,u',c,turnx _ hx hC rfl,h1,h2⟩⟩
  rintro e a3 C hp
  cases e with
  |normal=>
   obtain⟨hk,u',hi2,hrest,hown⟩:=hp
   obtain⟨hr,hC,h1,h2⟩:=fin none C hk
   refine⟨_,_,hr,.inl ⟨rfl,u',⟨turn _ hi2 hC rfl,h1,h2⟩,⟨?_,fun r hr1 hr2 hr3=> ?_⟩,fun q hq=> ?_⟩⟩
   ·have:=hrest.size
    simp
    omega
   ·rw[World.putObj_heap_other (by omega),hrest.same r (by omega) (by omega) hr3,hBr r (by omega)]
   ·have:=hown q hq
    rw[hBs]at this
    exact this
  |ret=>exact stop .ret C hp.1 hp.2
  |exit id=>exact stop (.exit id) C hp.1 hp.2
  |goto t=>exact stop (.goto t) C hp.1 hp.2
  |panic ch=>exact hp.elim
  |outgrown=>exact hp.elim
 ·
  rintro e C ⟨⟨v,rfl⟩,k,u,c,hx,hl,hd⟩
  have hr:=run_endLoop (P:=P) hl (by rw[hrc];simp)
  rw[hrc]at hr
  exact⟨some c,_,hr,wpIn_wide.2 (hstop _ c k u _ (Nat.le_refl _) (turnx _ hx hl rfl) ((World.putObj_heap_other (by omega)).trans hd))⟩
end Go.Proofs.YtnnaadmegeeinaaGreatDoor
namespace Go.Proofs.YtnnaadmegeeinaaGreatDoor
open Go.RowKit Go.Shelf
def isortRen:Ren:=⟨fun x=>match x with|189=>268|125=>282|257=>292|128=>310|129=>296|294=>320|295=>321|296=>322|297=>323|298=>324|299=>325|216=>326|300=>327|301=>328|328=>340|329=>333|330=>334|331=>341|332=>342|215=>311|343=>345|n=>n,fun x=>match x with|28=>45|3=>3|46=>126|0=>0|51=>160|53=>188|4=>4|183=>278|182=>277|131=>77|5=>5|9=>9|218=>295|222=>299|228=>307|229=>198|n=>n,fun n=>n⟩
theorem isort:Lays.n189 Tryz.prog isortRen where
 mixed:=by kernel_rfl
 f125:=Tryz.func282.trans (congrArg some (by kernel_rfl))
 f128:=Tryz.func310.trans (congrArg some (by kernel_rfl))
 f129:=Tryz.func296.trans (congrArg some (by kernel_rfl))
 f189:=Tryz.func268.trans (congrArg some (by kernel_rfl))
 f215:=Tryz.func311.trans (congrArg some (by kernel_rfl))
 f216:=Tryz.func326.trans (congrArg some (by kernel_rfl))
 f257:=Tryz.func292.trans (congrArg some (by kernel_rfl))
 f294:=Tryz.func320.trans (congrArg some (by kernel_rfl))
 f295:=Tryz.func321.trans (congrArg some (by kernel_rfl))
 f296:=Tryz.func322.trans (congrArg some (by kernel_rfl))
 f297:=Tryz.func323.trans (congrArg some (by kernel_rfl))
 f298:=Tryz.func324.trans (congrArg some (by kernel_rfl))
 f299:=Tryz.func325.trans (congrArg some (by kernel_rfl))
 f300:=Tryz.func327.trans (congrArg some (by kernel_rfl))
 f301:=Tryz.func328.trans (congrArg some (by kernel_rfl))
 f328:=Tryz.func340.trans (congrArg some (by kernel_rfl))
 f329:=Tryz.func333.trans (congrArg some (by kernel_rfl))
 f330:=Tryz.func334.trans (congrArg some (by kernel_rfl))
 f331:=Tryz.func341.trans (congrArg some (by kernel_rfl))
 f332:=Tryz.func342.trans (congrArg some (by kernel_rfl))
 f343:=Tryz.func345.trans (congrArg some (by kernel_rfl))
 t0:=Tryz.underlying0
 a0:=Tryz.isAgg0
 z0:=Tryz.sizeOf0
 v0:=Tryz.zeroValue0
 t3:=Tryz.underlying3
 a3:=Tryz.isAgg3
 z3:=Tryz.sizeOf3
 v3:=Tryz.zeroValue3
 t4:=Tryz.underlying4
 a4:=Tryz.isAgg4
 z4:=Tryz.sizeOf4
 v4:=Tryz.zeroValue4
 t5:=Tryz.underlying5
 a5:=Tryz.isAgg5
 z5:=Tryz.sizeOf5
 v5:=Tryz.zeroValue5
 t9:=Tryz.underlying9
 a9:=Tryz.isAgg9
 z9:=Tryz.sizeOf9
 v9:=Tryz.zeroValue9
 t28:=Tryz.underlying45
 a28:=Tryz.isAgg45
 z28:=Tryz.sizeOf45
 v28:=Tryz.zeroValue45
 t46:=Tryz.underlying126
 a46:=Tryz.isAgg126
 z46:=Tryz.sizeOf126
 v46:=Tryz.zeroValue126
 t51:=Tryz.underlying160
 a51:=Tryz.isAgg160
 z51:=Tryz.sizeOf160
 v51:=Tryz.zeroValue160
 t53:=Tryz.underlying188
 a53:=Tryz.isAgg188
 z53:=Tryz.sizeOf188
 v53:=Tryz.zeroValue188
 t131:=Tryz.underlying77
 a131:=Tryz.isAgg77
 z131:=Tryz.sizeOf77
 v131:=Tryz.zeroValue77
 t182:=Tryz.underlying277
 a182:=Tryz.isAgg277
 z182:=Tryz.sizeOf277
 v182:=Tryz.zeroValue277
 t183:=Tryz.underlying278
 a183:=Tryz.isAgg278
 z183:=Tryz.sizeOf278
 v183:=Tryz.zeroValue278
 t218:=Tryz.underlying295
 a218:=Tryz.isAgg295
 z218:=Tryz.sizeOf295
 v218:=Tryz.zeroValue295
 t222:=Tryz.underlying299
 a222:=Tryz.isAgg299
 z222:=Tryz.sizeOf299
 v222:=Tryz.zeroValue299
 t228:=Tryz.underlying307
 a228:=Tryz.isAgg307
 z228:=Tryz.sizeOf307
 v228:=Tryz.zeroValue307
 t229:=Tryz.underlying198
 a229:=Tryz.isAgg198
 z229:=Tryz.sizeOf198
 v229:=Tryz.zeroValue198
open Go.Sort Go.Lib
theorem sortI_ok (l:List Int) (B g c:Nat) (w:World) (h:OI B w (.slice (some ⟨g,0,none⟩) l.length c) l) (hlen:l.length≤1000000000):
 Calls Tryz.prog 268 #[.slice (some ⟨g,0,none⟩) l.length c] w fun e w'=>
  e= .returned (.tuple #[])∧OI B w' (.slice (some ⟨g,0,none⟩) l.length c) (l.mergeSort fun x y=>decide (x≤y))∧w.grownBy w' (some g):=by
 obtain⟨h0,hf⟩:=h
 rw[List.length_map]at h0 hf
 rcases hf with⟨h1,_⟩|⟨g',cap,cur,hv,hbase,hb,hn,hcap,hcs,ht⟩
 ·cases h1
 obtain⟨rfl,rfl⟩:g=g'∧c=cap:=by simpa using hv
 rw[Nat.mul_one]at ht
 have key:=Any.slices_Sort_int isort g 0 c l w (holds_of_blockI hb ht) (Array.getElem?_eq_some_iff.1 hb).1 (by omega)
 have key2:Calls Tryz.prog 268 #[.slice (some ⟨g,0,none⟩) l.length c] w _:=key
 refine key2.mono ?_
 rintro e w' ⟨rfl,n,os,rfl⟩
 have hl:(l.mergeSort fun x y=>decide (x≤y)).length=l.length:=List.length_mergeSort l
 refine⟨rfl,?_,grownBy_sortedI _⟩
 have:=ownsRow_sortedI (n:=n) (os:=os) hl hbase hb hn hcap hcs
 unfold OI Ow
 rw[List.length_map,hl]
 exact this
def lenLaysRenQ:Ren:=⟨fun x=>match x with|125=>282|128=>310|129=>296|n=>n,fun x=>match x with|46=>126|3=>3|51=>160|53=>188|4=>4|5=>5|9=>9|n=>n,fun n=>n⟩
theorem lenLaysQ:Lays.n125 Tryz.prog lenLaysRenQ where
 mixed:=by kernel_rfl
 f125:=Tryz.func282.trans (congrArg some (by kernel_rfl))
 f128:=Tryz.func310.trans (congrArg some (by kernel_rfl))
 f129:=Tryz.func296.trans (congrArg some (by kernel_rfl))
 t3:=Tryz.underlying3
 a3:=Tryz.isAgg3
 z3:=Tryz.sizeOf3
 v3:=Tryz.zeroValue3
 t4:=Tryz.underlying4
 a4:=Tryz.isAgg4
 z4:=Tryz.sizeOf4
 v4:=Tryz.zeroValue4
 t5:=Tryz.underlying5
 a5:=Tryz.isAgg5
 z5:=Tryz.sizeOf5
 v5:=Tryz.zeroValue5
 t9:=Tryz.underlying9
 a9:=Tryz.isAgg9
 z9:=Tryz.sizeOf9
 v9:=Tryz.zeroValue9
 t46:=Tryz.underlying126
 a46:=Tryz.isAgg126
 z46:=Tryz.sizeOf126
 v46:=Tryz.zeroValue126
 t51:=Tryz.underlying160
 a51:=Tryz.isAgg160
 z51:=Tryz.sizeOf160
 v51:=Tryz.zeroValue160
 t53:=Tryz.underlying188
 a53:=Tryz.isAgg188
 z53:=Tryz.sizeOf188
 v53:=Tryz.zeroValue188
theorem bitsLenQ_any (x:Nat) (w:World) (h:x≤1000):
 Calls Tryz.prog 282 #[.int .u64 x] w fun e w'=>(∃n:Nat,n≤64∧e= .returned (.int .i64 n))∧w'=w:=by
 have:=Any.bits_Len lenLaysQ x w (by omega) (by omega)
 refine this.mono ?_
 rintro e w' ⟨he,hw⟩
 exact⟨⟨_,Lib.bitLen_le _ 64 (by omega) (by rw[Int.toNat_natCast];omega),he⟩,hw⟩
theorem insort_nil (w:World):
 Calls Tryz.prog 320 #[.slice none 0 0,.int .i64 0,.int .i64 0] w fun e w'=>e= .returned (.tuple #[])∧w=w':=by
 go_enter Tryz.func320,Tryz.ntmps320
 go_wp2
 go_loopw [6] (fun x wr=>x= .int .i64 1∧wr=w) (fun _ _=>0)
 case atStart=>exact⟨rfl,rfl⟩
 case round=>
  obtain⟨rfl,rfl⟩:=hrel
  go_wp2
  first|go_end0|refine bodyPost_ret (results_none rfl _ _ _) rfl ?_
  exact⟨rfl,rfl⟩
theorem pdq_nil (n:Nat) (w:World) (hn:n≤64):
 Calls Tryz.prog 292 #[.slice none 0 0,.int .i64 0,.int .i64 0,.int .i64 n] w fun e w'=>e= .returned (.tuple #[])∧w=w':=by
 have HS:=hid (insort_nil w)
 go_enter Tryz.func292,Tryz.ntmps292
 go_wp2
 go_loopw [1,2] (fun x y wr=>x= .int .i64 0∧y= .int .i64 0∧wr=w) (fun _ _ _=>0)
 case atStart=>exact⟨rfl,rfl,rfl⟩
 case round=>
  obtain⟨rfl,rfl,rfl⟩:=hrel
  go_wp2_with fail
  refine HS.out.mono ?_
  rintro e w2 ⟨rfl,rfl⟩
  go_wp2
  first|go_end0|refine bodyPost_ret (results_none rfl _ _ _) rfl ?_
  exact⟨rfl,rfl⟩
theorem sort_nil (w:World):
 Calls Tryz.prog 268 #[.slice none 0 0] w fun e w'=>e= .returned (.tuple #[])∧w=w':=by
 have HB:=hid (bitsLenQ_any 0 w (by omega))
 have HP:=hid (fun n (hn:n≤64)=>pdq_nil n w hn)
 rw[show((0:Nat):Int)=0 from rfl]at HB
 go_enter Tryz.func268,Tryz.ntmps268
 go_wp2_with fail
 refine HB.out.mono ?_
 rintro e w1 ⟨⟨n,hn,rfl⟩,rfl⟩
 go_wp2_with fail
 refine(HP.out n hn).mono ?_
 rintro e w2 ⟨rfl,rfl⟩
 go_wp2
 go_end0
 exact⟨rfl,rfl⟩
end Go.Proofs.YtnnaadmegeeinaaGreatDoor
namespace Go.Proofs.YtnnaadmegeeinaaGreatDoor
open Go.RowKit Go.Shelf
def lCutRen:Ren:=⟨fun x=>match x with|145=>7|220=>12|219=>23|217=>92|225=>93|224=>94|267=>95|266=>174|314=>175|n=>n,fun x=>match x with|9=>9|4=>4|59=>29|3=>3|5=>5|46=>126|146=>161|51=>160|n=>n,fun x=>match x with|1=>0|n=>n⟩
theorem lCut:LaysM.n145 Tryz.prog lCutRen where
 mixed:=by kernel_rfl
 f145:=Tryz.func7.trans (congrArg some (by kernel_rfl))
 f217:=Tryz.func92.trans (congrArg some (by kernel_rfl))
 f219:=Tryz.func23.trans (congrArg some (by kernel_rfl))
 f220:=Tryz.func12.trans (congrArg some (by kernel_rfl))
 f224:=Tryz.func94.trans (congrArg some (by kernel_rfl))
 f225:=Tryz.func93.trans (congrArg some (by kernel_rfl))
 f266:=Tryz.func174.trans (congrArg some (by kernel_rfl))
 f267:=Tryz.func95.trans (congrArg some (by kernel_rfl))
 f314:=Tryz.func175.trans (congrArg some (by kernel_rfl))
 t3:=Tryz.underlying3
 a3:=Tryz.isAgg3
 z3:=Tryz.sizeOf3
 v3:=Tryz.zeroValue3
 t4:=Tryz.underlying4
 a4:=Tryz.isAgg4
 z4:=Tryz.sizeOf4
 v4:=Tryz.zeroValue4
 t5:=Tryz.underlying5
 a5:=Tryz.isAgg5
 z5:=Tryz.sizeOf5
 v5:=Tryz.zeroValue5
 t9:=Tryz.underlying9
 a9:=Tryz.isAgg9
 z9:=Tryz.sizeOf9
 v9:=Tryz.zeroValue9
 t46:=Tryz.underlying126
 a46:=Tryz.isAgg126
 z46:=Tryz.sizeOf126
 v46:=Tryz.zeroValue126
 t51:=Tryz.underlying160
 a51:=Tryz.isAgg160
 z51:=Tryz.sizeOf160
 v51:=Tryz.zeroValue160
 t59:=Tryz.underlying29
 a59:=Tryz.isAgg29
 z59:=Tryz.sizeOf29
 v59:=Tryz.zeroValue29
 t146:=Tryz.underlying161
 a146:=Tryz.isAgg161
 z146:=Tryz.sizeOf161
 v146:=Tryz.zeroValue161
 g1:=by kernel_rfl
 i3:=by kernel_rfl
 i4:=by kernel_rfl
 i5:=by kernel_rfl
 i9:=by kernel_rfl
 i46:=by kernel_rfl
 i51:=by kernel_rfl
 i59:=by kernel_rfl
 i146:=by kernel_rfl
 m1:=by kernel_rfl
 s1_3:=fun w h=>Go.Proofs.cell_of_shapedOpen_int (zero:= #[.int .i64 0]) (t:=3) h (of_decide_eq_true (by kernel_rfl)) (by kernel_rfl) rfl (by kernel_rfl) (by kernel_rfl) Tryz.underlying3
def lSplitRen:Ren:=⟨fun x=>match x with|146=>15|221=>25|268=>96|138=>97|143=>98|195=>176|197=>177|218=>178|219=>23|260=>231|217=>92|225=>93|224=>94|267=>95|266=>174|314=>175|n=>n,fun x=>match x with|9=>9|31=>37|3=>3|4=>4|0=>0|105=>163|21=>21|5=>5|46=>126|119=>241|139=>244|138=>243|146=>161|51=>160|n=>n,fun x=>match x with|1=>0|3=>1|4=>2|n=>n⟩
theorem lSplit:LaysM.n146 Tryz.prog lSplitRen where
 mixed:=by kernel_rfl
 f138:=Tryz.func97.trans (congrArg some (by kernel_rfl))
 f143:=Tryz.func98.trans (congrArg some (by kernel_rfl))
 f146:=Tryz.func15.trans (congrArg some (by kernel_rfl))
 f195:=Tryz.func176.trans (congrArg some (by kernel_rfl))
 f197:=Tryz.func177.trans (congrArg some (by kernel_rfl))
 f217:=Tryz.func92.trans (congrArg some (by kernel_rfl))
 f218:=Tryz.func178.trans (congrArg some (by kernel_rfl))
 f219:=Tryz.func23.trans (congrArg some (by kernel_rfl))
 f221:=Tryz.func25.trans (congrArg some (by kernel_rfl))
 f224:=Tryz.func94.trans (congrArg some (by kernel_rfl))
 f225:=Tryz.func93.trans (congrArg some (by kernel_rfl))
 f260:=Tryz.func231.trans (congrArg some (by kernel_rfl))
 f266:=Tryz.func174.trans (congrArg some (by kernel_rfl))
 f267:=Tryz.func95.trans (congrArg some (by kernel_rfl))
 f268:=Tryz.func96.trans (congrArg some (by kernel_rfl))
 f314:=Tryz.func175.trans (congrArg some (by kernel_rfl))
 t0:=Tryz.underlying0
 a0:=Tryz.isAgg0
 z0:=Tryz.sizeOf0
 v0:=Tryz.zeroValue0
 t3:=Tryz.underlying3
 a3:=Tryz.isAgg3
 z3:=Tryz.sizeOf3
 v3:=Tryz.zeroValue3
 t4:=Tryz.underlying4
 a4:=Tryz.isAgg4
 z4:=Tryz.sizeOf4
 v4:=Tryz.zeroValue4
 t5:=Tryz.underlying5
 a5:=Tryz.isAgg5
 z5:=Tryz.sizeOf5
 v5:=Tryz.zeroValue5
 t9:=Tryz.underlying9
 a9:=Tryz.isAgg9
 z9:=Tryz.sizeOf9
 v9:=Tryz.zeroValue9
 t21:=Tryz.underlying21
 a21:=Tryz.isAgg21
 z21:=Tryz.sizeOf21
 v21:=Tryz.zeroValue21
 t31:=Tryz.underlying37
 a31:=Tryz.isAgg37
 z31:=Tryz.sizeOf37
 v31:=Tryz.zeroValue37
 t46:=Tryz.underlying126
 a46:=Tryz.isAgg126
 z46:=Tryz.sizeOf126
 v46:=Tryz.zeroValue126
 t51:=Tryz.underlying160
 a51:=Tryz.isAgg160
 z51:=Tryz.sizeOf160
 v51:=Tryz.zeroValue160
 t105:=Tryz.underlying163
 a105:=Tryz.isAgg163
 z105:=Tryz.sizeOf163
 v105:=Tryz.zeroValue163
 t119:=Tryz.underlying241
 a119:=Tryz.isAgg241
 z119:=Tryz.sizeOf241
 t138:=Tryz.underlying243
 a138:=Tryz.isAgg243
 z138:=Tryz.sizeOf243
 v138:=Tryz.zeroValue243
 t139:=Tryz.underlying244
 a139:=Tryz.isAgg244
 z139:=Tryz.sizeOf244
 v139:=Tryz.zeroValue244
 t146:=Tryz.underlying161
 a146:=Tryz.isAgg161
 z146:=Tryz.sizeOf161
 v146:=Tryz.zeroValue161
 g1:=by kernel_rfl
 g3:=by kernel_rfl
 g4:=by kernel_rfl
 i0:=by kernel_rfl
 i3:=by kernel_rfl
 i4:=by kernel_rfl
 i5:=by kernel_rfl
 i9:=by kernel_rfl
 i21:=by kernel_rfl
 i31:=by kernel_rfl
 i46:=by kernel_rfl
 i51:=by kernel_rfl
 i105:=by kernel_rfl
 i138:=by kernel_rfl
 i139:=by kernel_rfl
 i146:=by kernel_rfl
 m1:=by kernel_rfl
 s1_3:=fun w h=>Go.Proofs.cell_of_shapedOpen_int (zero:= #[.int .i64 0]) (t:=3) h (of_decide_eq_true (by kernel_rfl)) (by kernel_rfl) rfl (by kernel_rfl) (by kernel_rfl) Tryz.underlying3
 m3:=by kernel_rfl
 m4:=by kernel_rfl
theorem cut_laid (s sep:ByteArray) (m:Int) (w:World) (hs:s.size<4294967281) (hm:w.cell? ⟨0,0,none⟩=some (.int .i64 m)):
 Calls Tryz.prog 7 #[.string s,.string sep] w fun e w'=>e= .returned (.tuple #[.string ⟨(Lib.cut s.data.toList sep.data.toList).1.toArray⟩,.string ⟨(Lib.cut s.data.toList sep.data.toList).2.1.toArray⟩,.bool (Lib.cut s.data.toList sep.data.toList).2.2])∧∃n,w'=w.drewN n:=
 Any.strings_Cut lCut.ton145 s sep m w hs hm
theorem split_laid (s sep:ByteArray) (m:Int) (w:World) (hs:s.size<4294967281) (hm:w.cell? ⟨0,0,none⟩=some (.int .i64 m)) (h1:1≤sep.size):
 Calls Tryz.prog 15 #[.string s,.string sep] w fun e w'=>
  e= .returned (.slice (some ⟨w.heap.size,0,none⟩) (Lib.countB s sep+1) (Lib.countB s sep+1))∧w'=w.alloc (.cells ((Lib.splitB sep 0 (Lib.countB s sep) s).map Value.string).toArray 9):=
 Any.strings_Split lSplit.ton146 lSplit.i9 s sep m w hs hm h1
theorem maxlen_of (w:World) (h:w.ShapedOpen Tryz.prog):∃m,w.cell? ⟨0,0,none⟩=some (.int .i64 m):=lCut.s1_3 w h
def lenLaysRen:Ren:=⟨fun x=>match x with|125=>282|128=>310|129=>296|n=>n,fun x=>match x with|46=>126|3=>3|51=>160|53=>188|4=>4|5=>5|9=>9|n=>n,fun n=>n⟩
theorem lenLays:Lays.n125 Tryz.prog lenLaysRen where
 mixed:=by kernel_rfl
 f125:=Tryz.func282.trans (congrArg some (by kernel_rfl))
 f128:=Tryz.func310.trans (congrArg some (by kernel_rfl))
 f129:=Tryz.func296.trans (congrArg some (by kernel_rfl))
 t3:=Tryz.underlying3
 a3:=Tryz.isAgg3
 z3:=Tryz.sizeOf3
 v3:=Tryz.zeroValue3
 t4:=Tryz.underlying4
 a4:=Tryz.isAgg4
 z4:=Tryz.sizeOf4
 v4:=Tryz.zeroValue4
 t5:=Tryz.underlying5
 a5:=Tryz.isAgg5
 z5:=Tryz.sizeOf5
 v5:=Tryz.zeroValue5
 t9:=Tryz.underlying9
 a9:=Tryz.isAgg9
 z9:=Tryz.sizeOf9
 v9:=Tryz.zeroValue9
 t46:=Tryz.underlying126
 a46:=Tryz.isAgg126
 z46:=Tryz.sizeOf126
 v46:=Tryz.zeroValue126
 t51:=Tryz.underlying160
 a51:=Tryz.isAgg160
 z51:=Tryz.sizeOf160
 v51:=Tryz.zeroValue160
 t53:=Tryz.underlying188
 a53:=Tryz.isAgg188
 z53:=Tryz.sizeOf188
 v53:=Tryz.zeroValue188
theorem bitsLen_any (x:Nat) (w:World) (h:x≤1000):
 Calls Tryz.prog 282 #[.int .u64 x] w fun e w'=>(∃n:Nat,n≤64∧e= .returned (.int .i64 n))∧w'=w:=by
 have:=Any.bits_Len lenLays x w (by omega) (by omega)
 refine this.mono ?_
 rintro e w' ⟨he,hw⟩
 exact⟨⟨_,Lib.bitLen_le _ 64 (by omega) (by rw[Int.toNat_natCast];omega),he⟩,hw⟩
theorem pdq_ok (B g N c n:Nat) (l:List Int) (w:World) (hO:OI B w (.slice (some ⟨g,0,none⟩) N c) l) (hl:l.length=N) (hN1:1≤N) (hN:N≤12) (hn:n≤64):
 Calls Tryz.prog 292 #[.slice (some ⟨g,0,none⟩) N c,.int .i64 0,.int .i64 N,.int .i64 n] w fun e w'=>e= .returned (.tuple #[])∧OI B w' (.slice (some ⟨g,0,none⟩) N c) (insI ltI 0 N l)∧w.grownBy w' (some g):=by
 have HS:=hid (insort_ok B g N c l w hO hl hN1 hN)
 clear hO hl
 have h12:(N:Int)≤12:=by omega
 go_enter Tryz.func292,Tryz.ntmps292
 go_wp2
 go_loopw [1,2] (fun x y wr=>x= .int .i64 0∧y= .int .i64 N∧wr=w) (fun _ _ _=>0)
 case atStart=>exact⟨rfl,rfl,rfl⟩
 case round=>
  obtain⟨rfl,rfl,rfl⟩:=hrel
  go_wp2_with fail
  refine HS.out.mono ?_
  rintro e w2 ⟨rfl,h2⟩
  have HX:=hid h2
  clear h2
  go_wp2
  first|go_end0|refine bodyPost_ret (results_none rfl _ _ _) rfl ?_
  exact⟨rfl,HX.out⟩
theorem sort_ok (B g N c:Nat) (l:List Int) (w:World) (hO:OI B w (.slice (some ⟨g,0,none⟩) N c) l) (hl:l.length=N) (hN1:1≤N) (hN:N≤12):
 Calls Tryz.prog 268 #[.slice (some ⟨g,0,none⟩) N c] w fun e w'=>e= .returned (.tuple #[])∧OI B w' (.slice (some ⟨g,0,none⟩) N c) (insI ltI 0 N l)∧w.grownBy w' (some g):=by
 have HB:=hid (bitsLen_any N w (by omega))
 have HP:=hid (fun n (hn:n≤64)=>pdq_ok B g N c n l w hO hl hN1 hN hn)
 clear hO hl
 have hmod:(N:Int)%18446744073709551616=(N:Int):=by omega
 go_enter Tryz.func268,Tryz.ntmps268
 go_wp2_with fail
 refine HB.out.mono ?_
 rintro e w1 ⟨⟨n,hn,rfl⟩,rfl⟩
 go_wp2_with fail
 refine(HP.out n hn).mono ?_
 rintro e w2 ⟨rfl,h2⟩
 have HX:=hid h2
 clear h2
 go_wp2
 go_end0
 exact⟨rfl,HX.out⟩
end Go.Proofs.YtnnaadmegeeinaaGreatDoor
