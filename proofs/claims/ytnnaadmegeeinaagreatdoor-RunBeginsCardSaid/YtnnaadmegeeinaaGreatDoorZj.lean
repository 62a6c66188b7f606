/-
  Part 10 of a proof: what it proves stands in the last text.
-/
import Derived.Test.YtnnaadmegeeinaaGreatDoorZc
import Derived.Shelf.Strconv.Itoa3
import Derived.Test.YtnnaadmegeeinaaGreatDoorZg
import Derived.OwnWalk
import Derived.BigRegion
import Derived.ChangeKeysEq
import Derived.Laws.StructEq
import Derived.Deep.MidRow
import Derived.BigQuiet
import Derived.RangeFuncBox
set_option linter.unusedVariables false
set_option maxHeartbeats 8000000
set_option maxRecDepth 100000
namespace Go.Proofs.YtnnaadmegeeinaaGreatDoor
open Go.RowKit Go.Shelf Go.Sort
def lItoaMRen:Ren:=⟨fun x=>match x with|171=>99|243=>179|246=>232|283=>273|284=>274|285=>275|286=>276|129=>296|317=>295|318=>297|319=>298|320=>299|337=>330|338=>331|n=>n,fun x=>match x with|3=>3|9=>9|2=>2|4=>4|171=>245|0=>0|53=>188|37=>26|5=>5|173=>248|212=>270|51=>160|20=>20|213=>271|46=>126|232=>305|233=>306|n=>n,fun x=>match x with|17=>6|18=>9|19=>10|n=>n⟩
theorem lItoaM:LaysM.n171 Tryz.prog lItoaMRen where
 mixed:=by kernel_rfl
 f129:=Tryz.func296.trans (congrArg some (by kernel_rfl))
 f171:=Tryz.func99.trans (congrArg some (by kernel_rfl))
 f243:=Tryz.func179.trans (congrArg some (by kernel_rfl))
 f246:=Tryz.func232.trans (congrArg some (by kernel_rfl))
 f283:=Tryz.func273.trans (congrArg some (by kernel_rfl))
 f284:=Tryz.func274.trans (congrArg some (by kernel_rfl))
 f285:=Tryz.func275.trans (congrArg some (by kernel_rfl))
 f286:=Tryz.func276.trans (congrArg some (by kernel_rfl))
 f317:=Tryz.func295.trans (congrArg some (by kernel_rfl))
 f318:=Tryz.func297.trans (congrArg some (by kernel_rfl))
 f319:=Tryz.func298.trans (congrArg some (by kernel_rfl))
 f320:=Tryz.func299.trans (congrArg some (by kernel_rfl))
 f337:=Tryz.func330.trans (congrArg some (by kernel_rfl))
 f338:=Tryz.func331.trans (congrArg some (by kernel_rfl))
 t0:=Tryz.underlying0
 a0:=Tryz.isAgg0
 z0:=Tryz.sizeOf0
 v0:=Tryz.zeroValue0
 t2:=Tryz.underlying2
 a2:=Tryz.isAgg2
 z2:=Tryz.sizeOf2
 v2:=Tryz.zeroValue2
 t3:=Tryz.underlying3
 a3:=Tryz.isAgg3
 z3:=Tryz.sizeOf3
 v3:=Tryz.zeroValue3
 t4:=Tryz.underlying4
 a4:=Tryz.isAgg4
 z4:=Tryz.sizeOf4
 v4:=Tryz.zeroValue4
 t5:=Tryz.underlying5
 a5:=Tryz.isAgg5
 z5:=Tryz.sizeOf5
 v5:=Tryz.zeroValue5
 t9:=Tryz.underlying9
 a9:=Tryz.isAgg9
 z9:=Tryz.sizeOf9
 v9:=Tryz.zeroValue9
 t20:=Tryz.underlying20
 a20:=Tryz.isAgg20
 z20:=Tryz.sizeOf20
 v20:=Tryz.zeroValue20
 t37:=Tryz.underlying26
 a37:=Tryz.isAgg26
 z37:=Tryz.sizeOf26
 v37:=Tryz.zeroValue26
 t46:=Tryz.underlying126
 a46:=Tryz.isAgg126
 z46:=Tryz.sizeOf126
 v46:=Tryz.zeroValue126
 t51:=Tryz.underlying160
 a51:=Tryz.isAgg160
 z51:=Tryz.sizeOf160
 v51:=Tryz.zeroValue160
 t53:=Tryz.underlying188
 a53:=Tryz.isAgg188
 z53:=Tryz.sizeOf188
 v53:=Tryz.zeroValue188
 t171:=Tryz.underlying245
 a171:=Tryz.isAgg245
 z171:=Tryz.sizeOf245
 v171:=Tryz.zeroValue245
 t173:=Tryz.underlying248
 a173:=Tryz.isAgg248
 z173:=Tryz.sizeOf248
 v173:=Tryz.zeroValue248
 t212:=Tryz.underlying270
 a212:=Tryz.isAgg270
 z212:=Tryz.sizeOf270
 v212:=Tryz.zeroValue270
 t213:=Tryz.underlying271
 a213:=Tryz.isAgg271
 z213:=Tryz.sizeOf271
 t232:=Tryz.underlying305
 a232:=Tryz.isAgg305
 z232:=Tryz.sizeOf305
 v232:=Tryz.zeroValue305
 t233:=Tryz.underlying306
 a233:=Tryz.isAgg306
 z233:=Tryz.sizeOf306
 v233:=Tryz.zeroValue306
 g17:=by kernel_rfl
 g18:=by kernel_rfl
 g19:=by kernel_rfl
 i0:=by kernel_rfl
 i2:=by kernel_rfl
 i3:=by kernel_rfl
 i4:=by kernel_rfl
 i5:=by kernel_rfl
 i9:=by kernel_rfl
 i20:=by kernel_rfl
 i37:=by kernel_rfl
 i46:=by kernel_rfl
 i51:=by kernel_rfl
 i53:=by kernel_rfl
 i171:=by kernel_rfl
 i173:=by kernel_rfl
 i212:=by kernel_rfl
 i232:=by kernel_rfl
 i233:=by kernel_rfl
 m17:=by kernel_rfl
 m18:=by kernel_rfl
 m19:=by kernel_rfl
theorem itoa_any_laid (n:Int) (h0: -9223372036854775808≤n) (h1:n≤9223372036854775807) (w:World) (htab:Lib.TabIs Tryz.prog w "internal/strconv.uint64pow10" .u64 Lib.pow10Tab):
 Calls Tryz.prog 99 #[.int .i64 n] w fun e w'=>e= .returned (.string ⟨(Lib.itoa n).toArray⟩)∧∃k os,w'=grow (w.drewN k) os:=Any.strconv_Itoa lItoaM n h0 h1 w htab
end Go.Proofs.YtnnaadmegeeinaaGreatDoor
namespace Go.Proofs.YtnnaadmegeeinaaGreatDoor
open Go.RowKit
theorem mk_ex {P:Program} (st E:TypeId) (z:Value) (bytes:Nat)
 (ht:P.underlying st=some (.slice E)) (hi:(P.info? E).map (fun i=>(i.zero,i.size,i.bytes))=some (some z,1,bytes)) (hzs:z.cells= #[z]) (hbt:bytes≤100)
 (n:Nat) (hn:n≤1000000000000):∃mk:World→World,∀w,(Instr.makeSlice st (.int .i64 (n:Int)) (.int .i64 (n:Int))).run P w= .ok (.slice (some ⟨w.heap.size,0,none⟩) n n) (mk w)∧Ow E w.heap.size (mk w) (.slice (some ⟨w.heap.size,0,none⟩) n n) (List.replicate n z)∧w.grownBy (mk w) none∧w.heap.size<(mk w).heap.size:=by
 obtain⟨i0,hi1,hz0,hz1,hz2⟩:=info_parts hi
 have h:=fun w:World=>run_make_full (P:=P) w w.heap.size st E i0 z 1 ht hi1 hz0 hz1 .i64 .i64 n (by
  rw[hz2]
  have:bytes*n≤100*n:=Nat.mul_le_mul_right _ hbt
  omega) (by unfold maxLen;omega) (Nat.le_refl _)
 obtain⟨mk,hmk⟩:=Classical.axiomOfChoice h
 refine⟨mk,fun w=> ?_⟩
 obtain⟨hrun,r1,r2⟩:=hmk w
 refine⟨hrun,?_,r2,?_⟩
 ·have r1':=r1
  unfold Ow
  rw[hzs,Nat.mul_one,toList_madeCells_one]at r1'
  simpa using r1'
 ·rcases r1.2 with⟨h1,_⟩|⟨g,cap,cur,h4,_,h5,_⟩
  ·simp at h1
  ·simp only[Value.slice.injEq,Option.some.injEq,Addr.mk.injEq,and_true,true_and]at h4
   rw[h4.1]
   exact(Array.getElem?_eq_some_iff.1 h5).1
theorem inv_all:∀p,p<8→∀a,a<8→(!(p==2||p==3||p==5||p==7)||a==0|| !(Nat.blt a p)||(List.range p).any fun v=>v !=0&&a*v%p==1&&(List.range v).all fun b=> !(a*b%p==1))=true:=by decide+kernel
theorem inv_ex {p a:Nat} (hp:smallB (p:Int)=true) (ha1:1≤a) (ha:a<p):∃v,1≤v∧v<p∧a*v%p=1∧∀b,b<v→a*b%p≠1:=by
 have h:=small_cases hp
 have hp8:p<8:=by omega
 have h1:=inv_all p hp8 a (by omega)
 have e1:(p==2||p==3||p==5||p==7)=true:=by simp only[Bool.or_eq_true,beq_iff_eq];omega
 rw[e1,show(a==0)=false from beq_eq_false_iff_ne.2 (by omega),show Nat.blt a p=true from Nat.ble_eq_true_of_le ha]at h1
 simp only[Bool.not_true,Bool.false_or]at h1
 obtain⟨v,hv,hb⟩:=List.any_eq_true.1 h1
 simp only[Bool.and_eq_true,bne_iff_ne,beq_iff_eq]at hb
 refine⟨v,by omega,List.mem_range.1 hv,hb.1.2,fun b hb2=> ?_⟩
 have:=List.all_eq_true.1 hb.2 b (List.mem_range.2 hb2)
 simpa using this
theorem inverse_any (p a v:Nat) (w:World) (hp:p≤7) (ha:a<p) (hv1:1≤v) (hv:v<p) (h1:a*v%p=1) (h2:∀b,b<v→a*b%p≠1):
 Calls Tryz.prog 110 #[.int .i64 p,.int .i64 a] w fun e w'=>e= .returned (.int .i64 v)∧w=w':=by
 have H2:=hid h2
 have H1:=hid h1
 have hpz:(p:Int)≠0:=by omega
 clear h1 h2
 go_enter Tryz.func110,Tryz.ntmps110
 go_wp2_with fail
 go_loopw [5] (fun x wq=>∃b:Nat,x= .int .i64 b∧1≤b∧b≤v∧wq=w) (fun x _=>v-(intOf x).toNat)
 case atStart=>exact⟨1,rfl,Nat.le_refl _,hv1,rfl⟩
 case round=>
  obtain⟨b,rfl,hb1,hbv,rfl⟩:=hrel
  have hm:(a:Int)*(b:Int)=((a*b:Nat):Int):=(Int.natCast_mul _ _).symm
  have hmb:a*b≤49:=Nat.mul_le_mul (show a≤7 by omega) (show b≤7 by omega)
  have hr:((a*b:Nat):Int).tmod (p:Int)=((a*b%p:Nat):Int):=(Int.ofNat_tmod _ _).symm
  by_cases he:b=v
  ·subst he
   rw[H1.out]at hr
   generalize a*b=m at*
   go_wp2
   go_ret
   exact⟨rfl,rfl⟩
  ·have hne:=H2.out b (by omega)
   have hlt:a*b%p<p:=Nat.mod_lt _ (by omega)
   generalize a*b%p=r at*
   generalize a*b=m at*
   have hy:((r:Int) !=1)=true:=by rw[bne_iff_ne];omega
   have hbv2:b<v:=by omega
   go_wp2
   go_roundw
   case rel=>exact⟨b+1,by go_num,by omega,by omega,trivial⟩
   case measure=>simp[intOf]<;>omega
theorem run_eqItems_ints {P:Program} (w:World) (d:Nat) {e:TypeId} (hu:P.underlying e=some (.int .i64)) (hc:P.cellsOf e=1) (xs ys:List Int):∀(is:List Nat),(∀i∈is,i<xs.length∧i<ys.length)→
 (Op.eqItems (d+1) e (P.cellsOf e) (xs.map (Value.int .i64)).toArray (ys.map (Value.int .i64)).toArray is).run P w= .ok (is.all fun i=>xs.getD i 0==ys.getD i 0) w
 |[],_=>by simp[Op.eqItems]
 |i::is,h=>by
  obtain⟨h1,h2⟩:=h i (by simp)
  have ih:=run_eqItems_ints w d hu hc xs ys is fun j hj=>h j (by simp[hj])
  have hp:P.plainKey e=true:=by simp[Program.plainKey,hu]
  have p1:(part e (xs.map (Value.int .i64)).toArray i).run P w= .ok (.int .i64 (xs.getD i 0)) w:=run_part_plain w hp (by simp[h1])
  have p2:(part e (ys.map (Value.int .i64)).toArray i).run P w= .ok (.int .i64 (ys.getD i 0)) w:=run_part_plain w hp (by simp[h2])
  rw[hc]at ih⊢
  simp only[Op.eqItems,Nat.mul_one,Sem.run_bind,p1,p2,Result.andThen_ok,run_equalIn_int w d e .i64 .i64 _ _ hu,List.all_cons]
  cases hq:(xs.getD i 0==ys.getD i 0)
  ·simp
  ·simp only[Bool.not_true,Bool.false_eq_true,if_false,Bool.true_and]
   exact ih
theorem all_eq_iff {xs ys:List Int} {n:Nat} (hx:xs.length=n) (hy:ys.length=n):((List.range n).all fun i=>xs.getD i 0==ys.getD i 0)=decide (xs=ys):=by
 rw[Bool.eq_iff_iff,List.all_eq_true,decide_eq_true_eq]
 constructor
 ·intro h
  refine List.ext_getElem (by omega) fun i h1 h2=> ?_
  have:=h i (List.mem_range.2 (by omega))
  simpa [h1,h2]using this
 ·intro h i _
  rw[h];simp
theorem run_eq_ints {P:Program} (w:World) (d:Nat) {t e:TypeId} {n:Nat} {i:TypeInfo} (hu:P.underlying t=some (.array n e)) (he:P.underlying e=some (.int .i64)) (hi:P.info? e=some i) (hc:P.cellsOf e=1) {xs ys:List Int} (hx:xs.length=n) (hy:ys.length=n):
 (Op.equalIn (d+2) t (.agg (xs.map (Value.int .i64)).toArray) (.agg (ys.map (Value.int .i64)).toArray)).run P w= .ok (decide (xs=ys)) w:=by
 rw[run_equalIn_array w (d+1) _ _ hu hi,run_eqItems_ints w d he hc xs ys _ (fun i hi=>by have:=List.mem_range.1 hi;omega),all_eq_iff hx hy]
def Arr (w:World) (b:Nat) (t:TypeId) (xs:List Value):Prop:=w.heap[b]? =some (.cells xs.toArray t (0,0))
theorem Arr.lt {w:World} {b:Nat} {t:TypeId} {xs:List Value} (h:Arr w b t xs):b<w.heap.size:=(Array.getElem?_eq_some_iff.1 h).1
theorem Arr.cell {w:World} {b:Nat} {t:TypeId} {xs:List Value} (h:Arr w b t xs) (i:Nat):w.cell? ⟨b,i,none⟩=xs[i]? :=by simp[World.cell?,show w.heap[b]? =_ from h]
theorem Arr.frozen {w:World} {b:Nat} {t:TypeId} {xs:List Value} (h:Arr w b t xs) (i:Nat):w.frozen? ⟨b,i,none⟩=false:=by simp[World.frozen?,show w.heap[b]? =_ from h]
theorem Arr.kept {w w':World} {row:Option Nat} {b:Nat} {t:TypeId} {xs:List Value} (h:Arr w b t xs) (hg:w.grownBy w' row) (hne:some b≠row):Arr w' b t xs:=(hg.block b h.lt hne).trans h
theorem Arr.below {w w':World} {b:Nat} {t:TypeId} {xs:List Value} (h:Arr w b t xs) (hb:Below w.heap.size w w'):Arr w' b t xs:=(hb.block b h.lt).trans h
theorem Arr.alloc {w:World} {b:Nat} {t:TypeId} {xs:List Value} (h:Arr w b t xs) (o:Obj):Arr (w.alloc o) b t xs:=h.kept (World.grownBy_alloc w o none) (by simp)
theorem Arr.new (w:World) (t:TypeId) (xs:List Value):Arr (w.alloc (.cells xs.toArray t)) w.heap.size t xs:=World.alloc_heap_new w _
theorem Arr.stored {w:World} {b:Nat} {t:TypeId} {xs:List Value} (h:Arr w b t xs) (i:Nat) (v:Value):Arr (w.setCell ⟨b,i,none⟩ v) b t (xs.set i v)∧w.grownBy (w.setCell ⟨b,i,none⟩ v) (some b):=by
 obtain⟨hlt,hk⟩:=Array.getElem?_eq_some_iff.1 h
 refine⟨?_,⟨rfl,rfl,rfl,(KeepsWalks.setCell w _ v).size,fun k _ hk=>Below.heap_setCell _ _ _ k (fun e=>hk (by rw[e]))⟩⟩
 show(w.heap.modify b _)[b]? =_
 rw[Array.getElem?_eq_getElem (by rw[Array.size_modify];exact hlt),Array.getElem_modify_self,hk]
 simp
theorem Arr.setCells {b:Nat} {t:TypeId}:∀(vs xs ys:List Value) (w:World),Arr w b t (xs++ys)→ys.length=vs.length→Arr (w.setCells b xs.length vs) b t (xs++vs)
 |[],xs,ys,w,h,hl=>by
  obtain rfl:ys=[]:=List.eq_nil_of_length_eq_zero hl
  exact h
 |v::vs,xs,y::ys,w,h,hl=>by
  have h1:=(h.stored xs.length v).1
  rw[List.set_append_right _ _ (Nat.le_refl _),Nat.sub_self,List.set_cons_zero]at h1
  have h2:Arr (w.setCell ⟨b,xs.length,none⟩ v) b t ((xs++[v])++ys):=by simpa using h1
  have h3:=Arr.setCells vs (xs++[v]) ys _ h2 (by simpa using hl)
  rw[List.length_append]at h3
  simpa [World.setCells]using h3
theorem grown_setCells {b:Nat}:∀(vs:List Value) (o:Nat) (w:World),w.grownBy (w.setCells b o vs) (some b)
 |[],o,w=>⟨rfl,rfl,rfl,Nat.le_refl _,fun _ _ _=>rfl⟩
 |v::vs,o,w=>by
  have h1:w.grownBy (w.setCell ⟨b,o,none⟩ v) (some b):=⟨rfl,rfl,rfl,(KeepsWalks.setCell w _ v).size,fun k _ hk=>Below.heap_setCell _ _ _ k (fun e=>hk (by rw[e]))⟩
  have h2:=grown_setCells (b:=b) vs (o+1) (w.setCell ⟨b,o,none⟩ v)
  exact⟨h2.os.trans h1.os,h2.tape.trans h1.tape,h2.output.trans h1.output,Nat.le_trans h1.size h2.size,fun k hk hne=>(h2.block k (Nat.lt_of_lt_of_le hk h1.size) hne).trans (h1.block k hk hne)⟩
theorem Arr.range {w:World} {b:Nat} {t:TypeId} {xs:List Value} (h:Arr w b t xs):w.rangeAt b 0 xs:=fun j v hv=>by rw[Nat.zero_add,h.cell];exact hv
theorem Arr.there {w:World} {b:Nat} {t:TypeId} {xs:List Value} (h:Arr w b t xs):w.there b 0 xs.length:=fun j hj=>by
 rw[Nat.zero_add,h.cell]
 exact⟨by simp[hj],h.frozen j⟩
theorem run_index_cell {P:Program} (t e:TypeId) (n i:Nat) (cs:List Value) (x:Value) (w:World) (h:P.underlying t=some (.array n e)) (ha:∀w,(isAgg e).run P w= .ok false w) (hz:∀w,(sizeOf e).run P w= .ok 1 w) (hi:i<n) (hx:cs[i]? =some x):
 (Instr.index t (.agg cs.toArray) (.int .i64 i)).run P w= .ok x w:=by
 have h1:(0:Int)≤(i:Int)∧(i:Int)<(n:Int):=by omega
 simp[Instr.index,run_underlying h,asIntOf,h1,part,ha,hz,hx,Result.andThen,hi]
def prL:List Int:=[2,3,5,7,11,13,17,19,23,29,31,37,41,43,47,53,59,61]
def prV:List Value:=prL.map (Value.int .i64)
def Prs (w:World):Prop:=3<w.heap.size∧w.rangeAt 3 0 prV
theorem Prs.below {w w':World} (h:Prs w) (hb:Below w.heap.size w w'):Prs w':=
 ⟨Nat.lt_of_lt_of_le h.1 hb.size,fun j v hv=>(hb.cell (p:=⟨3,0+j,none⟩) h.1).trans (h.2 j v hv)⟩
theorem prV_get {i:Nat} (hi:i<18):prV[i]? =some (.int .i64 (prL.getD i 0)):=by
 have hl:prL.length=18:=rfl
 simp[prV,List.getD_eq_getElem?_getD,hl,hi]
theorem pr_not {p:Int} (h:∀i,i<18→prL.getD i 0≠p):decide (p∈prL)=false:=by
 rw[decide_eq_false_iff_not]
 intro hx
 obtain⟨i,hi,e⟩:=List.mem_iff_getElem.1 hx
 exact h i hi (by rw[List.getD_eq_getElem?_getD,List.getElem?_eq_getElem hi];exact e)
theorem pr_yes {p:Int} {i:Nat} (hi:i<18) (h:prL.getD i 0=p):decide (p∈prL)=true:=by
 have hl:prL.length=18:=rfl
 rw[decide_eq_true_iff,←h,List.getD_eq_getElem?_getD,List.getElem?_eq_getElem (by omega)]
 exact List.getElem_mem _
theorem isPrime_any (p:Int) (w:World) (hp:Prs w):
 Calls Tryz.prog 234 #[.int .i64 p] w fun e w'=>e= .returned (.bool (decide (p∈prL)))∧w=w':=by
 have r2:=hp.2
 have i1:(Tryz.prog.info? 251).map (·.size)=some prV.length:=by kernel_rfl
 have HIX:=hid (fun(t:Nat) (h:t<18)=>run_index_cell (P:=Tryz.prog) 251 3 18 t prV (.int .i64 (prL.getD t 0)) w Tryz.underlying251 Tryz.isAgg3 Tryz.sizeOf3 h (prV_get h))
 have HNO:=hid (fun h=>pr_not (p:=p) h)
 have HYE:=hid (fun i hi h=>pr_yes (p:=p) (i:=i) hi h)
 generalize decide (p∈prL)=D at*
 generalize prV=V at*
 clear hp
 go_enter Tryz.func234,Tryz.ntmps234
 go_wp2_with (refine wpList_load_mid rfl 251 _ rfl 3 0 rfl V _ r2 Tryz.underlying251 rfl i1 ?_)
 go_loop [4,6] (fun _ i=>∃k:Nat,k≤18∧i= .int .i64 k∧Hid (∀j,j<k→prL.getD j 0≠p)) (fun _ i=>18-(intOf i).toNat)
 case atStart=>exact⟨0,Nat.zero_le _,rfl,hid (fun j hj=>by omega)⟩
 case round=>
  obtain⟨k,hk,rfl,hH⟩:=hrel
  by_cases hlt:k<18
  ·have hget:=HIX.out k hlt
   have hki:(k:Int)<18:=by omega
   have HNX:Hid (prL.getD k 0≠p→∀j,j<k+1→prL.getD j 0≠p):=hid (fun h j hj=>by
    by_cases e:j=k
    ·rw[e];exact h
    ·exact hH.out j (by omega))
   have HYK:=hid (HYE.out k hlt)
   clear r2 i1 hH
   generalize prL.getD k 0=y at*
   by_cases he:y=p
   ·subst he
    have HE:=hid (HYK.out rfl)
    have hq:(y==y)=true:=by simp
    go_wp2
    go_ret
    exact⟨by rw[HE.out];rfl,rfl⟩
   ·have hq:(p==y)=false:=by simpa using fun h=>he h.symm
    have HE:=hid (HNX.out he)
    clear he HNX
    go_wp2
    go_round
    case rel=>exact⟨k+1,by omega,by go_num,HE⟩
    case measure=>simp[intOf]<;>omega
  ·obtain rfl:k=18:=by omega
   have HE:=hid (HNO.out hH.out)
   clear hH r2 i1
   go_wp2
   go_ret
   exact⟨by rw[HE.out];rfl,rfl⟩
theorem wpList_store_arr {P:Program} {ops:Array Oper} {rest:List Oper} {op:Oper} {a:Act} {w:World} {Q:Exit→Act→World→Prop} (hgd:op.guard=none) (ty:TypeId) (x y:Operand) (ho:op.op= .store ty x y)
 (b:Nat) (cells:List Value) (hx:a.eval x= .pointer (some ⟨b,0,none⟩)) (hy:a.eval y= .agg cells.toArray) {t:TypeId} {xs:List Value} (hA:Arr w b t xs) (hl:xs.length=cells.length)
 (hi:(P.info? ty).map (·.size)=some cells.length) (h1:cells.toArray.all (·.oneCell')=true)
 (h:∀w',Arr w' b t cells→w.grownBy w' (some b)→wpList P ops Q rest (a.put op.dst undef) w'):wpList P ops Q (op::rest) a w:=by
 refine wpList_store_mid hgd ty x y ho b 0 cells.toArray hx hy ?_ (by rw[List.size_toArray];exact hi) h1 ?_
 ·have:=hA.there
  rw[hl]at this
  rw[List.size_toArray]
  exact this
 ·have h2:=Arr.setCells cells [] xs w hA hl
  exact h _ h2 (grown_setCells cells 0 w)
def offN (n:Nat) (x:Int):Bool:=decide (x<0)||decide ((n:Int)≤x)
def permE (l:List Int):Int:=if 12<l.length then 3 else if l.any (offN l.length)then 1 else if l.Nodup then 0 else 6
def cntL (l:List Int):List Value:=(List.range 12).map fun c:Nat=>Value.int .i64 ((l.count (c:Int):Nat):Int)
theorem cnt_get {l:List Int} {c:Nat} (h:c<12):(cntL l)[c]? =some (.int .i64 ((l.count (c:Int):Nat):Int)):=by simp[cntL,h]
theorem cnt_set {l:List Int} {c:Nat} (h:c<12):(cntL l).set c (.int .i64 ((l.count (c:Int):Nat)+1:Int))=cntL (l++[(c:Int)]):=by
 refine List.ext_getElem? fun i=> ?_
 by_cases e:c=i
 ·subst e
  rw[List.getElem?_set_self (by simpa [cntL]using h),cnt_get h,List.count_append]
  simp
 ·rw[List.getElem?_set_ne e]
  by_cases hi:i<12
  ·rw[cnt_get hi,cnt_get hi,List.count_append]
   have:List.count (i:Int) [(c:Int)]=0:=by rw[List.count_eq_zero];simp;omega
   rw[this]
   rfl
  ·simp[cntL,hi]
theorem nodup_counts {l:List Int} {n:Nat} (h:∀x∈l,0≤x∧x<(n:Int)):l.Nodup↔∀c:Nat,c<n→l.count (c:Int)≤1:=by
 rw[List.nodup_iff_count]
 constructor
 ·intro h1 c _
  exact h1 c
 ·intro h1 x
  by_cases hx:x∈l
  ·obtain⟨h2,h3⟩:=h x hx
   obtain⟨c,rfl⟩:∃c:Nat,x=(c:Int):=⟨x.toNat,by omega⟩
   exact h1 c (by omega)
  ·rw[List.count_eq_zero.2 hx];omega
theorem offN_true {n:Nat} {x:Int} (h:x<0∨(n:Int)≤x):offN n x=true:=by simp[offN];exact h
theorem offN_false {n:Nat} {x:Int}:offN n x=false↔0≤x∧x<(n:Int):=by simp[offN]
theorem permE_big {l:List Int} (h:12<l.length):permE l=3:=by simp[permE,h]
theorem permE_off {l:List Int} {k:Nat} (h:¬12<l.length) (hk:k<l.length) (ho:offN l.length (l[k]?.getD 0)=true):permE l=1:=by
 have:l.any (offN l.length)=true:=List.any_eq_true.2 ⟨l[k],List.getElem_mem hk,by simpa [hk]using ho⟩
 unfold permE
 rw[if_neg h,if_pos this]
theorem permE_in {l:List Int} (h:¬12<l.length) (ho:∀x∈l,0≤x∧x<(l.length:Int)):permE l=if l.Nodup then 0 else 6:=by
 have:¬l.any (offN l.length)=true:=by
  rw[List.any_eq_true]
  rintro⟨x,hx,h1⟩
  rw[offN_false.2 (ho x hx)]at h1
  cases h1
 unfold permE
 rw[if_neg h,if_neg this]
theorem mem_of_below {l:List Int} {N k:Nat} (hN:l.length=N) (hk:k=N) (h:∀j:Nat,j<k→offN N (l[j]?.getD 0)=false):∀x∈l,0≤x∧x<(N:Int):=by
 intro x hx
 obtain⟨j,hj,rfl⟩:=List.mem_iff_getElem.1 hx
 have:=h j (by omega)
 rw[List.getElem?_eq_getElem hj]at this
 exact offN_false.1 this
theorem check_any (v:Value) (l:List Int) (w:World) (hl:Sl w v l):
 Calls Tryz.prog 112 #[v] w fun e w'=>e= .returned (.int .i64 (permE l))∧Below w.heap.size w w':=by
 obtain⟨a,k,N,rfl,hN,hl1,hl2⟩:=hl.open
 by_cases h12:12<N
 ·have HE:=hid (permE_big (l:=l) (by rw[hN.out];exact h12))
  clear hl
  go_enter Tryz.func112,Tryz.ntmps112
  go_wp2
  go_ret
  exact⟨by rw[HE.out];rfl,Below.refl _ _⟩
 ·have HO:=hid (fun(j:Nat) (h:j<N) (ho:offN N (l[j]?.getD 0)=true)=>permE_off (l:=l) (k:=j) (by rw[hN.out];exact h12) (by rw[hN.out];exact h) (by rw[hN.out];exact ho))
  have HI:=hid (fun(h:∀x∈l,0≤x∧x<(N:Int))=>permE_in (l:=l) (by rw[hN.out];exact h12) (by rw[hN.out];exact h))
  clear hl
  go_enter Tryz.func112,Tryz.ntmps112
  go_wp2
  have hA:Arr (w.alloc (.cells (List.replicate 12 (Value.int .i64 0)).toArray 177)) w.heap.size 177 (cntL (l.take 0)):=Arr.new w _ _
  have hb0:Below w.heap.size w (w.alloc (.cells (List.replicate 12 (Value.int .i64 0)).toArray 177)):=(Below.refl _ _).alloc (Nat.le_refl _) _
  go_loopw [13] (fun i wr=>∃k:Nat,k≤N∧i= .int .i64 k∧Arr wr w.heap.size 177 (cntL (l.take k))∧Hid (∀j:Nat,j<k→offN N (l[j]?.getD 0)=false)∧Below w.heap.size w wr) (fun i _=>N-(intOf i).toNat)
  case atStart=>exact⟨0,Nat.zero_le _,rfl,hA,hid (fun j hj=>by omega),hb0⟩
  case round=>
   obtain⟨k,hk,rfl,hA',hno,hb⟩:=hrel
   clear hA hb0
   by_cases hlt:k<N
   ·obtain⟨b,off,rfl,hb1,hc⟩:=hl2 (by omega)
    have c1:=(hb.cell (p:=⟨b,off+k,none⟩) hb1).trans (hc k hlt)
    by_cases h1:l[k]?.getD 0<0
    ·have HP:=hid (HO.out k hlt (offN_true (.inl h1)))
     clear hl2 hc hA'
     go_wp2
     go_ret
     exact⟨by rw[HP.out];rfl,hb⟩
    by_cases h2:(N:Int)≤l[k]?.getD 0
    ·have HP:=hid (HO.out k hlt (offN_true (.inr h2)))
     clear hl2 hc hA'
     go_wp2
     go_ret
     exact⟨by rw[HP.out];rfl,hb⟩
    ·obtain⟨c,hcc⟩:∃c:Nat,l[k]?.getD 0=(c:Int):=⟨(l[k]?.getD 0).toNat,by omega⟩
     have hcN:c<N:=by omega
     have hx:=hA'.cell c
     rw[cnt_get (by omega)]at hx
     have hf:=hA'.frozen c
     have hcnt:(l.take k).count (c:Int)≤k:=Nat.le_trans List.count_le_length (by simp;omega)
     obtain⟨hs1,hs2⟩:=hA'.stored c (.int .i64 (((l.take k).count (c:Int):Nat)+1:Int))
     have hk1:l.take (k+1)=l.take k++[(c:Int)]:=by
      have hkl:k<l.length:=by rw[hN.out];exact hlt
      rw[List.getElem?_eq_getElem hkl,Option.getD_some]at hcc
      rw[List.take_add_one,List.getElem?_eq_getElem hkl,hcc]
      rfl
     rw[cnt_set (by omega),←hk1]at hs1
     have HS:=hid (And.intro hs1 (hb.grown hs2 hb.size (fun k' e=>by cases e;exact Nat.le_refl _)))
     have HNO:Hid (∀j:Nat,j<k+1→offN N (l[j]?.getD 0)=false):=hid (fun j hj=>by
      by_cases e:j=k
      ·rw[e,hcc];exact offN_false.2 ⟨by omega,by omega⟩
      ·exact hno.out j (by omega))
     rw[hcc]at c1
     clear hl2 hc hA' h1 h2 hno hs1 hs2 hk1 hcc
     generalize (l.take k).count (c:Int)=m at*
     go_wp2
     go_roundw
     case rel=>exact⟨k+1,by omega,by go_num,HS.out.1,HNO,HS.out.2⟩
     case measure=>simp[intOf]<;>omega
   ·obtain rfl:N=k:=by omega
    have hmem:=mem_of_below hN.out rfl hno.out
    have HE:=hid (HI.out hmem)
    have HND:=hid (nodup_counts hmem)
    have ht:l.take N=l:=List.take_of_length_le (by rw[hN.out];exact Nat.le_refl _)
    rw[ht]at hA'
    have HA:=hid hA'
    have HB:=hid hb
    have HCL:=hid (fun c:Nat=>Nat.le_trans (List.count_le_length (a:=(c:Int)) (l:=l)) (by rw[hN.out];exact Nat.le_refl _))
    clear hA' hb hmem ht hno
    go_wp2
    go_loopw [35] (fun i w'=>∃j:Nat,j≤N∧i= .int .i64 j∧w'=wr∧Hid (∀c:Nat,c<j→l.count (c:Int)≤1)) (fun i _=>N-(intOf i).toNat)
    case atStart=>exact⟨0,Nat.zero_le _,rfl,rfl,hid (fun c hc=>by omega)⟩
    case round=>
     obtain⟨j,hj,rfl,rfl,hone⟩:=hrel
     by_cases hjN:j<N
     ·have hx:=HA.out.cell j
      rw[cnt_get (by omega)]at hx
      have hcl:=HCL.out j
      by_cases h1:l.count (j:Int)≤1
      ·have HNO:Hid (∀c:Nat,c<j+1→l.count (c:Int)≤1):=hid (fun c hc=>by
        by_cases e:c=j
        ·rw[e];exact h1
        ·exact hone.out c (by omega))
       clear hone
       generalize l.count (j:Int)=m at*
       go_wp2
       go_roundw
       case rel=>exact⟨j+1,by omega,by go_num,by simp,HNO⟩
       case measure=>simp[intOf]<;>omega
      ·have HP:Hid (permE l=6):=hid (by rw[HE.out,if_neg];intro h;exact h1 (HND.out.1 h j hjN))
       clear hone
       generalize l.count (j:Int)=m at*
       go_wp2
       go_ret
       exact⟨by rw[HP.out];rfl,HB.out⟩
     ·obtain rfl:N=j:=by omega
      have HP:Hid (permE l=0):=hid (by rw[HE.out,if_pos (HND.out.2 hone.out)])
      go_wp2
      go_ret
      exact⟨by rw[HP.out];rfl,HB.out⟩
theorem nodup_pairs {l:List Int} {N:Nat} (hN:l.length=N):l.Nodup↔∀i j:Nat,i<N→j<i→l[i]?.getD 0≠l[j]?.getD 0:=by
 rw[List.nodup_iff_pairwise_ne,List.pairwise_iff_getElem]
 constructor
 ·intro h i j hi hj
  have:=h j i (by omega) (by omega) hj
  rw[List.getElem?_eq_getElem (by omega),List.getElem?_eq_getElem (by omega)]
  exact fun e=>this e.symm
 ·intro h j i h1 h2 hj e
  have:=h i j (by omega) hj
  rw[List.getElem?_eq_getElem h2,List.getElem?_eq_getElem h1]at this
  exact this e.symm
theorem permfault_any (v:Value) (l:List Int) (w:World) (hl:Sl w v l):
 Calls Tryz.prog 63 #[v] w fun e w'=>e= .returned (.int .i64 (permE l))∧∃n,w'=w.drewN n:=by
 obtain⟨a,k,N,rfl,hN,hl1,hl2⟩:=hl.open
 by_cases h12:12<N
 ·have HE:=hid (permE_big (l:=l) (by rw[hN.out];exact h12))
  clear hl
  go_enter Tryz.func63,Tryz.ntmps63
  go_wp2
  go_ret
  exact⟨by rw[HE.out];rfl,0,rfl⟩
 ·have HO:=hid (fun(j:Nat) (h:j<N) (ho:offN N (l[j]?.getD 0)=true)=>permE_off (l:=l) (k:=j) (by rw[hN.out];exact h12) (by rw[hN.out];exact h) (by rw[hN.out];exact ho))
  have HI:=hid (fun(h:∀x∈l,0≤x∧x<(N:Int))=>permE_in (l:=l) (by rw[hN.out];exact h12) (by rw[hN.out];exact h))
  have HND:=hid (nodup_pairs hN.out)
  clear hl
  go_enter Tryz.func63,Tryz.ntmps63
  go_wp2
  go_loop [3] (fun i=>∃k:Nat,k≤N∧i= .int .i64 k∧Hid (∀j:Nat,j<k→offN N (l[j]?.getD 0)=false)) (fun i=>N-(intOf i).toNat)
  case atStart=>exact⟨0,Nat.zero_le _,rfl,hid (fun j hj=>by omega)⟩
  case round=>
   obtain⟨k,hk,rfl,hno⟩:=hrel
   by_cases hlt:k<N
   ·obtain⟨b,off,rfl,hb1,hc⟩:=hl2 (by omega)
    have c1:=hc k hlt
    by_cases h1:l[k]?.getD 0<0
    ·have HP:=hid (HO.out k hlt (offN_true (.inl h1)))
     clear hl2 hc
     go_wp2
     go_ret
     exact⟨by rw[HP.out];rfl,0,rfl⟩
    by_cases h2:(N:Int)≤l[k]?.getD 0
    ·have HP:=hid (HO.out k hlt (offN_true (.inr h2)))
     clear hl2 hc
     go_wp2
     go_ret
     exact⟨by rw[HP.out];rfl,0,rfl⟩
    ·have HNO:Hid (∀j:Nat,j<k+1→offN N (l[j]?.getD 0)=false):=hid (fun j hj=>by
      by_cases e:j=k
      ·rw[e];exact offN_false.2 ⟨by omega,by omega⟩
      ·exact hno.out j (by omega))
     clear hl2 hc hno
     go_wp2
     go_round
     case rel=>exact⟨k+1,by omega,by go_num,HNO⟩
     case measure=>simp[intOf]<;>omega
   ·obtain rfl:N=k:=by omega
    have HE:=hid (HI.out (mem_of_below hN.out rfl hno.out))
    clear hno
    go_wp2
    go_loopw [4,5] (fun i _ w'=>∃j m:Nat,j≤N∧i= .int .i64 j∧w'=w.drewN m∧Hid (∀c d:Nat,c<j→d<c→l[c]?.getD 0≠l[d]?.getD 0)) (fun i _ _=>N-(intOf i).toNat)
    case atStart=>exact⟨0,0,Nat.zero_le _,rfl,rfl,hid (fun c d hc _=>by omega)⟩
    case round=>
     obtain⟨j,m,hj,rfl,rfl,hone⟩:=hrel
     by_cases hjN:j<N
     ·go_wp2
      go_loopw [5] (fun i w'=>∃t m:Nat,t≤j∧i= .int .i64 t∧w'=w.drewN m∧Hid (∀d:Nat,d<t→l[j]?.getD 0≠l[d]?.getD 0)) (fun i _=>j-(intOf i).toNat)
      case atStart=>exact⟨0,m,Nat.zero_le _,rfl,rfl,hid (fun d hd=>by omega)⟩
      case round=>
       obtain⟨t,m2,ht,rfl,rfl,hin⟩:=hrel
       by_cases htj:t<j
       ·obtain⟨b,off,rfl,hb1,hc⟩:=hl2 (by omega)
        have c1:=hc j hjN
        have c2:=hc t (by omega)
        by_cases he:l[j]?.getD 0=l[t]?.getD 0
        ·have HP:Hid (permE l=6):=hid (by rw[HE.out,if_neg];intro h;exact HND.out.1 h j t hjN htj he)
         have hbe:(l[j]?.getD 0==l[t]?.getD 0)=true:=by simpa using he
         clear hl2 hc hin hone he
         generalize l[j]?.getD 0=x at*
         generalize l[t]?.getD 0=y at*
         go_wp2
         go_quiet (fail)
         go_wp2
         go_ret
         exact⟨by rw[HP.out];rfl,m2+nq,by rw[World.drewN_drewN]⟩
        ·have hbe:(l[j]?.getD 0==l[t]?.getD 0)=false:=by simpa using he
         have HIN:Hid (∀d:Nat,d<t+1→l[j]?.getD 0≠l[d]?.getD 0):=hid (fun d hd=>by
          by_cases e:d=t
          ·rw[e];exact he
          ·exact hin.out d (by omega))
         clear hl2 hc hin hone he
         generalize l[j]?.getD 0=x at*
         generalize l[t]?.getD 0=y at*
         go_wp2
         go_quiet (fail)
         go_wp2
         go_roundw
         case rel=>exact⟨t+1,m2+nq,by omega,by go_num,rfl,HIN⟩
         case measure=>simp[intOf]<;>omega
       ·obtain rfl:j=t:=by omega
        have HNO:Hid (∀c d:Nat,c<j+1→d<c→l[c]?.getD 0≠l[d]?.getD 0):=hid (fun c d hc hd=>by
         by_cases e:c=j
         ·rw[e];exact hin.out d (by omega)
         ·exact hone.out c d (by omega) hd)
        clear hl2 hin hone
        go_wp2
        go_roundw
        case rel=>exact⟨j+1,m2,by omega,by go_num,rfl,HNO⟩
        case measure=>simp[intOf]<;>omega
     ·obtain rfl:N=j:=by omega
      have HP:Hid (permE l=0):=hid (by rw[HE.out,if_pos (HND.out.2 (fun i j hi hj=>hone.out i j hi hj))])
      go_wp2
      go_ret
      exact⟨by rw[HP.out];rfl,m,rfl⟩
end Go.Proofs.YtnnaadmegeeinaaGreatDoor
