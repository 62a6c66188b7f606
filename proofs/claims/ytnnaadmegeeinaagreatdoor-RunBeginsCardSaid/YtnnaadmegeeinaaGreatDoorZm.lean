/-
  Part 13 of a proof: what it proves stands in the last text.
-/
import Derived.Test.YtnnaadmegeeinaaGreatDoorZl
import Derived.Test.YtnnaadmegeeinaaGreatDoorZc
import Derived.Maps.OwnSet
import Derived.Maps.OwnOps
import Derived.Test.YtnnaadmegeeinaaGreatDoorZh
import Derived.Test.YtnnaadmegeeinaaGreatDoorZd
set_option linter.unusedVariables false
set_option maxHeartbeats 8000000
set_option maxRecDepth 100000
namespace Go.Proofs.YtnnaadmegeeinaaGreatDoor
open Go.RowKit
theorem putL_defers {vals:Nat→Value} {on:Nat→Bool}:∀(ds:List Nat) (k:Nat) (a:Act),(putL vals on k ds a).defers=a.defers
 |[],k,a=>rfl
 |d::ds,k,a=>by
  unfold putL
  split
  ·rw[putL_defers ds (k+1)];rfl
  ·rw[putL_defers ds (k+1)]
def StepP (P:Program) (ops:Array Oper) (ds:List Nat) (R:Nat→Value→World→Prop) (Q:Exit→Act→World→Prop) (a0:Act) (W:World) (k:Nat) (o:Oper):Prop:=
 ∀(a:Act) (w:World) (K:Act→World→Prop),Below W.heap.size W w→(∀t,ds.contains t=false→a.tmps.getD t undef=a0.tmps.getD t undef)→a.defers=a0.defers→
  (∀j,j<ds.length→Region.waitsFor .any ops k j=true→R j (a.tmps.getD (ds.getD j 0) undef) w)→
  (∀v w',R k v w'→Below w.heap.size w w'→K (a.put o.dst v) w')→Oper.wp P o a w K Q
def StepsP (P:Program) (ops:Array Oper) (ds:List Nat) (R:Nat→Value→World→Prop) (Q:Exit→Act→World→Prop) (a0:Act) (W:World):Nat→List Oper→Prop
 |_,[]=>True
 |k,o::os=>StepP P ops ds R Q a0 W k o∧StepsP P ops ds R Q a0 W (k+1) os
theorem StepsP.get {P:Program} {ops:Array Oper} {ds:List Nat} {R:Nat→Value→World→Prop} {Q:Exit→Act→World→Prop} {a0:Act} {W:World}:∀(os:List Oper) (k i:Nat) (o:Oper),StepsP P ops ds R Q a0 W k os→os[i]? =some o→StepP P ops ds R Q a0 W (k+i) o:=by
 intro os
 induction os with
 |nil=>intro k i o h e;simp at e
 |cons x os ih=>
  intro k i o h e
  rw[StepsP]at h
  cases i with
  |zero=>
   rw[List.getElem?_cons_zero]at e
   cases e
   rw[Nat.add_zero]
   exact h.1
  |succ i=>
   rw[List.getElem?_cons_succ]at e
   have:=ih (k+1) i o h.2 e
   rw[show k+1+i=k+(i+1)by omega]at this
   exact this
theorem region_dagP {P:Program} {Q:Exit→Act→World→Prop} {id:Nat} {a0:Act} {w:World} {l:List Oper} (ds:List Nat) (R:Nat→Value→World→Prop) (hm:P.follows .mixedOrders=true) (hB:dagB l ds=true)
 (hsz:∀d∈ds,d<a0.tmps.size)
 (hkeep:∀j v w1 w2,R j v w1→w.heap.size≤w1.heap.size→Below w1.heap.size w1 w2→R j v w2)
 (hstep:StepsP P l.toArray ds R Q a0 w 0 (l.take ds.length))
 (hend:∀vals w',(∀j,j<ds.length→R j (vals j) w')→Below w.heap.size w w'→wpList P l.toArray Q (l.drop ds.length) (putAll vals 0 ds a0) w'):(Code.region id l.toArray true).wp P Q a0 w:=by
 simp only[dagB,Bool.and_eq_true,decide_eq_true_eq,beq_iff_eq]at hB
 obtain⟨⟨⟨⟨⟨⟨⟨hn,hs⟩,hc⟩,hseq⟩,hdst⟩,hgd⟩,hnd⟩,hfw⟩:=hB
 have hn':ds.length<l.toArray.size:=by simpa using hn
 refine wp_region_any hm ?_
 have main:∀(f:Nat) (listed:Array Bool) (a:Act) (w1:World),HeadInv .any l.toArray ds.length listed→((List.range ds.length).filter (fun j=> !listed.getD j false)).length=f→
  (∃vals,a=putL vals (fun j=>listed.getD j false) 0 ds a0∧(∀j,j<ds.length→listed.getD j false=true→R j (vals j) w1)∧Below w.heap.size w w1)→wpAny P .any l.toArray Q (f+(l.length-ds.length)) listed a w1:=by
  intro f
  induction f with
  |zero=>
   rintro listed a w1 inv hf ⟨vals,rfl,hR,hb⟩
   have hall:∀j,j<ds.length→listed.getD j false=true:=fun j hj=>by
    have h0:=List.eq_nil_of_length_eq_zero hf
    rw[List.filter_eq_nil_iff]at h0
    have:=h0 j (List.mem_range.2 hj)
    simpa using this
   have hl:listed=firstB l.length ds.length:=by
    refine Array.ext (by rw[inv.size];simp[firstB]) fun j h1 h2=> ?_
    have e2:(firstB l.length ds.length)[j]=decide (j<ds.length):=by simp[firstB]
    rw[e2]
    by_cases hj:j<ds.length
    ·have:=hall j hj
     simp only[hj,decide_true]
     simpa [h1]using this
    ·have:=inv.tail j (by omega) (by rw[←inv.size];exact h1)
     simp only[hj,decide_false]
     simpa [h1]using this
   rw[Nat.zero_add]
   have h3:=wpAny_of_seq (P:=P) (md:= .any) (ops:=l.toArray) (Q':=Q) (l.drop ds.length) ds.length (firstB l.length ds.length) (putAll vals 0 ds a0) w1 (fun j=>by simp[List.getElem?_drop]) (by rw[List.length_drop];exact hseq) (hend vals w1 (fun j hj=>hR j hj (hall j hj)) hb)
   rw[List.length_drop]at h3
   rw[putL_all vals _ ds 0 a0 (fun j _ hj=>hall j (by omega)),hl]
   exact h3
  |succ f ih=>
   rintro listed a w1 inv hf ⟨vals,rfl,hR,hb⟩
   obtain⟨j0,hj0⟩:∃j,j∈(List.range ds.length).filter (fun j=> !listed.getD j false):=List.exists_mem_of_length_pos (by omega)
   obtain⟨hj1,hj2⟩:=List.mem_filter.1 hj0
   have hj1:=List.mem_range.1 hj1
   have hj2:listed.getD j0 false=false:=by simpa using hj2
   have hj3:=getD_in (by rw[inv.size];omega) hj2
   rw[show f+1+(l.length-ds.length)=(f+(l.length-ds.length))+1 by omega]
   have htail:=tail_waits hs hc hn' inv _ j0 rfl hj1 hj3
   refine⟨fun h0=> ?_,fun i hi=> ?_⟩
   ·
    exfalso
    have hex:∃i,i<ds.length∧listed.getD i false=false∧∀j,j<i→listed.getD j false=true:=by
     have:∀n,(∃i,i<n∧listed.getD i false=false∧∀j,j<i→listed.getD j false=true)∨∀j,j<n→listed.getD j false=true:=by
      intro n
      induction n with
      |zero=>exact .inr fun j hj=>by omega
      |succ n ih=>
       rcases ih with⟨i,h1,h2⟩|h
       ·exact .inl ⟨i,by omega,h2⟩
       ·cases e:listed.getD n false with
        |false=>exact .inl ⟨n,by omega,e,h⟩
        |true=>
         refine .inr fun j hj=> ?_
         by_cases hjn:j=n
         ·rw[hjn];exact e
         ·exact h j (by omega)
     rcases this ds.length with h|h
     ·exact h
     ·rw[h j0 hj1]at hj2;cases hj2
    obtain⟨i,hi1,hi2,hi3⟩:=hex
    have hil:i<l.length:=by omega
    have hr:i∈Region.ready .any l.toArray listed:=by
     refine mem_ready.2 ⟨getD_in (by rw[inv.size];simpa using hil) hi2,l[i],by simp[hil],fun e he hbd=> ?_⟩
     have h1:=List.all_eq_true.1 hfw i (List.mem_range.2 hil)
     rw[List.getElem?_eq_getElem hil]at h1
     have h2:=Array.all_eq_true_iff_forall_mem.1 h1 e he
     rw[hbd]at h2
     exact hi3 _ (by simpa using h2)
    rw[h0]at hr
    cases hr
   ·have hin:i<ds.length:=by
     rcases Nat.lt_or_ge i ds.length with h|h
     ·exact h
     ·exact absurd hi (htail i h)
    obtain⟨hun,o,ho,hall⟩:=mem_ready.1 hi
    have hun':listed.getD i false=false:=getD_both hun
    have ho':(l.take ds.length)[i]? =some o:=by rw[List.getElem?_take_of_lt hin];simpa using ho
    obtain⟨d,hd⟩:∃d,ds[i]? =some d:=⟨ds[i],List.getElem?_eq_getElem hin⟩
    have hod:o.dst=some d:=by
     have h1:=congrArg (fun x=>x[i]?) hdst
     simp only[List.getElem?_map,ho',hd,Option.map_some,Option.some.injEq]at h1
     exact h1
    have hog:o.guard=none:=by
     have:=List.all_eq_true.1 hgd o (List.mem_of_getElem? ho')
     simpa using this
    have hst:=StepsP.get _ 0 i o hstep ho'
    rw[Nat.zero_add]at hst
    have hst2:=hst (putL vals (fun j=>listed.getD j false) 0 ds a0) w1 (wpAny P .any l.toArray Q (f+(l.length-ds.length)) (listed.setIfInBounds i true)) hb (fun t ht=>putL_frame ds 0 a0 ht) (putL_defers ds 0 a0) ?_ ?_
    ·unfold wpOp
     simp only[ho]
     rw[if_pos (by simp[Region.wanted,hog])]
     exact .inl hst2
    ·intro j hj hw
     obtain⟨oj,hoj,e,he,hbd,hon⟩:=Region.waitsFor_spec hw
     have:oj=o:=Option.some.inj (hoj.symm.trans ho)
     subst this
     have hlj:=hall e he hbd
     rw[hon]at hlj
     obtain⟨dj,hdj⟩:∃d,ds[j]? =some d:=⟨ds[j],List.getElem?_eq_getElem hj⟩
     rw[List.getD_eq_getElem?_getD,hdj,Option.getD_some,putL_get ds 0 j a0 dj hnd hdj (hsz _ (List.mem_of_getElem? hdj)) (by rw[Nat.zero_add];exact hlj),Nat.zero_add]
     exact hR j hj hlj
    ·intro v w2 hv hb2
     refine ih _ _ _ (inv.set hi hin) ?_ ⟨fun j=>if j=i then v else vals j,?_,?_,hb.trans (hb2.mono hb.size)⟩
     ·have key:∀n,i<n→((List.range n).filter (fun j=> !(listed.setIfInBounds i true).getD j false)).length+1=((List.range n).filter (fun j=> !listed.getD j false)).length:=by
       intro n
       induction n with
       |zero=>intro h;omega
       |succ n ihn=>
        intro h
        rw[List.range_succ,List.filter_append,List.filter_append,List.length_append,List.length_append]
        by_cases hin2:i=n
        ·subst hin2
         have e1:(List.range i).filter (fun j=> !(listed.setIfInBounds i true).getD j false)=(List.range i).filter (fun j=> !listed.getD j false):=List.filter_congr fun j hj=>by
          rw[getD_set_ne false (by have:=List.mem_range.1 hj;omega)]
         have e2:(listed.setIfInBounds i true).getD i false=true:=by
          have:i<listed.size:=by rw[inv.size];omega
          simp[this]
         rw[e1]
         simp only[List.filter_cons,List.filter_nil,e2,hun']
         simp
        ·have:=ihn (by omega)
         have e2:(listed.setIfInBounds i true).getD n false=listed.getD n false:=getD_set_ne false hin2
         simp only[List.filter_cons,List.filter_nil,e2]
         omega
      have:=key ds.length hin
      omega
     ·have h1:=putL_set (vals:=vals) (on:=fun j=>listed.getD j false) v ds 0 i a0 d hnd hd (by rw[Nat.zero_add];exact hun')
      rw[Nat.zero_add]at h1
      rw[hod,←h1]
      refine putL_congr ds 0 a0 fun j _ hj=>⟨?_,fun _=>rfl⟩
      by_cases e:j=i
      ·subst e
       have:j<listed.size:=by rw[inv.size];omega
       simp[this]
      ·rw[getD_set_ne false (Ne.symm e)]
       simp[e]
     ·intro j hj hl
      by_cases e:j=i
      ·subst e
       show R j (if j=j then v else vals j) w2
       rw[if_pos rfl]
       exact hv
      ·show R j (if j=i then v else vals j) w2
       rw[if_neg e]
       rw[getD_set_ne false (Ne.symm e)]at hl
       exact hkeep j _ w1 w2 (hR j hj hl) hb.size hb2
 have inv0:HeadInv .any l.toArray ds.length (Array.replicate l.toArray.size false):=
  ⟨by simp,fun j oj _ hl=>(by rw[getD_replicate_false]at hl;cases hl),fun t _ ht=>getD_in (by simpa using ht) (getD_replicate_false _ _)⟩
 have hcount:((List.range ds.length).filter (fun j=> !(Array.replicate l.toArray.size false).getD j false)).length=ds.length:=by
  rw[List.filter_eq_self.2 (fun j _=>by rw[getD_replicate_false];rfl),List.length_range]
 have h9:=main ds.length _ a0 {w with drawn:=w.drawn+1} inv0 hcount ⟨fun _=>undef,?_,fun j _ hl=> ?_,?_⟩
 ·rw[show l.toArray.size=ds.length+(l.length-ds.length)by simp;omega]
  rw[show ds.length+(l.length-ds.length)=l.length by omega]at h9⊢
  simpa using h9
 ·have:∀(ds:List Nat) (k:Nat),putL (fun _=>undef) (fun j=>(Array.replicate l.toArray.size false).getD j false) k ds a0=a0:=by
   intro ds
   induction ds with
   |nil=>intro k;rfl
   |cons d ds ih=>
    intro k
    unfold putL
    rw[if_neg (by rw[getD_replicate_false];decide)]
    exact ih (k+1)
  exact(this ds 0).symm
 ·rw[getD_replicate_false]at hl;cases hl
 ·exact(Below.refl _ _).drew
theorem region_dagPL {P:Program} {Q:Exit→Act→World→Prop} {id:Nat} {a0:Act} {w:World} {l:List Oper} (ds:List Nat) (Rl:List (Value→World→Prop)) (hm:P.follows .mixedOrders=true) (hB:dagB l ds=true)
 (hl:Rl.length=ds.length) (hsz:ds.all (fun d=>decide (d<a0.tmps.size))=true) (hkeep:KpL w.heap.size Rl)
 (hstep:StepsP P l.toArray ds (nthD Rl) Q a0 w 0 (l.take ds.length))
 (hend:∀vals w',AllD vals w' 0 Rl→Below w.heap.size w w'→wpList P l.toArray Q (l.drop ds.length) (putAll vals 0 ds a0) w'):(Code.region id l.toArray true).wp P Q a0 w:=
 region_dagP ds (nthD Rl) hm hB (fun d hd=>of_decide_eq_true (List.all_eq_true.1 hsz d hd)) (fun j v w1 w2 h h1 h2=>KpL.get Rl j hkeep v w1 w2 h h1 h2) hstep
  fun vals w' h hb=>hend vals w' (AllD.of Rl 0 fun j hj=>by rw[Nat.zero_add];exact h j (by omega)) hb
section
variable {P:Program} {o:Oper} {a:Act} {w:World} {K:Act→World→Prop} {Q:Exit→Act→World→Prop}
theorem dag_callp (f:Nat) (args:Array Operand) (ty:Array TypeId) (vs:Array Value) (ho:o.op= .call {callee:= .value (.func f),args:=args,argTypes:=ty}) (ha:args.map a.eval=vs) (fn:Func) (hf:P.funcs[f]? =some fn) (h1:(fn.name== "runtime.NumGoroutine")=false) (h2:fn.body.isNone=false) (H:Calls P f vs w fun e w'=>(∃v,e= .returned v∧K (a.put o.dst v) w')∨(∃ch,e= .panicked ch∧Q (.panic ch) a w')):Oper.wp P o a w K Q:=by
 unfold Oper.wp
 have:(execOp a.eval o).run P w= .ok (.enter f vs) w:=by
  unfold execOp
  rw[ho]
  have h3:fn.name≠ "runtime.NumGoroutine" :=by simpa using h1
  have h4:fn.body≠none:=by intro e;rw[e]at h2;cases h2
  simp[resolve,Act.eval,ha,go_sem,callFunc,hf,h3,h4]
 rw[this]
 refine H.mono ?_
 rintro e w' (⟨v,rfl,h⟩|⟨ch,rfl,h⟩)
 ·exact h
 ·exact h
end
end Go.Proofs.YtnnaadmegeeinaaGreatDoor
namespace Go.Proofs.YtnnaadmegeeinaaGreatDoor
open Go.RowKit Go.Maps
def ins {κ:Type} [DecidableEq κ] (x:κ) (S:List κ):List κ:=if x∈S then S else x::S
theorem ins_nodup {κ:Type} [DecidableEq κ] {x:κ} {S:List κ} (h:S.Nodup):(ins x S).Nodup:=by
 unfold ins
 split
 ·exact h
 ·exact List.nodup_cons.2 ⟨by assumption,h⟩
theorem mem_ins {κ:Type} [DecidableEq κ] {x y:κ} {S:List κ}:y∈ins x S↔y=x∨y∈S:=by
 unfold ins
 split
 ·rename_i h
  constructor
  ·exact .inr
  ·rintro(rfl|h2)
   ·exact h
   ·exact h2
 ·simp
def KM {κ:Type} (K:TypeId) (f:κ→Value) (w:World) (b n:Nat) (S:List κ):Prop:=
 ∃D:DataW Unit,w.ownsMap Tryz.prog K (plainElem Tryz.prog 3) b n D∧S.Nodup∧size D=S.length∧∀x kl,keyOf Tryz.prog K (f x)=some kl→(has D kl=true↔x∈S)
section
variable {κ:Type} {K:TypeId} {f:κ→Value} {w w':World} {b n:Nat} {S:List κ}
theorem KM.new (K:TypeId) (f:κ→Value) (w:World):KM K f (w.alloc (.map #[] 0)) w.heap.size 0 []:=
 ⟨_,World.ownsMap_made w _ _ _,List.nodup_nil,rfl,fun x kl _=>by simp[has]⟩
theorem KM.lt (h:KM K f w b n S):b<w.heap.size:=h.choose_spec.1.lt
theorem KM.kept {row:Option Nat} (h:KM K f w b n S) (hg:w.grownBy w' row) (hne:some b≠row):KM K f w' b n S:=by
 obtain⟨D,h1,h2⟩:=h
 exact⟨D,h1.kept hg hne,h2⟩
theorem KM.below (h:KM K f w b n S) (hb:Below w.heap.size w w'):KM K f w' b n S:=by
 obtain⟨D,h1,h2⟩:=h
 obtain⟨es,clock,hm,r⟩:=h1
 have hlt:b<w.heap.size:=(Array.getElem?_eq_some_iff.1 hm).1
 exact⟨D,⟨es,clock,(hb.block b hlt).trans hm,r⟩,h2⟩
theorem KM.put [DecidableEq κ] (L:Keyed Tryz.prog K) (hf:∀x y,f x=f y→x=y) {D:DataW Unit} {x:κ} {kl:Lit} {d:DataW Unit} (h0:w.ownsMap Tryz.prog K (plainElem Tryz.prog 3) b n D) (h1:S.Nodup) (h2:size D=S.length)
 (h3:∀x kl,keyOf Tryz.prog K (f x)=some kl→(has D kl=true↔x∈S)) (hk:keyOf Tryz.prog K (f x)=some kl) {m:Nat} (h4:w'.ownsMap Tryz.prog K (plainElem Tryz.prog 3) b m (D.put kl d)):KM K f w' b m (ins x S):=by
 refine⟨_,h4,ins_nodup h1,?_,fun y kl' hy=> ?_⟩
 ·rw[size_put (h0.tidy L)]
  unfold ins
  by_cases hx:x∈S
  ·rw[if_pos ((h3 x kl hk).2 hx),if_pos hx,h2]
  ·rw[if_neg (fun e=>hx ((h3 x kl hk).1 e)),if_neg hx,h2,List.length_cons]
 ·rw[mem_ins]
  by_cases e:kl'=kl
  ·subst e
   have:y=x:=hf _ _ (L.inj hy hk)
   rw[has_put_same h0.isMap (L.key hk)]
   simp[this]
  ·rw[has_put_other e,h3 y kl' hy]
   constructor
   ·exact .inr
   ·rintro(rfl|h5)
    ·rw[hk]at hy
     cases hy
     exact absurd rfl e
    ·exact h5
theorem wpList_km [DecidableEq κ] {ops:Array Oper} {rest:List Oper} {o:Oper} {a:Act} {Q:Exit→Act→World→Prop}
 (hg:o.guard=none) (m x v:Operand) (t:TypeId) (hop:o.op=Op.mapUpdate t m x v) (K:TypeId) (f:κ→Value) (L:Keyed Tryz.prog K) (hf:∀x y,f x=f y→x=y) (ht:Tryz.prog.underlying t=some (.map K 3))
 (b n:Nat) (S:List κ) (hm:a.eval m= .map (some b)) (hown:KM K f w b n S) (hn:n<maxLen) (y:κ) (c:Int) (hx:a.eval x=f y) (hv:a.eval v= .int .i64 c) (hkey:∃kl,keyOf Tryz.prog K (f y)=some kl) (hc:(Lit.int .i64 c).wf=true)
 (hK:∀w',KM K f w' b (n+1) (ins y S)→w.grownBy w' (some b)→wpList Tryz.prog ops Q rest (a.put o.dst undef) w'):wpList Tryz.prog ops Q (o::rest) a w:=by
 obtain⟨D,h1,h2,h3,h4⟩:=hown
 obtain⟨kl,hkl⟩:=hkey
 exact wpList_mapUpdate_own w hg m x v t hop K 3 L ht _ b n D hm h1 hn _ _ kl hx hv hkl _ [] (plainElem_int Tryz.underlying3 hc) fun w' h5 h6=>hK w' (KM.put L hf h1 h2 h3 h4 hkl h5) h6
end
end Go.Proofs.YtnnaadmegeeinaaGreatDoor
namespace Go.Proofs.YtnnaadmegeeinaaGreatDoor
open Go.RowKit Go.Maps
def kInt (k:Nat):Value:= .int .i64 (k:Int)
theorem kInt_inj (x y:Nat) (h:kInt x=kInt y):x=y:=by
 unfold kInt at h
 simp only[Value.int.injEq,true_and]at h
 omega
theorem kInt_wf {k:Nat} (hk:k≤1000000):(Lit.int .i64 (k:Int)).wf=true:=by
 simp only[Lit.wf,IntKind.min,IntKind.max,IntKind.signed,IntKind.bits,Bool.and_eq_true,decide_eq_true_eq,if_true]
 omega
theorem kInt_key {k:Nat} (hk:k≤1000000):∃kl,keyOf Tryz.prog 3 (kInt k)=some kl:=⟨_,keyOf_int_mk Tryz.underlying3 (kInt_wf hk)⟩
theorem wpList_kiok {w:World} {b n:Nat} {S:List Nat} {ops:Array Oper} {rest:List Oper} {o:Oper} {a:Act} {Q:Exit→Act→World→Prop}
 (hg:o.guard=none) (m x:Operand) (t:TypeId) (hop:o.op=Op.lookup t m x true) (ht:Tryz.prog.underlying t=some (.map 3 3))
 (hm:a.eval m= .map (some b)) (hown:KM 3 kInt w b n S) (y:Nat) (hx:a.eval x=kInt y) (hkey:y≤1000000)
 (hK:∀(c:Int) (z:Bool),(z=true↔y∈S)→wpList Tryz.prog ops Q rest (a.put o.dst (.tuple #[.int .i64 c,.bool z])) w):wpList Tryz.prog ops Q (o::rest) a w:=by
 obtain⟨D,h1,h2,h3,h4⟩:=hown
 obtain⟨kl,hkl⟩:=kInt_key hkey
 exact wpList_lookup_own_ok_int w hg m x t hop 3 3 .i64 (int_keyed Tryz.underlying3) ht Tryz.underlying3 (Tryz.zeroValue3 w) b n D hm h1 _ kl hx hkl (fun c _ _=>hK c _ (h4 y kl hkl))
def apR (ps bs:List Nat) (b:Nat) (ls S:List Nat):Bool:=match apI b ls S with
 |some S'=>apG (ps++[b]) bs S'
 |none=>false
theorem apR_in {ps bs:List Nat} {b a:Nat} {ls S:List Nat} (h:b-a∈S):apR ps bs b (a::ls) S=false:=by
 unfold apR apI
 rw[decide_eq_true h]
 rfl
theorem apR_out {ps bs:List Nat} {b a:Nat} {ls S:List Nat} (h:¬b-a∈S):apR ps bs b (a::ls) S=apR ps bs b ls (ins (b-a) S):=by
 unfold ins
 rw[if_neg h]
 unfold apR
 rw[apI,decide_eq_false h]
 rfl
theorem apR_nil (ps bs:List Nat) (b:Nat) (S:List Nat):apR ps bs b [] S=apG (ps++[b]) bs S:=rfl
theorem apG_cons (ps bs:List Nat) (b:Nat) (S:List Nat):apG ps (b::bs) S=apR ps bs b ps S:=rfl
theorem drop_get {l:List Nat} {i:Nat} (h:i<l.length):l.drop i=l.getD i 0::l.drop (i+1):=by
 rw[List.drop_eq_getElem_cons h,List.getD_eq_getElem?_getD,List.getElem?_eq_getElem h]
 rfl
theorem take_get {l:List Nat} {i:Nat} (h:i<l.length):l.take i++[l.getD i 0]=l.take (i+1):=by
 rw[List.take_add_one,List.getElem?_eq_getElem h,List.getD_eq_getElem?_getD,List.getElem?_eq_getElem h]
 rfl
theorem apart_any (b off c N:Nat) (l:List Nat) (w:World) (hb:b<w.heap.size) (hN1:1≤N) (hN:N≤100) (hNc:N≤c) (hl:l.length=N) (hcell:∀i,i<N→w.cell? ⟨b,off+i,none⟩=some (.int .i64 ((l.getD i 0:Nat):Int))) (hasc:∀i j,i<j→j<N→l.getD i 0<l.getD j 0) (hbd:∀i,i<N→l.getD i 0≤1000):
 Calls Tryz.prog 262 #[.slice (some ⟨b,off,none⟩) N c] w fun e w'=>e= .returned (.bool (apB l))∧Below w.heap.size w w':=by
 have hmm:= @run_makeMap Tryz.prog
 have HKN:=hid (KM.new 3 kInt w)
 have HCELL:=hid hcell
 have HASC:=hid hasc
 have HBD:=hid hbd
 have HL:=hid hl
 have HZ:Hid (apG (l.take 0) (l.drop 0) []=apB l):=hid rfl
 have HDG:=hid (fun i (h:i<N)=>drop_get (l:=l) (i:=i) (by rw[hl];exact h))
 have HTG:=hid (fun i (h:i<N)=>take_get (l:=l) (i:=i) (by rw[hl];exact h))
 have HTD:=hid (fun i j (h:j<i) (h2:i≤N)=>(show(l.take i).drop j=l.getD j 0::(l.take i).drop (j+1)from by
  rw[drop_get (l:=l.take i) (i:=j) (by rw[List.length_take,hl];omega)]
  congr 1
  rw[List.getD_eq_getElem?_getD,List.getD_eq_getElem?_getD,List.getElem?_take,if_pos h]))
 have HTE:=hid (fun i (h2:i≤N)=>(show(l.take i).drop i=[]from by rw[List.drop_eq_nil_iff,List.length_take];omega))
 have HEND:Hid (∀S,apG (l.take N) (l.drop N) S=true):=hid (fun S=>by rw[←hl,List.drop_length];rfl)
 have hB0:Below w.heap.size w (w.alloc (.map #[] 0)):=(Below.refl _ _).alloc (Nat.le_refl _) _
 have HB0:=hid hB0
 generalize apB l=R at*
 clear hcell hasc hbd hl hB0
 go_enter Tryz.func262,Tryz.ntmps262
 go_wp2
 go_loopw [13] (fun iv wr=>∃(i n:Nat) (S:List Nat),i≤N∧iv= .int .i64 i∧n≤100*i∧KM 3 kInt wr w.heap.size n S∧Hid (apG (l.take i) (l.drop i) S=R)∧Below w.heap.size w wr) (fun iv _=>N-(intOf iv).toNat)
 case atStart=>exact⟨0,0,[],Nat.zero_le _,rfl,Nat.zero_le _,HKN.out,hid HZ.out,HB0.out⟩
 case round=>
  obtain⟨i,n,S,hi,rfl,hn,hkm,hR,hbl⟩:=hrel
  by_cases hiN:i<N
  ·have hii:(i:Int)<(N:Int):=by omega
   have c1:=(hbl.cell (p:=⟨b,off+i,none⟩) hb).trans (HCELL.out i hiN)
   have hx:=HBD.out i hiN
   have HRI:Hid (apR (l.take i) (l.drop (i+1)) (l.getD i 0) ((l.take i).drop 0) S=R):=hid (by
    have:=hR.out
    rwa [HDG.out i hiN,apG_cons]at this)
   have HX:=hid (And.intro hkm hbl)
   have hic:(i:Int)≤(c:Int):=by omega
   clear hkm hbl hR
   obtain⟨x,hxe⟩:∃x,l.getD i 0=x:=⟨_,rfl⟩
   rw[hxe]at c1 hx HRI
   have HASX:=hid (fun j (h:j<i)=>(show l.getD j 0<x from by rw[←hxe];exact HASC.out j i h hiN))
   have HTGX:=hid (show l.take i++[x]=l.take (i+1)from by rw[←hxe];exact HTG.out i hiN)
   have HTDI:=hid (fun j (h:j<i)=>HTD.out i j h hi)
   have HTEI:=hid (HTE.out i hi)
   clear hxe
   generalize l.take i=TK at*
   obtain⟨DR,hDR⟩:∃DR,l.drop (i+1)=DR:=⟨_,rfl⟩
   rw[hDR]at HRI
   have HDR:=hid hDR
   clear hDR
   go_wp2
   go_loopw [22] (fun jv wq=>∃(j n':Nat) (S':List Nat),j≤i∧jv= .int .i64 j∧n'≤100*i+j∧KM 3 kInt wq w.heap.size n' S'∧Hid (apR TK DR x (TK.drop j) S'=R)∧Below w.heap.size w wq) (fun jv _=>i-(intOf jv).toNat)
   case atStart=>exact⟨0,n,S,Nat.zero_le _,rfl,by omega,HX.out.1,hid HRI.out,HX.out.2⟩
   case round=>
    clear HX
    obtain⟨j,n',S',hj,rfl,hn',hkm,hR,hbl⟩:=hrel
    by_cases hji:j<i
    ·have hjj:(j:Int)<(i:Int):=by omega
     have c2:=(hbl.cell (p:=⟨b,off+j,none⟩) hb).trans (HCELL.out j (by omega))
     have hlt:=HASX.out j hji
     have hRR:=hR.out
     rw[HTDI.out j hji]at hRR
     generalize l.getD j 0=y at*
     obtain⟨d,hd⟩:∃d,x-y=d:=⟨_,rfl⟩
     have hke:Value.int .i64 ((x:Int)-(y:Int))=kInt d:=by
      unfold kInt
      rw[show(x:Int)-(y:Int)=((x-y:Nat):Int)by omega,hd]
     have HKE:=hid hke
     have hd1:d≤1000000:=by omega
     have HX:=hid (And.intro hkm hbl)
     have HRR:=hid hRR
     have HD:=hid hd
     have hnm:n'<maxLen:=by unfold maxLen;have:100*i≤100*100:=Nat.mul_le_mul_left _ (by omega)
                            omega
     have hkey:=kInt_key hd1
     have hwf:=kInt_wf (k:=i) (by omega)
     have hsz:=hbl.size
     clear hkm hbl hR hRR hke hd
     by_cases hin:d∈S'
     ·obtain rfl:false=R:=by rw[←HRR.out,apR_in (by rw[HD.out];exact hin)]
      go_wp2_with (first
       |(refine wpList_kiok rfl _ _ 261 rfl Tryz.underlying261 rfl HX.out.1 d HKE.out hd1 ?_
         intro z0 zb hzb
         obtain rfl:zb=true:=hzb.2 hin
         clear hzb)
       |fail)
      go_ret
      exact⟨rfl,HX.out.2⟩
     ·have HN:Hid (apR TK DR x (TK.drop (j+1)) (ins d S')=R):=hid (by
       rw[←HRR.out,apR_out (by rw[HD.out];exact hin),HD.out])
      go_wp2_with (first
       |(refine wpList_kiok rfl _ _ 261 rfl Tryz.underlying261 rfl HX.out.1 d HKE.out hd1 ?_
         intro z0 zb hzb
         obtain rfl:zb=false:=by
          cases zb with
          |false=>rfl
          |true=>exact absurd (hzb.1 rfl) hin
         clear hzb)
       |(refine wpList_km rfl _ _ _ 261 rfl 3 kInt (int_keyed Tryz.underlying3) kInt_inj Tryz.underlying261 w.heap.size n' S' rfl HX.out.1 hnm d ((i:Nat):Int) HKE.out rfl hkey hwf ?_
         intro w8 hk8 hg8
         have H8:=hid (And.intro hk8 (HX.out.2.grown hg8 hsz (fun k e=>by cases e;exact Nat.le_refl _)))
         clear hk8 hg8)
       |fail)
      go_roundw
      case rel=>exact⟨j+1,n'+1,_,by omega,by go_num,by omega,H8.out.1,hid HN.out,H8.out.2⟩
      case measure=>simp[intOf]<;>omega
    ·obtain rfl:j=i:=by omega
     have hjj:¬(j:Int)<(j:Int):=by omega
     have HX:=hid (And.intro hkm hbl)
     have HN:Hid (apG (l.take (j+1)) (l.drop (j+1)) S'=R):=hid (by
      have:=hR.out
      rw[HTEI.out,apR_nil,HTGX.out,←HDR.out]at this
      exact this)
     clear hkm hbl hR
     go_wp2
     go_roundw
     case rel=>exact⟨j+1,n',S',by omega,by go_num,by omega,HX.out.1,hid HN.out,HX.out.2⟩
     case measure=>simp[intOf]<;>omega
  ·obtain rfl:i=N:=by omega
   have hii:¬(i:Int)<(i:Int):=by omega
   obtain rfl:true=R:=by rw[←hR.out,HEND.out]
   have HB:=hid hbl
   clear hkm hR hbl
   go_wp2
   go_ret
   exact⟨rfl,HB.out⟩
end Go.Proofs.YtnnaadmegeeinaaGreatDoor
