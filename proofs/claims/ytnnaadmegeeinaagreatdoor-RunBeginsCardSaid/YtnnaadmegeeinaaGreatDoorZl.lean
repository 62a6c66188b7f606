/-
  Part 12 of a proof: what it proves stands in the last text.
-/
import Derived.Test.YtnnaadmegeeinaaGreatDoorZj
import Derived.Test.YtnnaadmegeeinaaGreatDoorZk
import Derived.Deep.MidRow
import Derived.Test.YtnnaadmegeeinaaGreatDoorZc
import Derived.StillTail
set_option linter.unusedVariables false
set_option maxHeartbeats 8000000
set_option maxRecDepth 100000
namespace Go.Proofs.YtnnaadmegeeinaaGreatDoor
open Go.RowKit
def mvC (x:Nat→Nat):List Value:=(List.range 7).map fun i=>Value.int .i64 ((x i:Nat):Int)
theorem mvC_len (x:Nat→Nat):(mvC x).length=7:=by simp[mvC]
theorem mvC_get {x:Nat→Nat} {i:Nat} (h:i<7):(mvC x)[i]? =some (.int .i64 ((x i:Nat):Int)):=by simp[mvC,h]
theorem mvC_one (x:Nat→Nat):(mvC x).toArray.all (·.oneCell')=true:=by simp[mvC,Value.oneCell']
theorem mvC_set {x y:Nat→Nat} {i v:Nat} (h:i<7) (h1:y i=v) (h2:∀j,j≠i→y j=x j):(mvC x).set i (.int .i64 ((v:Nat):Int))=mvC y:=by
 refine List.ext_getElem? fun j=> ?_
 by_cases e:i=j
 ·subst e
  rw[List.getElem?_set_self (by rw[mvC_len];exact h),mvC_get h,h1]
 ·rw[List.getElem?_set_ne e]
  by_cases hj:j<7
  ·rw[mvC_get hj,mvC_get hj,h2 j (fun he=>e he.symm)]
  ·rw[List.getElem?_eq_none (by rw[mvC_len];omega),List.getElem?_eq_none (by rw[mvC_len];omega)]
theorem mvC_congr {x y:Nat→Nat} (h:∀i,i<7→x i=y i):mvC x=mvC y:=List.map_congr_left fun i hi=>by rw[h i (List.mem_range.1 hi)]
def mvV (x:Nat→Nat):Value:= .agg (mvC x).toArray
theorem mvC_arr (x:Nat→Nat):(mvC x).toArray.size=7:=List.size_toArray.trans (mvC_len x)
theorem mv_info:(Tryz.prog.info? 179).map (·.size)=some 7:=by kernel_rfl
theorem gstay_ok (w:World):
 Calls Tryz.prog 245 #[] w fun e w'=>e= .returned (mvV id)∧Below w.heap.size w w':=by
 go_enter Tryz.func245,Tryz.ntmps245
 go_wp2_with fail
 have hb0:Below w.heap.size w (w.alloc (.cells (mvC fun _=>0).toArray 179)):=(Below.refl _ _).alloc (Nat.le_refl _) _
 have hb1:Below w.heap.size w ((w.alloc (.cells (mvC fun _=>0).toArray 179)).alloc (.cells (mvC fun _=>0).toArray 179)):=hb0.alloc (by simp) _
 have hA1:Arr ((w.alloc (.cells (mvC fun _=>0).toArray 179)).alloc (.cells (mvC fun _=>0).toArray 179)) w.heap.size 179 (mvC fun _=>0):=(Arr.new w _ _).alloc _
 have hA2:Arr ((w.alloc (.cells (mvC fun _=>0).toArray 179)).alloc (.cells (mvC fun _=>0).toArray 179)) (w.alloc (.cells (mvC fun _=>0).toArray 179)).heap.size 179 (mvC fun _=>0):=Arr.new _ _ _
 rw[World.size_alloc]at hA2
 go_loopw [2,3] (fun _ i wr=>∃k:Nat,k≤7∧i= .int .i64 k∧Arr wr w.heap.size 179 (mvC fun _=>0)∧Arr wr (w.heap.size+1) 179 (mvC fun i=>if i<k then i else 0)∧Below w.heap.size w wr) (fun _ i _=>7-(intOf i).toNat)
 case atStart=>exact⟨0,by omega,rfl,hA1,by rw[mvC_congr (y:=fun _=>0) (fun i _=>if_neg (by omega))];exact hA2,hb1⟩
 case round=>
  clear hb0 hb1 hA1 hA2
  obtain⟨k,hk,rfl,h1,h2,hb⟩:=hrel
  by_cases hlt:k<7
  ·have hki:(k:Int)<7:=by omega
   have hcell:=h2.cell k
   rw[mvC_get hlt]at hcell
   have hf:=h2.frozen k
   obtain⟨hs1,hg1⟩:=h2.stored k (.int .i64 ((k:Nat):Int))
   rw[mvC_set (y:=fun i=>if i<k+1 then i else 0) hlt (if_pos (by omega)) (fun j hj=>by
    by_cases h:j<k
    ·rw[if_pos h,if_pos (by omega)]
    ·rw[if_neg h,if_neg (by omega)])]at hs1
   have HX:=hid (And.intro (h1.kept hg1 (by simp)) (And.intro hs1 (hb.grown hg1 hb.size (fun b e=>by cases e;omega))))
   clear h1 h2 hb hs1 hg1
   go_wp2
   go_roundw
   case rel=>exact⟨k+1,by omega,by go_num,HX.out.1,HX.out.2.1,HX.out.2.2⟩
   case measure=>simp[intOf]<;>omega
  ·have hki:¬(k:Int)<7:=by omega
   rw[mvC_congr (x:=fun i=>if i<k then i else 0) (y:=id) (fun i hi=>if_pos (by omega))]at h2
   have r2:=h2.range
   have t1:=h1.there
   have hr1:=Arr.setCells (mvC id) [] (mvC fun _=>0) wr h1 (by rw[mvC_len,mvC_len])
   have hg1:=grown_setCells (b:=w.heap.size) (mvC id) 0 wr
   have HX:=hid (And.intro hr1 (hb.grown hg1 hb.size (fun b e=>by cases e;exact Nat.le_refl _)))
   have i1:(Tryz.prog.info? 179).map (·.size)=some (mvC id).length:=by rw[mvC_len];kernel_rfl
   have t2:wr.there w.heap.size 0 (mvC id).toArray.size:=by
    rw[mvC_arr]
    rw[mvC_len]at t1
    exact t1
   have i2:(Tryz.prog.info? 179).map (·.size)=some (mvC id).toArray.size:=by rw[mvC_arr];exact mv_info
   clear h1 h2 hb hr1 hg1 t1
   go_wp2_with (first
    |(refine wpList_load_mid rfl 179 _ rfl (w.heap.size+1) 0 rfl (mvC id) _ r2 Tryz.underlying179 rfl i1 ?_)
    |(refine wpList_store_mid rfl 179 _ _ rfl w.heap.size 0 (mvC id).toArray rfl rfl t2 i2 (mvC_one _) ?_))
   have hrd:(wr.setCells w.heap.size 0 (mvC id)).rangeAt w.heap.size 0 (mvC id):=HX.out.1.range
   have hld:=run_loadVar_mid (P:=Tryz.prog) _ _ _ 179 _ _ hrd Tryz.underlying179 rfl i1
   refine⟨rfl,.agg (mvC id).toArray,?_,rfl,HX.out.2⟩
   show((results _ _).run _ _)=_
   simp[results,Tryz.f245,asAddr,hld]
theorem run_index_arr {P:Program} {t e:TypeId} {n:Nat} (h:P.underlying t=some (.array n e)) (hz:∀w,(Go.sizeOf e).run P w= .ok 1 w) (ha:∀w,(isAgg e).run P w= .ok false w) {cs:List Value} {i:Nat} {v:Value} (hi:i<n) (hv:cs[i]? =some v) (w:World):(Instr.index t (.agg cs.toArray) (.int .i64 (i:Int))).run P w= .ok v w:=by
 have hn:0≤(i:Int)∧(i:Int)<(n:Int):=by omega
 simp[Instr.index,run_underlying h,asIntOf,hn,go_sem,hv,hz,ha,hi]
theorem gthen_ok (x y:Nat→Nat) (w:World) (hx:∀i,i<7→x i<7) (hy:∀i,i<7→y i<7):
 Calls Tryz.prog 246 #[mvV x,mvV y] w fun e w'=>e= .returned (mvV fun i=>y (x i))∧Below w.heap.size w w':=by
 unfold mvV
 have hA1:Arr (((w.alloc (.cells (mvC x).toArray 179)).alloc (.cells (mvC y).toArray 179)).alloc (.cells (mvC fun _=>0).toArray 179)) w.heap.size 179 (mvC x):=((Arr.new w _ _).alloc _).alloc _
 have hA2:Arr (((w.alloc (.cells (mvC x).toArray 179)).alloc (.cells (mvC y).toArray 179)).alloc (.cells (mvC fun _=>0).toArray 179)) (w.alloc (.cells (mvC x).toArray 179)).heap.size 179 (mvC y):=(Arr.new _ _ _).alloc _
 have hA3:Arr (((w.alloc (.cells (mvC x).toArray 179)).alloc (.cells (mvC y).toArray 179)).alloc (.cells (mvC fun _=>0).toArray 179)) ((w.alloc (.cells (mvC x).toArray 179)).alloc (.cells (mvC y).toArray 179)).heap.size 179 (mvC fun _=>0):=Arr.new _ _ _
 have hb1:Below w.heap.size w (((w.alloc (.cells (mvC x).toArray 179)).alloc (.cells (mvC y).toArray 179)).alloc (.cells (mvC fun _=>0).toArray 179)):=(((Below.refl _ _).alloc (Nat.le_refl _) _).alloc (by simp) _).alloc (by simp;omega) _
 rw[World.size_alloc]at hA2
 rw[World.size_alloc,World.size_alloc]at hA3
 have r1:=hA1.range
 have i1:(Tryz.prog.info? 179).map (·.size)=some (mvC x).length:=by rw[mvC_len];exact mv_info
 go_enter Tryz.func246,Tryz.ntmps246
 go_wp2_with (first
  |(refine wpList_load_mid rfl 179 _ rfl w.heap.size 0 rfl (mvC x) _ r1 Tryz.underlying179 rfl i1 ?_)
  |fail)
 clear r1
 go_loopw [5,6,8] (fun _ _ i wr=>∃k:Nat,k≤7∧i= .int .i64 k∧Arr wr w.heap.size 179 (mvC fun i=>if i<k then y (x i)else x i)∧Arr wr (w.heap.size+1) 179 (mvC y)∧Arr wr (w.heap.size+1+1) 179 (mvC fun _=>0)∧Below w.heap.size w wr) (fun _ _ i _=>7-(intOf i).toNat)
 case atStart=>exact⟨0,by omega,rfl,by rw[mvC_congr (y:=x) (fun i _=>if_neg (by omega))];exact hA1,hA2,hA3,hb1⟩
 case round=>
  clear hb1 hA1 hA2 hA3
  obtain⟨k,hk,rfl,h1,h2,h3,hb⟩:=hrel
  by_cases hlt:k<7
  ·have hki:(k:Int)<7:=by omega
   have hxk:=mvC_get (x:=x) hlt
   have hxlt:=hx k hlt
   have hcy:=h2.cell (x k)
   rw[mvC_get hxlt]at hcy
   have hcell:=h1.cell k
   rw[mvC_get hlt]at hcell
   have hf:=h1.frozen k
   obtain⟨hs1,hg1⟩:=h1.stored k (.int .i64 ((y (x k):Nat):Int))
   rw[mvC_set (y:=fun i=>if i<k+1 then y (x i)else x i) hlt (if_pos (by omega)) (fun j hj=>by
    by_cases h:j<k
    ·rw[if_pos h,if_pos (by omega)]
    ·rw[if_neg h,if_neg (by omega)])]at hs1
   have HX:=hid (And.intro hs1 (And.intro (h2.kept hg1 (by simp)) (And.intro (h3.kept hg1 (by simp;omega)) (hb.grown hg1 hb.size (fun b e=>by cases e;omega)))))
   clear h1 h2 h3 hb hs1 hg1
   have hix:=fun w=>run_index_arr (P:=Tryz.prog) Tryz.underlying179 Tryz.sizeOf3 Tryz.isAgg3 hlt hxk w
   generalize y (x k)=yx at*
   generalize x k=xk at*
   generalize mvC x=cs at*
   go_wp2
   go_roundw
   case rel=>exact⟨k+1,by omega,by go_num,HX.out.1,HX.out.2.1,HX.out.2.2.1,HX.out.2.2.2⟩
   case measure=>simp[intOf]<;>omega
  ·have hki:¬(k:Int)<7:=by omega
   rw[mvC_congr (x:=fun i=>if i<k then y (x i)else x i) (y:=fun i=>y (x i)) (fun i hi=>if_pos (by omega))]at h1
   obtain⟨z,hzz⟩:∃z,(fun i=>y (x i))=z:=⟨_,rfl⟩
   rw[hzz]at h1
   have HZZ:=hid hzz
   clear hzz
   have r1:=h1.range
   have t1:=h3.there
   have hr1:=Arr.setCells (mvC z) [] (mvC fun _=>0) wr h3 (by rw[mvC_len,mvC_len])
   have hg1:=grown_setCells (b:=w.heap.size+1+1) (mvC z) 0 wr
   have HX:=hid (And.intro hr1 (hb.grown hg1 hb.size (fun b e=>by cases e;omega)))
   have i1:(Tryz.prog.info? 179).map (·.size)=some (mvC z).length:=by rw[mvC_len];exact mv_info
   have t2:wr.there (w.heap.size+1+1) 0 (mvC z).toArray.size:=by
    rw[mvC_arr]
    rw[mvC_len]at t1
    exact t1
   have i2:(Tryz.prog.info? 179).map (·.size)=some (mvC z).toArray.size:=by rw[mvC_arr];exact mv_info
   clear h1 h2 h3 hb hr1 hg1 t1
   go_wp2_with (first
    |(refine wpList_load_mid rfl 179 _ rfl w.heap.size 0 rfl (mvC z) _ r1 Tryz.underlying179 rfl i1 ?_)
    |(refine wpList_store_mid rfl 179 _ _ rfl (w.heap.size+1+1) 0 (mvC z).toArray rfl rfl t2 i2 (mvC_one _) ?_))
   have hrd:(wr.setCells (w.heap.size+1+1) 0 (mvC z)).rangeAt (w.heap.size+1+1) 0 (mvC z):=HX.out.1.range
   have hld:=run_loadVar_mid (P:=Tryz.prog) _ _ _ 179 _ _ hrd Tryz.underlying179 rfl i1
   refine⟨rfl,.agg (mvC z).toArray,?_,by rw[HZZ.out],HX.out.2⟩
   show((results _ _).run _ _)=_
   simp[results,Tryz.f246,asAddr,hld]
end Go.Proofs.YtnnaadmegeeinaaGreatDoor
namespace Go.Proofs.YtnnaadmegeeinaaGreatDoor
def compF (x m:Nat→Nat) (i:Nat):Nat:=m (x i)
theorem id_mv (n:Nat):Mv n id:=⟨⟨fun i h=>h,fun i j _ _ h=>h⟩,fun i _=>rfl⟩
theorem comp_mv {n:Nat} {x y:Nat→Nat} (P:Mv n x) (Q:Mv n y):Mv n (compF x y):=
 ⟨⟨fun i hi=>Q.pm.lt _ (P.pm.lt i hi),fun i j hi hj h=>P.pm.inj i j hi hj (Q.pm.inj _ _ (P.pm.lt i hi) (P.pm.lt j hj) h)⟩,fun i hi=>by unfold compF;rw[P.st i hi,Q.st i hi]⟩
inductive GenF (ms:List (Nat→Nat)):(Nat→Nat)→Prop
 |one:GenF ms id
 |step {x m:Nat→Nat}:GenF ms x→m∈ms→GenF ms (compF x m)
section
variable {n:Nat} {ms:List (Nat→Nat)} {x y:Nat→Nat}
theorem GenF.mv (hms:∀m∈ms,Mv n m) (h:GenF ms x):Mv n x:=by
 induction h with
 |one=>exact id_mv n
 |step _ hm ih=>exact comp_mv ih (hms _ hm)
theorem GenF.closed {G:(Nat→Nat)→Prop} (h1:G id) (h2:∀x,G x→∀m∈ms,G (compF x m)) (h:GenF ms x):G x:=by
 induction h with
 |one=>exact h1
 |step _ hm ih=>exact h2 _ ih _ hm
end
theorem rise_eq {α:Type} (key:α→Nat):∀(L L':List α),L.Pairwise (fun a b=>key a<key b)→L'.Pairwise (fun a b=>key a<key b)→(∀x,x∈L↔x∈L')→L=L'
 |[],[],_,_,_=>rfl
 |[],b::L',_,_,h=>absurd ((h b).2 (by simp)) (by simp)
 |a::L,[],_,_,h=>absurd ((h a).1 (by simp)) (by simp)
 |a::L,b::L',h1,h2,h=>by
  obtain⟨p1,p2⟩:=List.pairwise_cons.1 h1
  obtain⟨q1,q2⟩:=List.pairwise_cons.1 h2
  have hab:a=b:=by
   rcases List.mem_cons.1 ((h a).1 (by simp))with e|e
   ·exact e
   ·rcases List.mem_cons.1 ((h b).2 (by simp))with e2|e2
    ·exact e2.symm
    ·have:=p1 b e2
     have:=q1 a e
     omega
  subst hab
  rw[rise_eq key L L' p2 q2 (fun x=>⟨fun hx=> ?_,fun hx=> ?_⟩)]
  ·rcases List.mem_cons.1 ((h x).1 (by simp[hx]))with e|e
   ·subst e;have:=p1 x hx;omega
   ·exact e
  ·rcases List.mem_cons.1 ((h x).2 (by simp[hx]))with e|e
   ·subst e;have:=q1 x hx;omega
   ·exact e
open Classical in
noncomputable def GL (n:Nat) (ms:List (Nat→Nat)):List (Nat→Nat):=((List.range (fac n)).filter fun k=>decide (GenF ms (unF n k))).map (unF n)
section
variable {n:Nat} {ms:List (Nat→Nat)}
theorem mem_GL (hms:∀m∈ms,Mv n m) (x:Nat→Nat):x∈GL n ms↔GenF ms x:=by
 unfold GL
 simp only[List.mem_map,List.mem_filter,List.mem_range,decide_eq_true_eq]
 constructor
 ·rintro⟨k,⟨_,h⟩,rfl⟩
  exact h
 ·intro h
  have P:=h.mv hms
  refine⟨rkF n x,⟨rk_lt P.pm,?_⟩,un_rk P⟩
  rw[un_rk P]
  exact h
theorem GL_rise (n:Nat) (ms:List (Nat→Nat)):(GL n ms).Pairwise (fun a b=>rkF n a<rkF n b):=by
 unfold GL
 rw[List.pairwise_map]
 have h1:((List.range (fac n)).filter fun k=> @decide (GenF ms (unF n k)) (Classical.propDecidable _)).Pairwise (fun a b=>a<b∧a<fac n∧b<fac n):=by
  refine List.Pairwise.filter _ ?_
  refine List.Pairwise.imp_of_mem (fun{a b} ha hb h=>⟨h,List.mem_range.1 ha,List.mem_range.1 hb⟩) List.pairwise_lt_range
 refine h1.imp fun{a b} h=> ?_
 rw[rk_un h.2.1,rk_un h.2.2]
 exact h.1
theorem GL_uniq (hms:∀m∈ms,Mv n m) {L:List (Nat→Nat)} (h1:∀x,x∈L↔GenF ms x) (h2:L.Pairwise (fun a b=>rkF n a<rkF n b)):L=GL n ms:=
 rise_eq (rkF n) L _ h2 (GL_rise n ms) fun x=>by rw[h1,mem_GL hms]
end
end Go.Proofs.YtnnaadmegeeinaaGreatDoor
namespace Go.Proofs.YtnnaadmegeeinaaGreatDoor
structure BI (n:Nat) (ms l:List (Nat→Nat)) (i j:Nat):Prop where
 nd:l.Nodup
 one:id∈l
 gen:∀x∈l,GenF ms x
 far:∀k,k<i→∀m∈ms,compF (l.getD k id) m∈l
 now:∀t,t<j→compF (l.getD i id) (ms.getD t id)∈l
 il:i≤l.length
 mkm:∀m∈ms,Mv n m
section
variable {n:Nat} {ms l:List (Nat→Nat)} {i j:Nat}
theorem BI.start (h:∀m∈ms,Mv n m):BI n ms [id] 0 0:=
 ⟨by simp,by simp,fun x hx=>by rw[List.mem_singleton.1 hx];exact GenF.one,fun k hk=>by omega,fun t ht=>by omega,Nat.zero_le _,h⟩
theorem BI.len (h:BI n ms l i j):1≤l.length∧l.length≤fac n:=⟨List.length_pos_of_mem h.one,mv_many h.nd fun x hx=>(h.gen x hx).mv h.mkm⟩
theorem getD_mem {α:Type} {l:List α} {i:Nat} (h:i<l.length) (d:α):l.getD i d∈l:=by
 rw[List.getD_eq_getElem?_getD,List.getElem?_eq_getElem h]
 exact List.getElem_mem h
theorem getD_app {α:Type} {l:List α} {i:Nat} (h:i<l.length) (x d:α):(l++[x]).getD i d=l.getD i d:=by
 rw[List.getD_eq_getElem?_getD,List.getElem?_append_left h,←List.getD_eq_getElem?_getD]
theorem BI.mvI' (h:BI n ms l i j) (hi:i<l.length):Mv n (l.getD i id):=(h.gen _ (getD_mem hi id)).mv h.mkm
theorem BI.mvM (h:BI n ms l i j) (hj:j<ms.length):Mv n (ms.getD j id):=h.mkm _ (getD_mem hj id)
theorem BI.there (h:BI n ms l i j) (hx:compF (l.getD i id) (ms.getD j id)∈l):BI n ms l i (j+1):=
 ⟨h.nd,h.one,h.gen,h.far,fun t ht=>by
   by_cases e:t=j
   ·rw[e];exact hx
   ·exact h.now t (by omega),h.il,h.mkm⟩
theorem BI.add (h:BI n ms l i j) (hi:i<l.length) (hj:j<ms.length) (hx:¬compF (l.getD i id) (ms.getD j id)∈l):BI n ms (l++[compF (l.getD i id) (ms.getD j id)]) i (j+1):=by
 refine⟨?_,by simp[h.one],fun x hx=> ?_,fun k hk m hm=> ?_,fun t ht=> ?_,by simp;have:=h.il;omega,h.mkm⟩
 ·rw[List.nodup_append]
  refine⟨h.nd,by simp,fun a ha b hb e=> ?_⟩
  rw[List.mem_singleton.1 hb]at e
  rw[e]at ha
  exact hx ha
 ·rcases List.mem_append.1 hx with hx|hx
  ·exact h.gen x hx
  ·rw[List.mem_singleton.1 hx]
   exact(h.gen _ (getD_mem hi id)).step (getD_mem hj id)
 ·rw[getD_app (by omega)]
  exact List.mem_append_left _ (h.far k hk m hm)
 ·rw[getD_app hi]
  by_cases e:t=j
  ·rw[e];simp
  ·exact List.mem_append_left _ (h.now t (by omega))
theorem BI.next (h:BI n ms l i ms.length) (hi:i<l.length):BI n ms l (i+1) 0:=by
 refine⟨h.nd,h.one,h.gen,fun k hk m hm=> ?_,fun t ht=>by omega,by omega,h.mkm⟩
 by_cases e:k=i
 ·rw[e]
  obtain⟨t,ht,rfl⟩:=List.mem_iff_getElem.1 hm
  have:=h.now t ht
  rwa [List.getD_eq_getElem?_getD (l:=ms),List.getElem?_eq_getElem ht]at this
 ·exact h.far k (by omega) m hm
theorem BI.done (h:BI n ms l l.length j) (x:Nat→Nat):x∈l↔GenF ms x:=by
 refine⟨h.gen x,fun hx=>hx.closed (G:=fun y=>y∈l) h.one fun y hy m hm=> ?_⟩
 obtain⟨k,hk,rfl⟩:=List.mem_iff_getElem.1 hy
 have:=h.far k hk m hm
 rwa [List.getD_eq_getElem?_getD,List.getElem?_eq_getElem hk]at this
end
end Go.Proofs.YtnnaadmegeeinaaGreatDoor
namespace Go.Proofs.YtnnaadmegeeinaaGreatDoor
open Go.RowKit
def putL (vals:Nat→Value) (on:Nat→Bool):Nat→List Nat→Act→Act
 |_,[],a=>a
 |k,d::ds,a=>if on k then putL vals on (k+1) ds (a.put (some d) (vals k))else putL vals on (k+1) ds a
def putAll (vals:Nat→Value):Nat→List Nat→Act→Act
 |_,[],a=>a
 |k,d::ds,a=>putAll vals (k+1) ds (a.put (some d) (vals k))
theorem putL_all (vals:Nat→Value) (on:Nat→Bool):∀(ds:List Nat) (k:Nat) (a:Act),(∀j,k≤j→j<k+ds.length→on j=true)→putL vals on k ds a=putAll vals k ds a
 |[],k,a,_=>rfl
 |d::ds,k,a,h=>by
  unfold putL putAll
  rw[if_pos (h k (Nat.le_refl _) (by simp)),putL_all vals on ds (k+1) _ (fun j h1 h2=>h j (by omega) (by simp only[List.length_cons];omega))]
theorem putL_congr {vals vals':Nat→Value} {on on':Nat→Bool}:∀(ds:List Nat) (k:Nat) (a:Act),(∀j,k≤j→j<k+ds.length→on j=on' j∧(on j=true→vals j=vals' j))→putL vals on k ds a=putL vals' on' k ds a
 |[],k,a,_=>rfl
 |d::ds,k,a,h=>by
  obtain⟨h1,h2⟩:=h k (Nat.le_refl _) (by simp)
  have ih:=fun a=>putL_congr (vals:=vals) (vals':=vals') (on:=on) (on':=on') ds (k+1) a (fun j h1 h2=>h j (by omega) (by simp only[List.length_cons];omega))
  unfold putL
  rw[←h1]
  by_cases e:on k=true
  ·rw[if_pos e,if_pos e,ih,h2 e]
  ·rw[if_neg e,if_neg e,ih]
theorem putL_put {vals:Nat→Value} {on:Nat→Bool}:∀(ds:List Nat) (k:Nat) (a:Act) (d:Nat) (v:Value),(∀x∈ds,x≠d)→putL vals on k ds (a.put (some d) v)=(putL vals on k ds a).put (some d) v
 |[],k,a,d,v,_=>rfl
 |e::ds,k,a,d,v,h=>by
  have h1:=h e (by simp)
  unfold putL
  split
  ·rw[Act.put_comm a v (vals k) (by rintro x hx hy;cases hx;cases hy;exact h1 rfl),putL_put ds (k+1) _ d v (fun x hx=>h x (by simp[hx]))]
  ·rw[putL_put ds (k+1) _ d v (fun x hx=>h x (by simp[hx]))]
theorem putL_on {vals:Nat→Value} {on:Nat→Bool} {k d:Nat} {ds:List Nat} {a:Act} (h:on k=true):putL vals on k (d::ds) a=putL vals on (k+1) ds (a.put (some d) (vals k)):=by
 rw[putL,if_pos h]
theorem putL_off {vals:Nat→Value} {on:Nat→Bool} {k d:Nat} {ds:List Nat} {a:Act} (h:on k=false):putL vals on k (d::ds) a=putL vals on (k+1) ds a:=by
 rw[putL,if_neg (by rw[h];decide)]
theorem putL_set {vals:Nat→Value} {on:Nat→Bool} (v:Value):∀(ds:List Nat) (k i:Nat) (a:Act) (d:Nat),ds.Nodup→ds[i]? =some d→on (k+i)=false→
 putL (fun j=>if j=k+i then v else vals j) (fun j=>j==k+i||on j) k ds a=(putL vals on k ds a).put (some d) v
 |e::ds,k,0,a,d,hn,hd,ho=>by
  obtain rfl:e=d:=by simpa using hd
  have hn2:=List.nodup_cons.1 hn
  have ho:on k=false:=ho
  rw[putL_on (by simp),putL_off ho,←putL_put ds (k+1) a e v (fun x hx hxe=>hn2.1 (by rw[←hxe];exact hx))]
  have h0:(if k=k+0 then v else vals k)=v:=if_pos rfl
  rw[h0]
  refine putL_congr ds (k+1) _ fun j h1 h2=>⟨?_,fun _=>if_neg (by omega)⟩
  have:(j==k+0)=false:=by simp;omega
  rw[this,Bool.false_or]
 |e::ds,k,i+1,a,d,hn,hd,ho=>by
  have hn2:=List.nodup_cons.1 hn
  have he:(k==k+(i+1))=false:=by simp
  have hk:(if k=k+(i+1)then v else vals k)=vals k:=if_neg (by omega)
  have ih:=fun a=>putL_set (vals:=vals) (on:=on) v ds (k+1) i a d hn2.2 (by simpa using hd) (by rw[show k+1+i=k+(i+1)by omega];exact ho)
  rw[show k+1+i=k+(i+1)by omega]at ih
  cases h:on k with
  |true=>rw[putL_on (by simp[h]),putL_on h,ih,hk]
  |false=>rw[putL_off (by simp[h]),putL_off h,ih]
theorem put_getD {a:Act} {d t:Nat} {v:Value} (h:d≠t):(a.put (some d) v).tmps.getD t undef=a.tmps.getD t undef:=by
 show(a.tmps.setIfInBounds d v).getD t undef=_
 simp[h]
theorem putL_frame {vals:Nat→Value} {on:Nat→Bool} {t:Nat}:∀(ds:List Nat) (k:Nat) (a:Act),ds.contains t=false→(putL vals on k ds a).tmps.getD t undef=a.tmps.getD t undef
 |[],k,a,_=>rfl
 |d::ds,k,a,h=>by
  simp only[List.contains_cons,Bool.or_eq_false_iff]at h
  have hne:d≠t:=fun e=>by rw[e]at h;simp at h
  unfold putL
  split
  ·rw[putL_frame ds (k+1) _ h.2,put_getD hne]
  ·rw[putL_frame ds (k+1) _ h.2]
theorem putL_get {vals:Nat→Value} {on:Nat→Bool}:∀(ds:List Nat) (k i:Nat) (a:Act) (d:Nat),ds.Nodup→ds[i]? =some d→d<a.tmps.size→on (k+i)=true→(putL vals on k ds a).tmps.getD d undef=vals (k+i)
 |e::ds,k,0,a,d,hn,hd,hs,ho=>by
  obtain rfl:e=d:=by simpa using hd
  have hn2:=List.nodup_cons.1 hn
  unfold putL
  rw[if_pos (by simpa using ho),putL_frame ds (k+1) _ (by rw[←Bool.not_eq_true,List.contains_iff_mem];exact hn2.1)]
  show(a.tmps.setIfInBounds e (vals k)).getD e undef=vals k
  simp[hs]
 |e::ds,k,i+1,a,d,hn,hd,hs,ho=>by
  have hn2:=List.nodup_cons.1 hn
  have ih:=fun a hs=>putL_get (vals:=vals) (on:=on) ds (k+1) i a d hn2.2 (by simpa using hd) hs (by rw[show k+1+i=k+(i+1)by omega];exact ho)
  rw[show k+1+i=k+(i+1)by omega]at ih
  unfold putL
  split
  ·exact ih _ (by show d<(a.tmps.setIfInBounds e _).size;simpa using hs)
  ·exact ih _ hs
def StepD (P:Program) (ops:Array Oper) (ds:List Nat) (R:Nat→Value→World→Prop) (Q:Exit→Act→World→Prop) (a0:Act) (W:World) (k:Nat) (o:Oper):Prop:=
 ∀(a:Act) (w:World) (K:Act→World→Prop),Below W.heap.size W w→(∀t,ds.contains t=false→a.tmps.getD t undef=a0.tmps.getD t undef)→
  (∀j,j<ds.length→Region.waitsFor .any ops k j=true→R j (a.tmps.getD (ds.getD j 0) undef) w)→
  (∀v w',R k v w'→Below w.heap.size w w'→K (a.put o.dst v) w')→Oper.wp P o a w K Q
def StepsD (P:Program) (ops:Array Oper) (ds:List Nat) (R:Nat→Value→World→Prop) (Q:Exit→Act→World→Prop) (a0:Act) (W:World):Nat→List Oper→Prop
 |_,[]=>True
 |k,o::os=>StepD P ops ds R Q a0 W k o∧StepsD P ops ds R Q a0 W (k+1) os
theorem StepsD.get {P:Program} {ops:Array Oper} {ds:List Nat} {R:Nat→Value→World→Prop} {Q:Exit→Act→World→Prop} {a0:Act} {W:World}:∀(os:List Oper) (k i:Nat) (o:Oper),StepsD P ops ds R Q a0 W k os→os[i]? =some o→StepD P ops ds R Q a0 W (k+i) o:=by
 intro os
 induction os with
 |nil=>intro k i o h e;simp at e
 |cons x os ih=>
  intro k i o h e
  rw[StepsD]at h
  cases i with
  |zero=>
   rw[List.getElem?_cons_zero]at e
   cases e
   rw[Nat.add_zero]
   exact h.1
  |succ i=>
   rw[List.getElem?_cons_succ]at e
   have:=ih (k+1) i o h.2 e
   rw[show k+1+i=k+(i+1)by omega]at this
   exact this
def firstB (N n:Nat):Array Bool:=((List.range N).map fun j=>decide (j<n)).toArray
def forwardB (l:List Oper):Bool:=(List.range l.length).all fun i=>match l[i]? with
 |some o=>o.after.all fun e=> !Region.binds .any e||decide (e.on<i)
 |none=>true
def dagB (l:List Oper) (ds:List Nat):Bool:=
 decide (ds.length<l.length)&&Region.sinkB .any l.toArray ds.length&&Region.chainB .any l.toArray ds.length&&Region.seqB .any l.toArray (l.length-ds.length) ds.length (firstB l.length ds.length)
  &&((l.take ds.length).map (·.dst)==ds.map some)&&(l.take ds.length).all (fun o=>o.guard.isNone)&&decide ds.Nodup&&forwardB l
theorem region_dag {P:Program} {Q:Exit→Act→World→Prop} {id:Nat} {a0:Act} {w:World} {l:List Oper} (ds:List Nat) (R:Nat→Value→World→Prop) (hm:P.follows .mixedOrders=true) (hB:dagB l ds=true)
 (hsz:∀d∈ds,d<a0.tmps.size)
 (hkeep:∀j v w1 w2,R j v w1→w.heap.size≤w1.heap.size→Below w1.heap.size w1 w2→R j v w2)
 (hstep:StepsD P l.toArray ds R Q a0 w 0 (l.take ds.length))
 (hend:∀vals w',(∀j,j<ds.length→R j (vals j) w')→Below w.heap.size w w'→wpList P l.toArray Q (l.drop ds.length) (putAll vals 0 ds a0) w'):(Code.region id l.toArray true).wp P Q a0 w:=by
 simp only[dagB,Bool.and_eq_true,decide_eq_true_eq,beq_iff_eq]at hB
 obtain⟨⟨⟨⟨⟨⟨⟨hn,hs⟩,hc⟩,hseq⟩,hdst⟩,hgd⟩,hnd⟩,hfw⟩:=hB
 have hn':ds.length<l.toArray.size:=by simpa using hn
 refine wp_region_any hm ?_
 have main:∀(f:Nat) (listed:Array Bool) (a:Act) (w1:World),HeadInv .any l.toArray ds.length listed→((List.range ds.length).filter (fun j=> !listed.getD j false)).length=f→
  (∃vals,a=putL vals (fun j=>listed.getD j false) 0 ds a0∧(∀j,j<ds.length→listed.getD j false=true→R j (vals j) w1)∧Below w.heap.size w w1)→wpAny P .any l.toArray Q (f+(l.length-ds.length)) listed a w1:=by
  intro f
  induction f with
  |zero=>
   rintro listed a w1 inv hf ⟨vals,rfl,hR,hb⟩
   have hall:∀j,j<ds.length→listed.getD j false=true:=fun j hj=>by
    have h0:=List.eq_nil_of_length_eq_zero hf
    rw[List.filter_eq_nil_iff]at h0
    have:=h0 j (List.mem_range.2 hj)
    simpa using this
   have hl:listed=firstB l.length ds.length:=by
    refine Array.ext (by rw[inv.size];simp[firstB]) fun j h1 h2=> ?_
    have e2:(firstB l.length ds.length)[j]=decide (j<ds.length):=by simp[firstB]
    rw[e2]
    by_cases hj:j<ds.length
    ·have:=hall j hj
     simp only[hj,decide_true]
     simpa [h1]using this
    ·have:=inv.tail j (by omega) (by rw[←inv.size];exact h1)
     simp only[hj,decide_false]
     simpa [h1]using this
   rw[Nat.zero_add]
   have h3:=wpAny_of_seq (P:=P) (md:= .any) (ops:=l.toArray) (Q':=Q) (l.drop ds.length) ds.length (firstB l.length ds.length) (putAll vals 0 ds a0) w1 (fun j=>by simp[List.getElem?_drop]) (by rw[List.length_drop];exact hseq) (hend vals w1 (fun j hj=>hR j hj (hall j hj)) hb)
   rw[List.length_drop]at h3
   rw[putL_all vals _ ds 0 a0 (fun j _ hj=>hall j (by omega)),hl]
   exact h3
  |succ f ih=>
   rintro listed a w1 inv hf ⟨vals,rfl,hR,hb⟩
   obtain⟨j0,hj0⟩:∃j,j∈(List.range ds.length).filter (fun j=> !listed.getD j false):=List.exists_mem_of_length_pos (by omega)
   obtain⟨hj1,hj2⟩:=List.mem_filter.1 hj0
   have hj1:=List.mem_range.1 hj1
   have hj2:listed.getD j0 false=false:=by simpa using hj2
   have hj3:=getD_in (by rw[inv.size];omega) hj2
   rw[show f+1+(l.length-ds.length)=(f+(l.length-ds.length))+1 by omega]
   have htail:=tail_waits hs hc hn' inv _ j0 rfl hj1 hj3
   refine⟨fun h0=> ?_,fun i hi=> ?_⟩
   ·
    exfalso
    have hex:∃i,i<ds.length∧listed.getD i false=false∧∀j,j<i→listed.getD j false=true:=by
     have:∀n,(∃i,i<n∧listed.getD i false=false∧∀j,j<i→listed.getD j false=true)∨∀j,j<n→listed.getD j false=true:=by
      intro n
      induction n with
      |zero=>exact .inr fun j hj=>by omega
      |succ n ih=>
       rcases ih with⟨i,h1,h2⟩|h
       ·exact .inl ⟨i,by omega,h2⟩
       ·cases e:listed.getD n false with
        |false=>exact .inl ⟨n,by omega,e,h⟩
        |true=>
         refine .inr fun j hj=> ?_
         by_cases hjn:j=n
         ·rw[hjn];exact e
         ·exact h j (by omega)
     rcases this ds.length with h|h
     ·exact h
     ·rw[h j0 hj1]at hj2;cases hj2
    obtain⟨i,hi1,hi2,hi3⟩:=hex
    have hil:i<l.length:=by omega
    have hr:i∈Region.ready .any l.toArray listed:=by
     refine mem_ready.2 ⟨getD_in (by rw[inv.size];simpa using hil) hi2,l[i],by simp[hil],fun e he hbd=> ?_⟩
     have h1:=List.all_eq_true.1 hfw i (List.mem_range.2 hil)
     rw[List.getElem?_eq_getElem hil]at h1
     have h2:=Array.all_eq_true_iff_forall_mem.1 h1 e he
     rw[hbd]at h2
     exact hi3 _ (by simpa using h2)
    rw[h0]at hr
    cases hr
   ·have hin:i<ds.length:=by
     rcases Nat.lt_or_ge i ds.length with h|h
     ·exact h
     ·exact absurd hi (htail i h)
    obtain⟨hun,o,ho,hall⟩:=mem_ready.1 hi
    have hun':listed.getD i false=false:=getD_both hun
    have ho':(l.take ds.length)[i]? =some o:=by rw[List.getElem?_take_of_lt hin];simpa using ho
    obtain⟨d,hd⟩:∃d,ds[i]? =some d:=⟨ds[i],List.getElem?_eq_getElem hin⟩
    have hod:o.dst=some d:=by
     have h1:=congrArg (fun x=>x[i]?) hdst
     simp only[List.getElem?_map,ho',hd,Option.map_some,Option.some.injEq]at h1
     exact h1
    have hog:o.guard=none:=by
     have:=List.all_eq_true.1 hgd o (List.mem_of_getElem? ho')
     simpa using this
    have hst:=StepsD.get _ 0 i o hstep ho'
    rw[Nat.zero_add]at hst
    have hst2:=hst (putL vals (fun j=>listed.getD j false) 0 ds a0) w1 (wpAny P .any l.toArray Q (f+(l.length-ds.length)) (listed.setIfInBounds i true)) hb (fun t ht=>putL_frame ds 0 a0 ht) ?_ ?_
    ·unfold wpOp
     simp only[ho]
     rw[if_pos (by simp[Region.wanted,hog])]
     exact .inl hst2
    ·intro j hj hw
     obtain⟨oj,hoj,e,he,hbd,hon⟩:=Region.waitsFor_spec hw
     have:oj=o:=Option.some.inj (hoj.symm.trans ho)
     subst this
     have hlj:=hall e he hbd
     rw[hon]at hlj
     obtain⟨dj,hdj⟩:∃d,ds[j]? =some d:=⟨ds[j],List.getElem?_eq_getElem hj⟩
     rw[List.getD_eq_getElem?_getD,hdj,Option.getD_some,putL_get ds 0 j a0 dj hnd hdj (hsz _ (List.mem_of_getElem? hdj)) (by rw[Nat.zero_add];exact hlj),Nat.zero_add]
     exact hR j hj hlj
    ·intro v w2 hv hb2
     refine ih _ _ _ (inv.set hi hin) ?_ ⟨fun j=>if j=i then v else vals j,?_,?_,hb.trans (hb2.mono hb.size)⟩
     ·have key:∀n,i<n→((List.range n).filter (fun j=> !(listed.setIfInBounds i true).getD j false)).length+1=((List.range n).filter (fun j=> !listed.getD j false)).length:=by
       intro n
       induction n with
       |zero=>intro h;omega
       |succ n ihn=>
        intro h
        rw[List.range_succ,List.filter_append,List.filter_append,List.length_append,List.length_append]
        by_cases hin2:i=n
        ·subst hin2
         have e1:(List.range i).filter (fun j=> !(listed.setIfInBounds i true).getD j false)=(List.range i).filter (fun j=> !listed.getD j false):=List.filter_congr fun j hj=>by
          rw[getD_set_ne false (by have:=List.mem_range.1 hj;omega)]
         have e2:(listed.setIfInBounds i true).getD i false=true:=by
          have:i<listed.size:=by rw[inv.size];omega
          simp[this]
         rw[e1]
         simp only[List.filter_cons,List.filter_nil,e2,hun']
         simp
        ·have:=ihn (by omega)
         have e2:(listed.setIfInBounds i true).getD n false=listed.getD n false:=getD_set_ne false hin2
         simp only[List.filter_cons,List.filter_nil,e2]
         omega
      have:=key ds.length hin
      omega
     ·have h1:=putL_set (vals:=vals) (on:=fun j=>listed.getD j false) v ds 0 i a0 d hnd hd (by rw[Nat.zero_add];exact hun')
      rw[Nat.zero_add]at h1
      rw[hod,←h1]
      refine putL_congr ds 0 a0 fun j _ hj=>⟨?_,fun _=>rfl⟩
      by_cases e:j=i
      ·subst e
       have:j<listed.size:=by rw[inv.size];omega
       simp[this]
      ·rw[getD_set_ne false (Ne.symm e)]
       simp[e]
     ·intro j hj hl
      by_cases e:j=i
      ·subst e
       show R j (if j=j then v else vals j) w2
       rw[if_pos rfl]
       exact hv
      ·show R j (if j=i then v else vals j) w2
       rw[if_neg e]
       rw[getD_set_ne false (Ne.symm e)]at hl
       exact hkeep j _ w1 w2 (hR j hj hl) hb.size hb2
 have inv0:HeadInv .any l.toArray ds.length (Array.replicate l.toArray.size false):=
  ⟨by simp,fun j oj _ hl=>(by rw[getD_replicate_false]at hl;cases hl),fun t _ ht=>getD_in (by simpa using ht) (getD_replicate_false _ _)⟩
 have hcount:((List.range ds.length).filter (fun j=> !(Array.replicate l.toArray.size false).getD j false)).length=ds.length:=by
  rw[List.filter_eq_self.2 (fun j _=>by rw[getD_replicate_false];rfl),List.length_range]
 have h9:=main ds.length _ a0 {w with drawn:=w.drawn+1} inv0 hcount ⟨fun _=>undef,?_,fun j _ hl=> ?_,?_⟩
 ·rw[show l.toArray.size=ds.length+(l.length-ds.length)by simp;omega]
  rw[show ds.length+(l.length-ds.length)=l.length by omega]at h9⊢
  simpa using h9
 ·have:∀(ds:List Nat) (k:Nat),putL (fun _=>undef) (fun j=>(Array.replicate l.toArray.size false).getD j false) k ds a0=a0:=by
   intro ds
   induction ds with
   |nil=>intro k;rfl
   |cons d ds ih=>
    intro k
    unfold putL
    rw[if_neg (by rw[getD_replicate_false];decide)]
    exact ih (k+1)
  exact(this ds 0).symm
 ·rw[getD_replicate_false]at hl;cases hl
 ·exact(Below.refl _ _).drew
def Kp (B:Nat) (r:Value→World→Prop):Prop:=∀v w1 w2,r v w1→B≤w1.heap.size→Below w1.heap.size w1 w2→r v w2
theorem Kp_eq {B:Nat} (c:Value):Kp B (fun v _=>v=c):=fun _ _ _ h _ _=>h
def KpL (B:Nat):List (Value→World→Prop)→Prop
 |[]=>True
 |r::rs=>Kp B r∧KpL B rs
def AllD (vals:Nat→Value) (w:World):Nat→List (Value→World→Prop)→Prop
 |_,[]=>True
 |k,r::rs=>r (vals k) w∧AllD vals w (k+1) rs
def nthD (Rl:List (Value→World→Prop)) (k:Nat) (v:Value) (w:World):Prop:=Rl.getD k (fun _ _=>True) v w
theorem KpL.get {B:Nat}:∀(Rl:List (Value→World→Prop)) (j:Nat),KpL B Rl→Kp B (nthD Rl j)
 |[],j,_=>fun _ _ _ _ _ _=>by simp[nthD]
 |r::rs,0,h=>h.1
 |r::rs,j+1,h=>KpL.get rs j h.2
theorem AllD.of {vals:Nat→Value} {w:World}:∀(Rl:List (Value→World→Prop)) (k:Nat),(∀j,j<Rl.length→nthD Rl j (vals (k+j)) w)→AllD vals w k Rl
 |[],k,_=>trivial
 |r::rs,k,h=>⟨h 0 (by simp),AllD.of rs (k+1) fun j hj=>by
  have:=h (j+1) (by simpa using hj)
  rwa [show k+(j+1)=k+1+j by omega]at this⟩
theorem region_dagL {P:Program} {Q:Exit→Act→World→Prop} {id:Nat} {a0:Act} {w:World} {l:List Oper} (ds:List Nat) (Rl:List (Value→World→Prop)) (hm:P.follows .mixedOrders=true) (hB:dagB l ds=true)
 (hl:Rl.length=ds.length) (hsz:ds.all (fun d=>decide (d<a0.tmps.size))=true) (hkeep:KpL w.heap.size Rl)
 (hstep:StepsD P l.toArray ds (nthD Rl) Q a0 w 0 (l.take ds.length))
 (hend:∀vals w',AllD vals w' 0 Rl→Below w.heap.size w w'→wpList P l.toArray Q (l.drop ds.length) (putAll vals 0 ds a0) w'):(Code.region id l.toArray true).wp P Q a0 w:=
 region_dag ds (nthD Rl) hm hB (fun d hd=>of_decide_eq_true (List.all_eq_true.1 hsz d hd)) (fun j v w1 w2 h h1 h2=>KpL.get Rl j hkeep v w1 w2 h h1 h2) hstep
  fun vals w' h hb=>hend vals w' (AllD.of Rl 0 fun j hj=>by rw[Nat.zero_add];exact h j (by omega)) hb
section
variable {P:Program} {o:Oper} {a:Act} {w:World} {K:Act→World→Prop} {Q:Exit→Act→World→Prop}
theorem ev_tmp {t:Nat} {v:Value} (h:a.tmps.getD t undef=v):a.tmps[t]?.getD undef=v:=by
 rw[←Array.getD_eq_getD_getElem?]
 exact h
theorem dag_val (v:Value) (hr:(execOp a.eval o).run P w= .ok (.value v) w) (hK:K (a.put o.dst v) w):Oper.wp P o a w K Q:=by
 unfold Oper.wp
 rw[hr]
 exact hK
theorem dag_move (x:Operand) (ho:o.op= .move x) (hK:K (a.put o.dst (a.eval x)) w):Oper.wp P o a w K Q:=dag_val _ (by unfold execOp;rw[ho];rfl) hK
theorem dag_call (f:Nat) (args:Array Operand) (ty:Array TypeId) (vs:Array Value) (ho:o.op= .call {callee:= .value (.func f),args:=args,argTypes:=ty}) (ha:args.map a.eval=vs) (fn:Func) (hf:P.funcs[f]? =some fn) (h1:(fn.name== "runtime.NumGoroutine")=false) (h2:fn.body.isNone=false) (H:Calls P f vs w fun e w'=>∃v,e= .returned v∧K (a.put o.dst v) w'):Oper.wp P o a w K Q:=by
 unfold Oper.wp
 have:(execOp a.eval o).run P w= .ok (.enter f vs) w:=by
  unfold execOp
  rw[ho]
  have h3:fn.name≠ "runtime.NumGoroutine" :=by simpa using h1
  have h4:fn.body≠none:=by intro e;rw[e]at h2;cases h2
  simp[resolve,Act.eval,ha,go_sem,callFunc,hf,h3,h4]
 rw[this]
 refine H.mono ?_
 rintro e w' ⟨v,rfl,h⟩
 exact h
end
end Go.Proofs.YtnnaadmegeeinaaGreatDoor
