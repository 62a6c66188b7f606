/-
  Part 26 of a proof: what it proves stands in the last text.
-/
import Derived.Test.YtnnaadmegeeinaaGreatDoorZy
set_option linter.unusedVariables false
set_option maxHeartbeats 8000000
set_option maxRecDepth 100000
namespace Go.Proofs.YtnnaadmegeeinaaGreatDoor
open Go.RowKit
def shD (P t b l:Nat):Nat:=(b+(P-t)*l)%P
def shT (P K:Nat) (low a:List Nat) (j:Nat):List Nat:=(List.range 7).map fun i=>if i<j then shD P (a.getD (K-1) 0) (if 0<i then a.getD (i-1) 0 else 0) (low.getD i 0)else 0
theorem shT_len (P K:Nat) (low a:List Nat) (j:Nat):(shT P K low a j).length=7:=by simp[shT]
theorem shT_get {P K:Nat} {low a:List Nat} {j i:Nat} (h:i<7):(shT P K low a j).getD i 0=if i<j then shD P (a.getD (K-1) 0) (if 0<i then a.getD (i-1) 0 else 0) (low.getD i 0)else 0:=by
 rw[List.getD_eq_getElem?_getD,shT,List.getElem?_map,List.getElem?_range h]
 rfl
theorem shT_zero (P K:Nat) (low a:List Nat):shT P K low a 0=List.replicate 7 0:=by simp[shT];rfl
theorem shT_succ {P K:Nat} {low a:List Nat} {j:Nat}:shT P K low a (j+1)=(shT P K low a j).set j (shD P (a.getD (K-1) 0) (if 0<j then a.getD (j-1) 0 else 0) (low.getD j 0)):=by
 apply List.ext_getElem
 ·simp[shT_len]
 ·intro i h1 h2
  rw[shT_len]at h1
  simp only[shT,List.getElem_map,List.getElem_range,List.getElem_set]
  by_cases e:j=i
  ·subst e;simp
  ·by_cases e2:i<j
   ·rw[if_pos (by omega),if_neg e,if_pos e2]
   ·rw[if_neg (by omega),if_neg e,if_neg e2]
theorem shT_lt {P K:Nat} {low a:List Nat} (hP:1≤P) (n:Nat):∀j,(shT P K low a n).getD j 0<P:=by
 intro j
 by_cases h:j<7
 ·rw[shT_get h]
  split
  ·exact Nat.mod_lt _ (by omega)
  ·exact hP
 ·rw[List.getD_eq_getElem?_getD,List.getElem?_eq_none (by rw[shT_len];omega)]
  exact hP
theorem List.set_twice {α:Type} (l:List α) (j:Nat) (x y:α):(l.set j x).set j y=l.set j y:=by simp
theorem shift_ok (P K Q:Nat) (u:Value) (low a:List Nat) (w:World) (hu:Sl w u (nZ low)) (hP:2≤P) (hP2:P≤64) (hK:1≤K) (hK6:K≤6) (hlow:low.length=K) (hll:∀j,low.getD j 0<P) (ha:a.length=7) (hal:∀j,a.getD j 0<P):
 Calls Tryz.prog 237 #[rmV P K u Q,.agg (pv a).toArray] w fun e w'=>e= .returned (.agg (pv (shT P K low a K)).toArray)∧Below w.heap.size w w':=by
 have HLEN:=hid (shT_len P K low a)
 have HSTEP:=hid (fun j=>shT_succ (P:=P) (K:=K) (low:=low) (a:=a) (j:=j))
 have HZ:=hid (shT_zero P K low a)
 have HOLD:=hid (fun j (h:j<7)=>(shT_get (P:=P) (K:=K) (low:=low) (a:=a) (j:=j) h).trans (if_neg (by omega)))
 have HAL:=hid hal
 have HLL:=hid hll
 have HA7:=hid ha
 obtain⟨T,hT⟩:∃T,T=shT P K low a:=⟨_,rfl⟩
 have HR:Hid (pv (shT P K low a K)=pv (T K)):=hid (by rw[hT])
 rw[←hT]at HLEN HSTEP HZ HOLD
 obtain⟨sa,c,N,rfl,hN,hl1,hl2⟩:=hu.open
 obtain rfl:N=K:=by rw[←hN.out,nZ_len];exact hlow
 have HDN:Hid (∀j,(nZ low)[j]?.getD 0=((low.getD j 0:Nat):Int)):=hid (fun j=>by rw[←nZ_getD,List.getD_eq_getElem?_getD])
 rw[HR.out]
 clear hT HR hlow hll hal
 have n0:(N:Int)-1=((N-1:Nat):Int):=by omega
 have hpa:(pv a)[N-1]? =some (.int .i64 ((a.getD (N-1) 0:Nat):Int)):=pv_get (by omega)
 have h17:((N-1:Nat):Int)<7:=by omega
 have ht:=HAL.out (N-1)
 generalize a.getD (N-1) 0=t at*
 have hA1:=(Arr.new w 172 [.int .i64 (P:Int),.int .i64 (N:Int),.slice sa N c,.int .i64 (Q:Int)])
 have hA2:=(Arr.new (w.alloc (.cells #[.int .i64 (P:Int),.int .i64 (N:Int),.slice sa N c,.int .i64 (Q:Int)] 172)) 168 (pv a))
 have hA3:=Arr.new ((w.alloc (.cells #[.int .i64 (P:Int),.int .i64 (N:Int),.slice sa N c,.int .i64 (Q:Int)] 172)).alloc (.cells (pv a).toArray 168)) 168 (pv (List.replicate 7 0))
 have hA4:=Arr.new (((w.alloc (.cells #[.int .i64 (P:Int),.int .i64 (N:Int),.slice sa N c,.int .i64 (Q:Int)] 172)).alloc (.cells (pv a).toArray 168)).alloc (.cells (pv (List.replicate 7 0)).toArray 168)) 168 (pv (List.replicate 7 0))
 have hb:=((((Below.refl w.heap.size w).alloc (Nat.le_refl _) (.cells #[.int .i64 (P:Int),.int .i64 (N:Int),.slice sa N c,.int .i64 (Q:Int)] 172)).alloc (by simp) (.cells (pv a).toArray 168)).alloc (by simp;omega) (.cells (pv (List.replicate 7 0)).toArray 168)).alloc (by simp;omega) (.cells (pv (List.replicate 7 0)).toArray 168)
 have hs1:=World.size_alloc w (.cells #[.int .i64 (P:Int),.int .i64 (N:Int),.slice sa N c,.int .i64 (Q:Int)] 172)
 have hs2:=World.size_alloc (w.alloc (.cells #[.int .i64 (P:Int),.int .i64 (N:Int),.slice sa N c,.int .i64 (Q:Int)] 172)) (.cells (pv a).toArray 168)
 have hs3:=World.size_alloc ((w.alloc (.cells #[.int .i64 (P:Int),.int .i64 (N:Int),.slice sa N c,.int .i64 (Q:Int)] 172)).alloc (.cells (pv a).toArray 168)) (.cells (pv (List.replicate 7 0)).toArray 168)
 rw[hs1]at hs2 hA2
 rw[hs2]at hs3 hA3
 rw[hs3]at hA4
 have HS:=hid (And.intro (((hA1.alloc (.cells (pv a).toArray 168)).alloc (.cells (pv (List.replicate 7 0)).toArray 168)).alloc (.cells (pv (List.replicate 7 0)).toArray 168)) (And.intro ((hA2.alloc (.cells (pv (List.replicate 7 0)).toArray 168)).alloc (.cells (pv (List.replicate 7 0)).toArray 168)) (And.intro (hA3.alloc (.cells (pv (List.replicate 7 0)).toArray 168)) (And.intro hA4 hb))))
 clear hA1 hA2 hA3 hA4 hb hs1 hs2 hs3
 unfold rmV
 go_enter Tryz.func237,Tryz.ntmps237
 go_wp2
 clear hpa h17 n0
 go_loopw [7,17] (fun _ i wq=>∃j:Nat,j≤N∧i= .int .i64 j∧Arr wq w.heap.size 172 [.int .i64 (P:Int),.int .i64 (N:Int),.slice sa N c,.int .i64 (Q:Int)]∧Arr wq (w.heap.size+1) 168 (pv a)∧Arr wq (w.heap.size+1+1) 168 (pv (List.replicate 7 0))∧Arr wq (w.heap.size+1+1+1) 168 (pv (T j))∧Below w.heap.size w wq) (fun _ i _=>N-(intOf i).toNat)
 case atStart=>exact⟨0,by omega,rfl,HS.out.1,HS.out.2.1,HS.out.2.2.1,by rw[HZ.out];exact HS.out.2.2.2.1,HS.out.2.2.2.2⟩
 case round=>
  clear HS
  obtain⟨j,hj,rfl,hR,hA,hZ,hO,hb⟩:=hrel
  have hlI:=HLEN.out j
  by_cases hjl:j<N
  ·have hold:=HOLD.out j (by omega)
   have hcell:=hO.cell j
   rw[pv_get (by omega),hold]at hcell
   have hfz:=hO.frozen j
   have k0:=hR.cell 0
   have k2:=hR.cell 2
   simp only[List.getElem?_cons_zero,List.getElem?_cons_succ]at k0 k2
   obtain⟨b,off,rfl,hbl,hcl⟩:=hl2 (by omega)
   have hcd:=(hb.cell (p:=⟨b,off+j,none⟩) hbl).trans (hcl j hjl)
   rw[HDN.out]at hcd
   have hq2:=HLL.out j
   have hjN:(j:Int)<(N:Int):=by omega
   have hj7:(j:Int)<7:=by omega
   have hpt:(P:Int)-(t:Int)=((P-t:Nat):Int):=by omega
   have hml:(P-t)*low.getD j 0≤4096:=Nat.mul_le_mul (show P-t≤64 by omega) (show low.getD j 0≤64 by omega)
   have n2:((P-t:Nat):Int)*((low.getD j 0:Nat):Int)=(((P-t)*low.getD j 0:Nat):Int):=(Int.natCast_mul _ _).symm
   have hstep:=HSTEP.out j
   by_cases hj0:j=0
   ·subst hj0
    rw[if_neg (by omega),show shD P t 0 (low.getD 0 0)=((P-t)*low.getD 0 0)%P by unfold shD;rw[Nat.zero_add]]at hstep
    have hst2:=Arr.stored (w:=wr.drew) hO 0 (.int .i64 ((((P-t)*low.getD 0 0)%P:Nat):Int))
    rw[pv_set,←hstep]at hst2
    have HX:=hid (And.intro (Arr.kept (w:=wr.drew) hR hst2.2 (fun e=>by have:=Option.some.inj e;omega)) (And.intro (Arr.kept (w:=wr.drew) hA hst2.2 (fun e=>by have:=Option.some.inj e;omega)) (And.intro (Arr.kept (w:=wr.drew) hZ hst2.2 (fun e=>by have:=Option.some.inj e;omega)) (And.intro hst2.1 ((hb.drew).grown hst2.2 hb.size (fun k h=>by cases h;omega))))))
    have n4:(((P-t)*low.getD 0 0:Nat):Int).tmod (P:Int)=((((P-t)*low.getD 0 0)%P:Nat):Int):=(Int.ofNat_tmod _ _).symm
    have hcd:wr.drew.cell? ⟨b,off,none⟩=_:=hcd
    have hce:wr.drew.cell? ⟨w.heap.size+1+1+1,0,none⟩=_:=hcell
    have hfz:wr.drew.frozen? ⟨w.heap.size+1+1+1,0,none⟩=false:=hfz
    have k0:wr.drew.cell? ⟨w.heap.size,0,none⟩=_:=k0
    have k2:wr.drew.cell? ⟨w.heap.size,2,none⟩=_:=k2
    have hlr:=Nat.mod_lt ((P-t)*low.getD 0 0) (show 0<P by omega)
    clear hA hR hZ hO hb hst2 hstep hcl hl2 hcell
    generalize low.getD 0 0=lv at*
    generalize P-t=pt at*
    generalize pt*lv=prod at*
    generalize prod%P=r at*
    go_wp2
    go_region
    go_wp2
    go_roundw
    case rel=>exact⟨1,by omega,by go_num,HX.out⟩
    case measure=>simp[intOf]<;>omega
   ·rw[if_pos (by omega)]at hstep
    have hla:(pv a)[j-1]? =some (.int .i64 ((a.getD (j-1) 0:Nat):Int)):=pv_get (by omega)
    have hca:=(hA.cell (j-1)).trans hla
    have hav:=HAL.out (j-1)
    have hst1:=Arr.stored (w:=wr) hO j (.int .i64 ((a.getD (j-1) 0:Nat):Int))
    rw[pv_set]at hst1
    have n5:(j:Int)-1=((j-1:Nat):Int):=by omega
    have hj17:((j-1:Nat):Int)<7:=by omega
    have hjp:(0:Int)<(j:Int):=by omega
    have hR3:=Arr.kept (w:=wr) hR hst1.2 (fun e=>by have:=Option.some.inj e;omega)
    have hA3:=Arr.kept (w:=wr) hA hst1.2 (fun e=>by have:=Option.some.inj e;omega)
    have hZ3:=Arr.kept (w:=wr) hZ hst1.2 (fun e=>by have:=Option.some.inj e;omega)
    have hb3:=hb.grown hst1.2 hb.size (fun k h=>by cases h;omega)
    have HW3:=hid (And.intro hR3 (And.intro hA3 (And.intro hZ3 (And.intro hst1.1 hb3))))
    clear hR hA hZ hO hb hR3 hA3 hZ3 hst1 hb3 hla k0 k2 hcd
    generalize hav2:a.getD (j-1) 0=av at*
    clear hav2
    go_wp2
    generalize wr.setCell ⟨w.heap.size+1+1+1,j,none⟩ (.int .i64 (av:Int))=w3 at*
    obtain⟨hR,hA,hZ,hO,hb⟩:=HW3.out
    clear HW3 hcell hfz hca
    have hlen3:((T j).set j av).length=7:=by rw[List.length_set,hlI]
    have hcell:=hO.cell j
    rw[pv_get (by omega),show((T j).set j av).getD j 0=av by rw[List.getD_eq_getElem?_getD,List.getElem?_set_self (by omega)];rfl]at hcell
    have hfz:=hO.frozen j
    have k0:=hR.cell 0
    have k2:=hR.cell 2
    simp only[List.getElem?_cons_zero,List.getElem?_cons_succ]at k0 k2
    have hcd:=(hb.cell (p:=⟨b,off+j,none⟩) hbl).trans (hcl j hjl)
    rw[HDN.out]at hcd
    have hst2:=Arr.stored (w:=w3.drew) hO j (.int .i64 (((av+(P-t)*low.getD j 0)%P:Nat):Int))
    rw[pv_set,List.set_twice]at hst2
    unfold shD at hstep
    rw[←hstep]at hst2
    have HX:=hid (And.intro (Arr.kept (w:=w3.drew) hR hst2.2 (fun e=>by have:=Option.some.inj e;omega)) (And.intro (Arr.kept (w:=w3.drew) hA hst2.2 (fun e=>by have:=Option.some.inj e;omega)) (And.intro (Arr.kept (w:=w3.drew) hZ hst2.2 (fun e=>by have:=Option.some.inj e;omega)) (And.intro hst2.1 ((hb.drew).grown hst2.2 hb.size (fun k h=>by cases h;omega))))))
    have n3:(av:Int)+(((P-t)*low.getD j 0:Nat):Int)=((av+(P-t)*low.getD j 0:Nat):Int):=by omega
    have n4:((av+(P-t)*low.getD j 0:Nat):Int).tmod (P:Int)=(((av+(P-t)*low.getD j 0)%P:Nat):Int):=(Int.ofNat_tmod _ _).symm
    have hcd:w3.drew.cell? ⟨b,off+j,none⟩=_:=hcd
    have hce:w3.drew.cell? ⟨w.heap.size+1+1+1,j,none⟩=_:=hcell
    have hfz:w3.drew.frozen? ⟨w.heap.size+1+1+1,j,none⟩=false:=hfz
    have k0:w3.drew.cell? ⟨w.heap.size,0,none⟩=_:=k0
    have k2:w3.drew.cell? ⟨w.heap.size,2,none⟩=_:=k2
    have hlr:=Nat.mod_lt (av+(P-t)*low.getD j 0) (show 0<P by omega)
    clear hA hR hZ hO hb hst2 hstep hcl hl2 hcell
    generalize low.getD j 0=lv at*
    generalize P-t=pt at*
    generalize pt*lv=prod at*
    have hsm:av+prod≤5000:=by omega
    generalize av+prod=sm at*
    generalize sm%P=r at*
    go_region
    go_wp2
    go_roundw
    case rel=>exact⟨j+1,by omega,by go_num,HX.out⟩
    case measure=>simp[intOf]<;>omega
  ·obtain rfl:j=N:=by omega
   have r2:=hO.range
   have t1:=hZ.there
   rw[pv_len,List.length_replicate]at t1
   have hZ':Arr wr (w.heap.size+1+1) 168 ([]++pv (List.replicate 7 0)):=hZ
   have hr1:=Arr.setCells (pv (T j)) [] (pv (List.replicate 7 0)) wr hZ' (by rw[pv_len,pv_len,hlI,List.length_replicate])
   have hg1:=grown_setCells (b:=w.heap.size+1+1) (pv (T j)) 0 wr
   have HX:=hid (And.intro hr1 (hb.grown hg1 hb.size (fun b e=>by cases e;omega)))
   have i1:(Tryz.prog.info? 168).map (·.size)=some (pv (T j)).length:=by rw[pv_len,hlI];kernel_rfl
   have t2:wr.there (w.heap.size+1+1) 0 (pv (T j)).toArray.size:=by
    rw[show(pv (T j)).toArray.size=7 from List.size_toArray.trans ((pv_len (T j)).trans hlI)]
    exact t1
   have i2:(Tryz.prog.info? 168).map (·.size)=some (pv (T j)).toArray.size:=by rw[show(pv (T j)).toArray.size=(pv (T j)).length from List.size_toArray];exact i1
   clear hA hR hZ hO hb hZ' hr1 hg1 t1
   obtain⟨R,hRe⟩:∃R,R=T j:=⟨_,rfl⟩
   have HRE:=hid hRe
   rw[←hRe]at r2 i1 t2 i2 HX
   clear hRe
   go_wp2_with (first
    |(refine wpList_load_mid rfl 168 _ rfl (w.heap.size+1+1+1) 0 rfl (pv R) _ r2 Tryz.underlying168 rfl i1 ?_)
    |(refine wpList_store_mid rfl 168 _ _ rfl (w.heap.size+1+1) 0 (pv R).toArray rfl rfl t2 i2 (pv_one R) ?_))
   have hrd:(wr.setCells (w.heap.size+1+1) 0 (pv R)).rangeAt (w.heap.size+1+1) 0 (pv R):=HX.out.1.range
   have hld:=run_loadVar_mid (P:=Tryz.prog) _ _ _ 168 _ _ hrd Tryz.underlying168 rfl i1
   refine⟨rfl,.agg (pv R).toArray,?_,by rw[HRE.out],HX.out.2⟩
   show((results _ _).run _ _)=_
   simp only[Act.put]
   simp[results,Tryz.f237,asAddr,hld]
def mlX (P K:Nat) (low x:List Nat):Nat→List Nat
 |0=>x
 |i+1=>shT P K low (mlX P K low x i) K
def mlO (P K:Nat) (low x y:List Nat):Nat→List Nat
 |0=>List.replicate 7 0
 |i+1=>adL P (mlO P K low x y i) ((mlX P K low x i).map (·*y.getD i 0)) K
theorem mlX_len (P K:Nat) (low:List Nat) {x:List Nat} (h:x.length=7):∀i,(mlX P K low x i).length=7
 |0=>h
 |i+1=>shT_len _ _ _ _ _
theorem mlX_lt {P K:Nat} (low:List Nat) {x:List Nat} (hP:1≤P) (h:∀j,x.getD j 0<P):∀i,∀j,(mlX P K low x i).getD j 0<P
 |0=>h
 |i+1=>shT_lt hP _
theorem mlO_len (P K:Nat) (low x y:List Nat):∀i,(mlO P K low x y i).length=7
 |0=>by simp[mlO]
 |i+1=>adL_len _ _ _ _
theorem rep_lt {P:Nat} (hP:1≤P) (n j:Nat):(List.replicate n 0).getD j 0<P:=by
 rw[List.getD_eq_getElem?_getD,List.getElem?_replicate]
 split<;>exact hP
theorem mlO_lt {P K:Nat} (low x y:List Nat) (hP:1≤P):∀i,∀j,(mlO P K low x y i).getD j 0<P
 |0=>rep_lt hP 7
 |i+1=>adL_lt hP (mlO_lt low x y hP i) _
theorem getD_timesL (x:List Nat) (t j:Nat):(x.map (·*t)).getD j 0=x.getD j 0*t:=by
 simp only[List.getD_eq_getElem?_getD,List.getElem?_map]
 cases x[j]? <;>simp
def mulF (P K:Nat) (low:List Nat) (x y:Nat):Nat:=numL P ((mlO P K low (dgL P x 7) (dgL P y 7) K).take K)
theorem mul_ok (P K Q x y:Nat) (u:Value) (low:List Nat) (w:World) (hu:Sl w u (nZ low)) (hP:2≤P) (hP2:P≤64) (hK:1≤K) (hK6:K≤6) (hq:P^K≤64) (hlow:low.length=K) (hll:∀j,low.getD j 0<P) (hx:x<64) (hy:y<64):
 Calls Tryz.prog 185 #[rmV P K u Q,.int .i64 x,.int .i64 y] w fun e w'=>e= .returned (.int .i64 (mulF P K low x y))∧Below w.heap.size w w':=by
 have HSH:=hid (fun(w1:World) (hb:Below w.heap.size w w1) (a:List Nat) (ha:a.length=7) (hal:∀j,a.getD j 0<P)=>shift_ok P K Q u low a w1 (hu.below hb) hP hP2 hK hK6 hlow hll ha hal)
 have hu':∃a n c,u= .slice a n c:=by obtain⟨a,c,e⟩:=hu.len;exact⟨a,_,c,e⟩
 clear hu
 have hu:=hu'
 have hus:=hu
 obtain⟨xs,nn,c,rfl⟩:=hu
 have hR:Arr (w.alloc (.cells #[.int .i64 (P:Int),.int .i64 (K:Int),.slice xs nn c,.int .i64 (Q:Int)] 172)) w.heap.size 172 [.int .i64 (P:Int),.int .i64 (K:Int),.slice xs nn c,.int .i64 (Q:Int)]:=Arr.new _ _ _
 have hb:=((Below.refl w.heap.size w).alloc (Nat.le_refl _) (.cells #[.int .i64 (P:Int),.int .i64 (K:Int),.slice xs nn c,.int .i64 (Q:Int)] 172))
 have hbR:w.heap.size<(w.alloc (.cells #[.int .i64 (P:Int),.int .i64 (K:Int),.slice xs nn c,.int .i64 (Q:Int)] 172)).heap.size:=hR.lt
 have hd1:∀j,(dgL P x 7).getD j 0<P:=fun j=>dgL_lt hP _ _
 have hd2:∀j,(dgL P y 7).getD j 0<P:=fun j=>dgL_lt hP _ _
 have hl1:=dgL_len P x 7
 have hl2:=dgL_len P y 7
 have HX0:=hid (show mlX P K low (dgL P x 7) 0=dgL P x 7 from rfl)
 have HXS:=hid (fun i=>show mlX P K low (dgL P x 7) (i+1)=shT P K low (mlX P K low (dgL P x 7) i) K from rfl)
 have HXL:=hid (mlX_len P K low hl1)
 have HXT:=hid (mlX_lt (P:=P) (K:=K) low (by omega) hd1)
 have HO0:=hid (show mlO P K low (dgL P x 7) (dgL P y 7) 0=List.replicate 7 0 from rfl)
 have HOS:=hid (fun i=>show mlO P K low (dgL P x 7) (dgL P y 7) (i+1)=adL P (mlO P K low (dgL P x 7) (dgL P y 7) i) ((mlX P K low (dgL P x 7) i).map (·*(dgL P y 7).getD i 0)) K from rfl)
 have HOL:=hid (mlO_len P K low (dgL P x 7) (dgL P y 7))
 have HOT:=hid (mlO_lt (P:=P) (K:=K) low (dgL P x 7) (dgL P y 7) (by omega))
 have hQ:mulF P K low x y=numL P ((mlO P K low (dgL P x 7) (dgL P y 7) K).take K):=rfl
 unfold rmV
 go_enter Tryz.func185,Tryz.ntmps185
 go_wp2
 generalize w.alloc (.cells #[.int .i64 (P:Int),.int .i64 (K:Int),.slice xs nn c,.int .i64 (Q:Int)] 172)=w0 at*
 generalize hbe:w.heap.size=bR at*
 have HBE:Hid (w.heap.size=bR):=hid hbe
 clear hbe
 rename_i Q0 K0 hK0
 refine wp_region_any (by kernel_rfl) ?_
 refine digits_region (s0:=12) (n:=59) (P:=P) (x:=x) (y:=y) (bR:=bR) (by kernel_rfl) ⟨_,rfl,rfl,rfl,rfl⟩ ⟨_,rfl,rfl,rfl,rfl⟩ ⟨_,rfl,rfl,rfl,rfl⟩ ⟨_,rfl,rfl,rfl,rfl⟩ ⟨_,rfl,rfl,rfl,rfl⟩ ⟨_,rfl,rfl,rfl,rfl⟩ ⟨_,rfl,rfl,rfl,rfl⟩ ⟨_,rfl,rfl,rfl,rfl⟩ ⟨_,rfl,rfl,rfl,rfl⟩ ⟨_,rfl,rfl,rfl,rfl⟩ ⟨_,rfl,rfl,rfl,rfl⟩ ⟨_,rfl,rfl,rfl,rfl⟩ ⟨_,rfl,rfl,rfl,rfl⟩ ⟨_,rfl,rfl,rfl,rfl⟩ (by kernel_rfl) (by kernel_rfl) (by omega) (by omega) hP hP2 (by omega) (by omega) (by rfl) rfl (fun _ _ _ _=>rfl) rfl rfl rfl (by exact hR) rfl ?_
 refine by_slots (P:=fun a' w' b7 b8=>_) ?_
 intro f w1 b7 b8 hT e7 e8 hb7 hb8 hne A7 A8 AR hbel
 have e0:=hT 0 (by decide) (by decide) (by decide)
 have e1:=hT 1 (by decide) (by decide) (by decide)
 have e2:=hT 2 (by decide) (by decide) (by decide)
 have e3:=hT 3 (by decide) (by decide) (by decide)
 have e4:=hT 4 (by decide) (by decide) (by decide)
 have e5:=hT 5 (by decide) (by decide) (by decide)
 have e6:=hT 6 (by decide) (by decide) (by decide)
 have e9:=hT 9 (by decide) (by decide) (by decide)
 have e10:=hT 10 (by decide) (by decide) (by decide)
 have e11:=hT 11 (by decide) (by decide) (by decide)
 replace hbel:Below w0.heap.size w0 w1:=⟨hbel.os,hbel.tape,hbel.output,hbel.size,hbel.block⟩
 replace hb7:w0.heap.size≤b7:=hb7
 replace hb8:w0.heap.size≤b8:=hb8
 simp only[List.range,List.range.loop,List.map,e0,e1,e2,e3,e4,e5,e6,e7,e8,e9,e10,e11,Array.getD_eq_getD_getElem?,List.getElem?_toArray,List.getElem?_cons_zero,List.getElem?_cons_succ,Option.getD_some]
 clear hT e0 e1 e2 e3 e4 e5 e6 e7 e8 e9 e10 e11
 apply hK0
 clear hK0
 have hbr2:bR<w1.heap.size:=Nat.lt_of_lt_of_le hbR hbel.size
 have hb2:Below bR w w1:=hb.trans (hbel.mono (by omega))
 have h7s:=A7.lt
 have h8s:=A8.lt
 have hN:=Arr.new w1 168 (pv (List.replicate 7 0))
 have hW:=And.intro (AR.alloc (.cells (pv (List.replicate 7 0)).toArray 168)) (And.intro (A7.alloc (.cells (pv (List.replicate 7 0)).toArray 168)) (And.intro (A8.alloc (.cells (pv (List.replicate 7 0)).toArray 168)) (And.intro hN (hb2.alloc (by omega) (.cells (pv (List.replicate 7 0)).toArray 168)))))
 have HW:=hid hW
 have k1:(w1.alloc (.cells #[.int .i64 0,.int .i64 0,.int .i64 0,.int .i64 0,.int .i64 0,.int .i64 0,.int .i64 0] 168)).cell? ⟨bR,1,none⟩=some (.int .i64 (K:Int)):=(hW.1.cell 1)
 have hL2:Hid ((dgL P y 7).length=7):=hid hl2
 have HLT2:=hid hd2
 clear hR hb hd1 hd2 hl1 hl2 AR A7 A8 hb2 hbel hN hW
 obtain⟨X,hXe⟩:∃X,X=mlX P K low (dgL P x 7):=⟨_,rfl⟩
 obtain⟨O,hOe⟩:∃O,O=mlO P K low (dgL P x 7) (dgL P y 7):=⟨_,rfl⟩
 rw[←hXe]at HX0 HXS HXL HXT HOS
 rw[←hOe]at HO0 HOS HOL HOT hQ
 clear hXe hOe
 generalize dgL P x 7=D1 at*
 generalize dgL P y 7=D2 at*
 have hHQ:=hid hQ
 clear hQ
 have hb7':bR≤b7:=by omega
 have hb8':bR≤b8:=by omega
 have hbR7:bR<b7:=by omega
 have hbR8:bR<b8:=by omega
 clear hb7 hb8 hbR
 go_wp2
 clear k1
 have hN7:b7<w1.heap.size:=h7s
 have hN8:b8<w1.heap.size:=h8s
 generalize hbo:w1.heap.size=bO at*
 clear hbo
 go_loopw [10,11,25] (fun _ _ i wq=>∃j:Nat,j≤K∧i= .int .i64 j∧Arr wq bR 172 [.int .i64 (P:Int),.int .i64 (K:Int),.slice xs nn c,.int .i64 (Q:Int)]∧Arr wq b7 168 (pv (X j))∧Arr wq b8 168 (pv D2)∧Arr wq bO 168 (pv (O j))∧Below bR w wq) (fun _ _ i _=>K-(intOf i).toNat)
 case atStart=>exact⟨0,by omega,rfl,HW.out.1,by rw[HX0.out];exact HW.out.2.1,HW.out.2.2.1,by rw[HO0.out];exact HW.out.2.2.2.1,HW.out.2.2.2.2⟩
 case round=>
  clear HW
  obtain⟨j,hj,rfl,hR,hA,hB,hO,hb⟩:=hrel
  by_cases hjl:j<K
  ·have hjK:(j:Int)<(K:Int):=by omega
   have k1:=hR.cell 1
   simp only[List.getElem?_cons_zero,List.getElem?_cons_succ]at k1
   have hxl:=HXL.out j
   have hol:=HOL.out j
   have hxs:=HXS.out j
   have hos:=HOS.out j
   have hxt:=HXT.out j
   have hot:=HOT.out j
   have hz0:=adL_zero (P:=P) (b:=(X j).map (·*D2.getD j 0)) hol
   have HZ0:=hid hz0
   have HZS:=hid (fun k (h:k<7)=>adL_succ (P:=P) (a:=O j) (b:=(X j).map (·*D2.getD j 0)) h)
   have HZG:=hid (fun k (h:k<7)=>(adL_get (P:=P) (a:=O j) (b:=(X j).map (·*D2.getD j 0)) (j:=k) (i:=k) h).trans (if_neg (by omega)))
   have HZL:=hid (adL_len P (O j) ((X j).map (·*D2.getD j 0)))
   have HGT:=hid (getD_timesL (X j) (D2.getD j 0))
   have HXJ:=hid hxt
   have HXJL:=hid hxl
   have HOJ:=hid hot
   have HXS2:=hid hxs
   have HOS2:=hid hos
   have hdj:=HLT2.out j
   have HW:=hid (And.intro hR (And.intro hA (And.intro hB (And.intro hO hb))))
   have hcy:=hB.cell j
   rw[pv_get (by rw[hL2.out];omega)]at hcy
   clear hR hA hB hO hb hxs hos hxt hot hz0 hxl hol hcy
   obtain⟨Z,hZe⟩:∃Z,Z=adL P (O j) ((X j).map (·*D2.getD j 0)):=⟨_,rfl⟩
   rw[←hZe]at HZ0 HZS HZG HZL HOS2
   clear hZe
   go_wp2
   clear k1
   go_loopw [11,31] (fun _ i wq=>∃k:Nat,k≤K∧i= .int .i64 k∧Arr wq bR 172 [.int .i64 (P:Int),.int .i64 (K:Int),.slice xs nn c,.int .i64 (Q:Int)]∧Arr wq b7 168 (pv (X j))∧Arr wq b8 168 (pv D2)∧Arr wq bO 168 (pv (Z k))∧Below bR w wq) (fun _ i _=>K-(intOf i).toNat)
   case atStart=>exact⟨0,by omega,rfl,HW.out.1,HW.out.2.1,HW.out.2.2.1,by rw[HZ0.out];exact HW.out.2.2.2.1,HW.out.2.2.2.2⟩
   case round=>
    clear HW
    obtain⟨k,hk,rfl,hR,hA,hB,hO,hb⟩:=hrel
    have hzl:=HZL.out k
    by_cases hkl:k<K
    ·have hkK:(k:Int)<(K:Int):=by omega
     have hcx:=hA.cell k
     rw[pv_get (by rw[HXJL.out];omega)]at hcx
     have hcy:=hB.cell j
     rw[pv_get (by rw[hL2.out];omega)]at hcy
     have hco:=hO.cell k
     rw[pv_get (by omega),HZG.out k (by omega)]at hco
     have hfz:=hO.frozen k
     have k0:=hR.cell 0
     simp only[List.getElem?_cons_zero]at k0
     have hst:=HZS.out k (by omega)
     rw[HGT.out]at hst
     have hst2:=Arr.stored (w:=wr.drew) hO k (.int .i64 ((((O j).getD k 0+(X j).getD k 0*D2.getD j 0)%P:Nat):Int))
     rw[pv_set,←hst]at hst2
     have hq1:=HXJ.out k
     have hq3:=HOJ.out k
     have HX:=hid (And.intro (Arr.kept (w:=wr.drew) hR hst2.2 (fun e=>by have:=Option.some.inj e;omega)) (And.intro (Arr.kept (w:=wr.drew) hA hst2.2 (fun e=>by have:=Option.some.inj e;omega)) (And.intro (Arr.kept (w:=wr.drew) hB hst2.2 (fun e=>by have:=Option.some.inj e;omega)) (And.intro hst2.1 ((hb.drew).grown hst2.2 (by have:=hR.lt;show bR≤wr.heap.size;omega) (fun k h=>by cases h;omega))))))
     have hml:(X j).getD k 0*D2.getD j 0≤4096:=Nat.mul_le_mul (show _≤64 by omega) (show _≤64 by omega)
     have n2:(((X j).getD k 0:Nat):Int)*((D2.getD j 0:Nat):Int)=(((X j).getD k 0*D2.getD j 0:Nat):Int):=(Int.natCast_mul _ _).symm
     have n3:(((O j).getD k 0:Nat):Int)+(((X j).getD k 0*D2.getD j 0:Nat):Int)=(((O j).getD k 0+(X j).getD k 0*D2.getD j 0:Nat):Int):=by omega
     have n4:(((O j).getD k 0+(X j).getD k 0*D2.getD j 0:Nat):Int).tmod (P:Int)=((((O j).getD k 0+(X j).getD k 0*D2.getD j 0)%P:Nat):Int):=(Int.ofNat_tmod _ _).symm
     have hk7:(k:Int)<7:=by omega
     have hj7:(j:Int)<7:=by omega
     have hcx:wr.drew.cell? ⟨b7,k,none⟩=_:=hcx
     have hcy:wr.drew.cell? ⟨b8,j,none⟩=_:=hcy
     have hco:wr.drew.cell? ⟨bO,k,none⟩=_:=hco
     have hfz:wr.drew.frozen? ⟨bO,k,none⟩=false:=hfz
     have k0:wr.drew.cell? ⟨bR,0,none⟩=_:=k0
     have hlr:=Nat.mod_lt ((O j).getD k 0+(X j).getD k 0*D2.getD j 0) (show 0<P by omega)
     clear hR hA hB hO hb hst hst2 hzl
     generalize (O j).getD k 0=ov at*
     generalize (X j).getD k 0=xv at*
     generalize D2.getD j 0=yv at*
     generalize xv*yv=prod at*
     have hsm:ov+prod≤5000:=by omega
     generalize ov+prod=sm at*
     generalize sm%P=r at*
     go_wp2
     go_region
     go_wp2
     go_roundw
     case rel=>exact⟨k+1,by omega,by go_num,HX.out⟩
     case measure=>simp[intOf]<;>omega
    ·obtain rfl:K=k:=by omega
     have HC:=hid (HSH.out wr hb (X j) HXJL.out HXJ.out)
     rw[←HXS2.out]at HC
     unfold rmV at HC
     have hxl1:=HXL.out (j+1)
     have HW:=hid (And.intro hR (And.intro hA (And.intro hB (And.intro hO hb))))
     have r1:=hR.range
     have r2:=hA.range
     have i1:(Tryz.prog.info? 168).map (·.size)=some (pv (X j)).length:=by rw[pv_len,HXJL.out];kernel_rfl
     have i2:(Tryz.prog.info? 172).map (·.size)=some 4:=by kernel_rfl
     have hbs:bR<wr.heap.size:=hR.lt
     clear hR hA hB hO hb hzl
     go_wp2_with (first
      |(refine wpList_load_mid rfl 168 _ rfl b7 0 rfl (pv (X j)) _ r2 Tryz.underlying168 rfl i1 ?_)
      |(refine wpList_load_mid rfl 172 _ rfl bR 0 rfl [.int .i64 (P:Int),.int .i64 (K:Int),.slice xs nn c,.int .i64 (Q:Int)] _ r1 Tryz.underlying172 rfl i2 ?_))
     refine HC.out.mono ?_
     rintro _ w2 ⟨rfl,hb2⟩
     obtain⟨hR,hA,hB,hO,hb⟩:=HW.out
     have hR2:=hR.below hb2
     have hA2:=hA.below hb2
     have hB2:=hB.below hb2
     have hO2:=hO.below hb2
     have hbb:=hb.trans (hb2.mono (by omega))
     have t1:=hA2.there
     rw[pv_len,HXJL.out]at t1
     have hg1:=grown_setCells (b:=b7) (pv (X (j+1))) 0 w2
     have hr1:=Arr.setCells (pv (X (j+1))) [] (pv (X j)) w2 hA2 (by rw[pv_len,pv_len,hxl1,HXJL.out])
     have hbs2:=hR2.lt
     have HX:=hid (And.intro (hR2.kept hg1 (fun e=>by have:=Option.some.inj e;omega)) (And.intro hr1 (And.intro (hB2.kept hg1 (fun e=>hne (Option.some.inj e).symm)) (And.intro (hO2.kept hg1 (fun e=>by have:=Option.some.inj e;omega)) (hbb.grown hg1 (by omega) (fun b e=>by cases e;omega))))))
     have t2:w2.there b7 0 (pv (X (j+1))).toArray.size:=by
      rw[show(pv (X (j+1))).toArray.size=7 from List.size_toArray.trans ((pv_len _).trans hxl1)]
      exact t1
     have i3:(Tryz.prog.info? 168).map (·.size)=some (pv (X (j+1))).toArray.size:=by rw[show(pv (X (j+1))).toArray.size=(pv (X (j+1))).length from List.size_toArray,pv_len,hxl1];kernel_rfl
     clear hR hA hB hO hb hR2 hA2 hB2 hO2 hbb t1 hg1 hr1 HW HC
     go_wp2_with (refine wpList_store_mid rfl 168 _ _ rfl b7 0 (pv (X (j+1))).toArray rfl rfl t2 i3 (pv_one (X (j+1))) ?_)
     go_roundw
     case rel=>exact⟨j+1,by omega,by go_num,HX.out.1,HX.out.2.1,HX.out.2.2.1,by rw[HOS2.out];exact HX.out.2.2.2.1,HX.out.2.2.2.2⟩
     case measure=>simp[intOf]<;>omega
  ·obtain rfl:K=j:=by omega
   have hlI:=HOL.out K
   have HB:=hid hb
   have hszb:=hR.lt
   have r1:=hR.range
   have r2:=hO.range
   have i1:(Tryz.prog.info? 168).map (·.size)=some (pv (O K)).length:=by rw[pv_len,hlI];kernel_rfl
   have i2:(Tryz.prog.info? 172).map (·.size)=some 4:=by kernel_rfl
   have HC:=hid (number_ok P K Q (.slice xs nn c) (O K) wr hus hP hP2 hK hK6 hq hlI (HOT.out K))
   have HC2:Hid (Calls Tryz.prog 238 #[.agg #[.int .i64 (P:Int),.int .i64 (K:Int),.slice xs nn c,.int .i64 (Q:Int)],.agg (pv (O K)).toArray] wr fun e w'=>e= .returned (.int .i64 (mulF P K low x y))∧Below wr.heap.size wr w'):=hid (by rw[hHQ.out];exact HC.out)
   clear HC hA hB hR hO hb
   generalize pv (O K)=V at*
   go_wp2_with (first
    |(refine wpList_load_mid rfl 168 _ rfl bO 0 rfl V _ r2 Tryz.underlying168 rfl i1 ?_)
    |(refine wpList_load_mid rfl 172 _ rfl bR 0 rfl [.int .i64 (P:Int),.int .i64 (K:Int),.slice xs nn c,.int .i64 (Q:Int)] _ r1 Tryz.underlying172 rfl i2 ?_))
   refine HC2.out.mono ?_
   rintro _ w2 ⟨rfl,hb2⟩
   have HB2:=hid (HB.out.trans (hb2.mono (by omega)))
   go_wp2
   go_ret
   exact⟨rfl,by rw[HBE.out];exact HB2.out⟩
end Go.Proofs.YtnnaadmegeeinaaGreatDoor
