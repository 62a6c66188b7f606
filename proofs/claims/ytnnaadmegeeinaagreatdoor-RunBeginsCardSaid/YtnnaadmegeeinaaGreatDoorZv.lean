/-
  Part 22 of a proof: what it proves stands in the last text.
-/
import Derived.Test.YtnnaadmegeeinaaGreatDoorZo
import Derived.Test.YtnnaadmegeeinaaGreatDoorZj
import Derived.Test.YtnnaadmegeeinaaGreatDoorZk
set_option linter.unusedVariables false
set_option maxHeartbeats 8000000
set_option maxRecDepth 100000
namespace Go.Proofs.YtnnaadmegeeinaaGreatDoor
open Go.RowKit
def dvI (P t base:Nat) (d:List Nat) (a:List Nat):Nat→List Nat
 |0=>a
 |i+1=>(dvI P t base d a i).set (base+i) (((dvI P t base d a i).getD (base+i) 0+(P-t)*d.getD i 0)%P)
def dvO (P deg k:Nat) (d:List Nat) (a:List Nat):Nat→List Nat
 |0=>a
 |s+1=>dvI P ((dvO P deg k d a s).getD (k-s) 0) (k-s-deg) d (dvO P deg k d a s) (deg+1)
def dvB (P deg k:Nat) (d a:List Nat):Bool:=decide (dvO P deg k d a (k+1-deg)=List.replicate 7 0)
theorem getD_set_lt {P:Nat} {l:List Nat} (h:∀j,l.getD j 0<P) {i x:Nat} (hx:x<P):∀j,(l.set i x).getD j 0<P:=by
 intro j
 rw[List.getD_eq_getElem?_getD,List.getElem?_set]
 by_cases e:i=j
 ·rw[if_pos e]
  split
  ·exact hx
  ·have:=h j;simp;omega
 ·rw[if_neg e,←List.getD_eq_getElem?_getD]
  exact h j
theorem dvI_len (P t base:Nat) (d a:List Nat):∀i,(dvI P t base d a i).length=a.length
 |0=>rfl
 |i+1=>by rw[dvI,List.length_set,dvI_len P t base d a i]
theorem dvI_lt {P t base:Nat} {d a:List Nat} (h:∀j,a.getD j 0<P):∀i j,(dvI P t base d a i).getD j 0<P
 |0=>h
 |i+1=>getD_set_lt (dvI_lt h i) (Nat.mod_lt _ (by have:=h 0;omega))
theorem dvO_len (P deg k:Nat) (d a:List Nat):∀s,(dvO P deg k d a s).length=a.length
 |0=>rfl
 |s+1=>by rw[dvO,dvI_len,dvO_len P deg k d a s]
theorem dvO_lt {P deg k:Nat} {d a:List Nat} (h:∀j,a.getD j 0<P):∀s j,(dvO P deg k d a s).getD j 0<P
 |0=>h
 |s+1=>dvI_lt (dvO_lt h s) _
theorem fdivides_ok (P deg k:Nat) (d a:List Nat) (w:World) (hP:2≤P) (hP2:P≤64) (hd:d.length=7) (ha:a.length=7) (hdl:∀j,d.getD j 0<P) (hal:∀j,a.getD j 0<P) (h1:1≤deg) (h2:deg≤k) (h3:k≤6):
 Calls Tryz.prog 235 #[.int .i64 P,.agg (pv d).toArray,.int .i64 deg,.agg (pv a).toArray,.int .i64 k] w fun e w'=>e= .returned (.bool (dvB P deg k d a))∧Below w.heap.size w w':=by
 have hA1:Arr ((w.alloc (.cells (pv d).toArray 168)).alloc (.cells (pv a).toArray 168)) w.heap.size 168 (pv d):=(Arr.new w _ _).alloc _
 have hA2:Arr ((w.alloc (.cells (pv d).toArray 168)).alloc (.cells (pv a).toArray 168)) (w.alloc (.cells (pv d).toArray 168)).heap.size 168 (pv a):=Arr.new _ _ _
 rw[World.size_alloc]at hA2
 have HS:=hid (And.intro hA1 (And.intro hA2 (((Below.refl w.heap.size w).alloc (Nat.le_refl _) (.cells (pv d).toArray 168)).alloc (by simp) (.cells (pv a).toArray 168))))
 clear hA1 hA2
 have HLEN:=hid (fun s=>(dvO_len P deg k d a s).trans ha)
 have HLT:=hid (fun s j=>dvO_lt (deg:=deg) (k:=k) (d:=d) hal s j)
 have HO0:Hid (dvO P deg k d a 0=a):=hid rfl
 have HON:Hid (∀s,dvO P deg k d a (s+1)=dvI P ((dvO P deg k d a s).getD (k-s) 0) (k-s-deg) d (dvO P deg k d a s) (deg+1)):=hid fun s=>rfl
 have HIL:=hid (fun t b (x:List Nat) i=>dvI_len P t b d x i)
 have HIT:=hid (fun t b (x:List Nat) (h:∀j,x.getD j 0<P) i j=>dvI_lt (t:=t) (base:=b) (d:=d) h i j)
 have HI0:Hid (∀t b (x:List Nat),dvI P t b d x 0=x):=hid fun t b x=>rfl
 have HIN:Hid (∀t b (x:List Nat) i,dvI P t b d x (i+1)=(dvI P t b d x i).set (b+i) (((dvI P t b d x i).getD (b+i) 0+(P-t)*d.getD i 0)%P)):=hid fun t b x i=>rfl
 have HDV:Hid (dvB P deg k d a=decide (dvO P deg k d a (k+1-deg)=List.replicate 7 0)):=hid rfl
 have HDL:=hid hdl
 have hm64:∀x y,x≤64→y<P→x*y≤4096:=fun x y hx hy=>Nat.mul_le_mul hx (show y≤64 by omega)
 have HM:=hid hm64
 generalize dvB P deg k d a=R at*
 obtain⟨O,hO⟩:∃O,O=dvO P deg k d a:=⟨_,rfl⟩
 rw[←hO]at HLEN HLT HO0 HON HDV
 clear hO hdl hal hm64
 go_enter Tryz.func235,Tryz.ntmps235
 go_wp2
 go_loopw [11,12,13,14,26] (fun x _ _ _ _ wr=>∃s top:Nat,s+top=k∧deg≤top+1∧x= .int .i64 top∧Arr wr w.heap.size 168 (pv d)∧Arr wr (w.heap.size+1) 168 (pv (O s))∧Below w.heap.size w wr) (fun x _ _ _ _ _=>(intOf x).toNat)
 case atStart=>exact⟨0,k,by omega,by omega,rfl,HS.out.1,by rw[HO0.out];exact HS.out.2.1,HS.out.2.2⟩
 case round=>
  clear HS
  obtain⟨s,top,hst,htd,rfl,hA,hB,hb⟩:=hrel
  by_cases hge:deg≤top
  ·have hks:k-s=top:=by omega
   have hon:=HON.out s
   rw[hks]at hon
   have hlen:=HLEN.out s
   have hlt:=HLT.out s
   have htl:=hlt top
   have hcell:=hB.cell top
   rw[pv_get (by omega)]at hcell
   have HW:=hid (And.intro hA (And.intro hB hb))
   have HONS:=hid hon
   have hi0:=HI0.out ((O s).getD top 0) (top-deg) (O s)
   have HIL2:=hid (fun i=>(HIL.out ((O s).getD top 0) (top-deg) (O s) i).trans hlen)
   have HIT2:=hid (HIT.out ((O s).getD top 0) (top-deg) (O s) hlt)
   have HIN2:=hid (HIN.out ((O s).getD top 0) (top-deg) (O s))
   have hge2:(deg:Int)≤(top:Int):=by omega
   have htop7:(top:Int)<7:=by omega
   have hsub:(top:Int)-(deg:Int)=((top-deg:Nat):Int):=by omega
   have hbd:top-deg+deg=top:=by omega
   have HI0':=hid hi0
   clear hA hB hb hlt hon hi0
   generalize hI:dvI P ((O s).getD top 0) (top-deg) d (O s)=I at*
   clear hI
   generalize (O s).getD top 0=t at*
   generalize top-deg=base at*
   go_wp2
   go_loopw [13,14,26] (fun _ _ i wq=>∃j:Nat,j≤deg+1∧i= .int .i64 j∧Arr wq w.heap.size 168 (pv d)∧Arr wq (w.heap.size+1) 168 (pv (I j))∧Below w.heap.size w wq) (fun _ _ i _=>deg+1-(intOf i).toNat)
   case atStart=>exact⟨0,by omega,rfl,HW.out.1,by rw[HI0'.out];exact HW.out.2.1,HW.out.2.2⟩
   case round=>
    clear HW hcell
    obtain⟨j,hj,rfl,hA,hB,hb⟩:=hrel
    by_cases hjl:j<deg+1
    ·have hlI:=HIL2.out j
     have hin:=HIN2.out j
     have hce:=hB.cell (base+j)
     rw[pv_get (by omega)]at hce
     have hfz:=hB.frozen (base+j)
     have hcd:=hA.cell j
     rw[pv_get (by omega)]at hcd
     have hst2:=Arr.stored (w:=wr.drew) hB (base+j) (.int .i64 ((((I j).getD (base+j) 0+(P-t)*d.getD j 0)%P:Nat):Int))
     rw[pv_set,←hin]at hst2
     have hq1:=HIT2.out j (base+j)
     have hq2:=HDL.out j
     have hm:=HM.out (P-t) (d.getD j 0) (by omega) hq2
     have HX:=hid (And.intro (Arr.kept (w:=wr.drew) hA hst2.2 (by simp)) (And.intro hst2.1 ((hb.drew).grown hst2.2 hb.size (fun k h=>by cases h;omega))))
     have n1:(P:Int)-(t:Int)=((P-t:Nat):Int):=by omega
     have n2:((P-t:Nat):Int)*((d.getD j 0:Nat):Int)=(((P-t)*d.getD j 0:Nat):Int):=(Int.natCast_mul _ _).symm
     have n3:(((I j).getD (base+j) 0:Nat):Int)+(((P-t)*d.getD j 0:Nat):Int)=(((I j).getD (base+j) 0+(P-t)*d.getD j 0:Nat):Int):=by omega
     have n4:((((I j).getD (base+j) 0+(P-t)*d.getD j 0:Nat)):Int).tmod (P:Int)=((((I j).getD (base+j) 0+(P-t)*d.getD j 0)%P:Nat):Int):=(Int.ofNat_tmod _ _).symm
     have n5:(base:Int)+(j:Int)=((base+j:Nat):Int):=by omega
     have hl1:((I j).getD (base+j) 0+(P-t)*d.getD j 0)%P<P:=Nat.mod_lt _ (by omega)
     have hj7:(j:Int)<7:=by omega
     have hb7:base+j<7:=by omega
     have hjd:(j:Int)<(deg:Int)+1:=by omega
     have hcd:wr.drew.cell? ⟨w.heap.size,j,none⟩=_:=hcd
     have hce:wr.drew.cell? ⟨w.heap.size+1,base+j,none⟩=_:=hce
     have hfz:wr.drew.frozen? ⟨w.heap.size+1,base+j,none⟩=false:=hfz
     clear hA hB hb hst2 hin hlI
     generalize (I j).getD (base+j) 0=av at*
     generalize d.getD j 0=dvv at*
     generalize P-t=pt at*
     generalize hat:base+j=at' at*
     have HAT:=hid hat
     clear hat
     generalize pt*dvv=prod at*
     have hsum:av+prod≤5000:=by omega
     generalize hsm:av+prod=sm at*
     clear hsm
     generalize sm%P=r at*
     go_wp2
     go_region
     go_wp2
     go_roundw
     case rel=>exact⟨j+1,by omega,by go_num,HX.out.1,HX.out.2.1,HX.out.2.2⟩
     case measure=>simp[intOf]<;>omega
    ·obtain rfl:j=deg+1:=by omega
     have HX:=hid (And.intro hA (And.intro hB hb))
     clear hA hB hb
     go_wp2
     go_roundw
     case rel=>exact⟨s+1,top-1,by omega,by omega,by go_num,HX.out.1,by rw[HONS.out];exact HX.out.2.1,HX.out.2.2⟩
     case measure=>simp[intOf]<;>omega
  ·have hs:s=k+1-deg:=by omega
   rw[←hs]at HDV
   have hlen:=HLEN.out s
   have hlt2:¬(deg:Int)≤(top:Int):=by omega
   have HB:=hid hb
   have r2:=hB.range
   have i1:(Tryz.prog.info? 168).map (·.size)=some (pv (O s)).length:=by rw[pv_len,hlen];kernel_rfl
   obtain⟨i0,hi0,_⟩:=info_parts Tryz.info3
   have heq:=run_eq_ints (P:=Tryz.prog) wr 9998 Tryz.underlying168 Tryz.underlying3 hi0 (by kernel_rfl) (xs:=(O s).map fun x:Nat=>(x:Int)) (ys:=(List.replicate 7 0).map fun x:Nat=>(x:Int)) (by rw[List.length_map,hlen]) (by simp)
   have e1:((O s).map fun x:Nat=>(x:Int)).map (Value.int .i64)=pv (O s):=by simp[pv]
   have e2:(((List.replicate 7 0).map fun x:Nat=>(x:Int)).map (Value.int .i64)).toArray= #[.int .i64 0,.int .i64 0,.int .i64 0,.int .i64 0,.int .i64 0,.int .i64 0,.int .i64 0]:=rfl
   have e3:decide (((O s).map fun x:Nat=>(x:Int))=((List.replicate 7 0).map fun x:Nat=>(x:Int)))=R:=by
    rw[HDV.out]
    refine decide_eq_decide.2 ⟨fun h=> ?_,fun h=>by rw[h]⟩
    have:=congrArg (List.map Int.toNat) h
    simpa [List.map_map,Function.comp_def]using this
   rw[e1,e2,e3]at heq
   clear hA hB hb e1 e2 e3 hs
   generalize pv (O s)=V at*
   go_wp2_with (refine wpList_load_mid rfl 168 _ rfl (w.heap.size+1) 0 rfl V _ r2 Tryz.underlying168 rfl i1 ?_)
   go_ret
   exact⟨rfl,HB.out⟩
def dvN (P g n:Nat):List Nat:=(dgL P n 7).set g 1
def irD (P k:Nat) (lk:List Nat) (g:Nat):Bool:=(List.range (P^g)).all fun n=> !(dvB P g k (dvN P g n) lk)
def irB (P k:Nat) (low:List Nat):Bool:=(List.range (k/2)).all fun i=>irD P k (low.set k 1) (i+1)
theorem irD_no {P k g n:Nat} {lk:List Nat} (hn:n<P^g) (h:dvB P g k (dvN P g n) lk=true):irD P k lk g=false:=by
 rw[Bool.eq_false_iff]
 intro hc
 have:=List.all_eq_true.1 hc n (List.mem_range.2 hn)
 rw[h]at this
 cases this
theorem irD_yes {P k g:Nat} {lk:List Nat} (h:∀n,n<P^g→dvB P g k (dvN P g n) lk=false):irD P k lk g=true:=
 List.all_eq_true.2 fun n hn=>by rw[h n (List.mem_range.1 hn)];rfl
theorem irB_no {P k g:Nat} {low:List Nat} (h1:1≤g) (h2:2*g≤k) (h:irD P k (low.set k 1) g=false):irB P k low=false:=by
 rw[Bool.eq_false_iff]
 intro hc
 have:=List.all_eq_true.1 hc (g-1) (List.mem_range.2 (by omega))
 rw[show g-1+1=g by omega,h]at this
 cases this
theorem irB_yes {P k:Nat} {low:List Nat} (h:∀g,1≤g→2*g≤k→irD P k (low.set k 1) g=true):irB P k low=true:=
 List.all_eq_true.2 fun i hi=>h (i+1) (by omega) (by have:=List.mem_range.1 hi;omega)
theorem dvN_lt {P g n:Nat} (hP:2≤P):∀j,(dvN P g n).getD j 0<P:=by
 refine getD_set_lt (fun j=> ?_) (by omega)
 rw[List.getD_eq_getElem?_getD]
 by_cases h:j<7
 ·simp[dgL,h]
  exact Nat.mod_lt _ (by omega)
 ·simp[dgL,h]
  omega
theorem dvN_len (P g n:Nat):(dvN P g n).length=7:=by simp[dvN,dgL]
theorem irreducible_ok (P k:Nat) (low:List Nat) (w:World) (hP:2≤P) (hP2:P≤64) (hk1:1≤k) (hk6:k≤6) (hq:P^k≤64) (hl:low.length=7) (hlt:∀j,low.getD j 0<P):
 Calls Tryz.prog 183 #[.int .i64 P,.int .i64 k,.agg (pv low).toArray] w fun e w'=>e= .returned (.bool (irB P k low))∧Below w.heap.size w w':=by
 have hll:(low.set k 1).length=7:=by rw[List.length_set,hl]
 have hs1:(pv low).set k (Value.int .i64 1)=pv (low.set k 1):=pv_set low k 1
 have HS:Hid (Arr (w.alloc (.cells ((pv low).set k (Value.int .i64 1)).toArray 168)) w.heap.size 168 (pv (low.set k 1))∧Below w.heap.size w (w.alloc (.cells ((pv low).set k (Value.int .i64 1)).toArray 168))):=hid ⟨by rw[hs1];exact Arr.new w _ _,(Below.refl w.heap.size w).alloc (Nat.le_refl _) _⟩
 have hpk:(pv low)[k]? =some (.int .i64 ((low.getD k 0:Nat):Int)):=pv_get (by omega)
 have hlk:∀j,(low.set k 1).getD j 0<P:=getD_set_lt hlt (by omega)
 have HDIG:=hid (fun n w1 (h:n<128)=>digits_ok P n w1 hP hP2 h)
 have HDIV:=hid (fun g n w1 (h1:1≤g) (h2:g≤k)=>fdivides_ok P g k (dvN P g n) (low.set k 1) w1 hP hP2 (dvN_len P g n) hll (dvN_lt hP) hlk h1 h2 hk6)
 have HDN:=hid (fun g n h1 h=>irD_no (P:=P) (k:=k) (g:=g) (n:=n) (lk:=low.set k 1) h1 h)
 have HDY:=hid (fun g h=>irD_yes (P:=P) (k:=k) (g:=g) (lk:=low.set k 1) h)
 have HBN:=hid (fun g h1 h2 h=>irB_no (P:=P) (k:=k) (g:=g) (low:=low) h1 h2 h)
 have HBY:=hid (fun h=>irB_yes (P:=P) (k:=k) (low:=low) h)
 have HPS:Hid (∀i,P^(i+1)=P^i*P):=hid fun i=>rfl
 have HP0:Hid (P^0=1):=hid rfl
 have HPK:Hid (∀i,i≤k→P^i≤64):=hid (fun i hi=>Nat.le_trans (Nat.pow_le_pow_right (by omega) hi) hq)
 have HDL7:Hid (∀n,(dgL P n 7).length=7):=hid (fun n=>dgL_len P n 7)
 have HDVN:Hid (∀g n,(dgL P n 7).set g 1=dvN P g n):=hid fun g n=>rfl
 have HDVL:=hid (fun g n=>dvN_len P g n)
 have hk7:(k:Int)<7:=by omega
 generalize irB P k low=R at*
 obtain⟨f,hf⟩:∃f:Nat→Nat,f=fun i=>P^i:=⟨_,rfl⟩
 have HF:Hid (∀i,P^i=f i):=hid (fun i=>by rw[hf])
 generalize low.set k 1=lk at*
 generalize low.getD k 0=old at*
 clear hf hlk hlt hq hs1
 go_enter Tryz.func183,Tryz.ntmps183
 go_wp2
 go_loopw [7,8,9,10,20,27] (fun x _ _ _ _ _ wr=>∃g:Nat,1≤g∧2*g≤k+2∧x= .int .i64 g∧Hid (∀g',1≤g'→g'<g→irD P k lk g'=true)∧Arr wr w.heap.size 168 (pv lk)∧Below w.heap.size w wr) (fun x _ _ _ _ _ _=>k+2-(intOf x).toNat)
 case atStart=>exact⟨1,by omega,by omega,rfl,hid (fun g h1 h2=>by omega),HS.out.1,HS.out.2⟩
 case round=>
  clear HS hpk
  obtain⟨g,hg1,hg2,rfl,hH,hA,hb⟩:=hrel
  by_cases hge:2*g≤k
  ·have hgi:2*(g:Int)≤(k:Int):=by omega
   have HW:=hid (And.intro hA hb)
   have HHH:=hid hH.out
   clear hA hb hH
   go_wp2
   go_loop [8,20] (fun q i=>∃j:Nat,j≤g∧i= .int .i64 j∧q= .int .i64 (f j:Nat)) (fun _ i=>g-(intOf i).toNat)
   case atStart=>exact⟨0,Nat.zero_le _,rfl,by rw[←HF.out,HP0.out];rfl⟩
   case round=>
    obtain⟨j,hj,rfl,rfl⟩:=hrel
    have hle:=HPK.out j (by omega)
    rw[HF.out]at hle
    by_cases hjl:j<g
    ·have hs:=HPS.out j
     rw[HF.out,HF.out]at hs
     have hle2:=HPK.out (j+1) (by omega)
     rw[HF.out]at hle2
     have n1:(f j:Int)*(P:Int)=((f (j+1):Nat):Int):=by rw[hs];simp
     have hji:(j:Int)<(g:Int):=by omega
     clear hs
     obtain⟨y,hy⟩:∃y,y=f (j+1):=⟨_,rfl⟩
     rw[←hy]at n1 hle2
     have HY:=hid hy
     clear hy
     generalize f j=x at*
     go_wp2
     go_round
     case rel=>exact⟨j+1,by omega,by go_num,by rw[HY.out]⟩
     case measure=>simp[intOf]<;>omega
    ·obtain rfl:j=g:=by omega
     have hji:¬(j:Int)<(j:Int):=by omega
     go_wp2
     go_loopw [9,10,27] (fun _ _ i wq=>∃n:Nat,n≤f j∧i= .int .i64 n∧Hid (∀n',n'<n→dvB P j k (dvN P j n') lk=false)∧Arr wq w.heap.size 168 (pv lk)∧Below w.heap.size w wq) (fun _ _ i _=>f j-(intOf i).toNat)
     case atStart=>exact⟨0,Nat.zero_le _,rfl,hid (fun n h=>by omega),HW.out.1,HW.out.2⟩
     case round=>
      clear HW
      obtain⟨n,hn,rfl,hN,hA,hb⟩:=hrel
      by_cases hnl:n<f j
      ·have hni:(n:Int)<(f j:Int):=by omega
       have HDG:=hid (HDIG.out n wr (by omega))
       have HDD:=hid (fun w1=>HDIV.out j n w1 hg1 (by omega))
       have HNN:=hid (HDN.out j n (by rw[HF.out];exact hnl))
       have HNX:Hid (dvB P j k (dvN P j n) lk=false→∀n',n'<n+1→dvB P j k (dvN P j n') lk=false):=hid (fun h n' hn'=>by
        by_cases e:n'=n
        ·rw[e];exact h
        ·exact hN.out n' (by omega))
       have HBNJ:=hid (HBN.out j hg1 hge)
       have HA:=hid (And.intro hA hb)
       have hd7:=HDL7.out n
       have hdvn:=HDVN.out j n
       have hdl:=HDVL.out j n
       have hj7:(j:Int)<7:=by omega
       have hj7':j<7:=by omega
       clear hN hA hb
       generalize dvB P j k (dvN P j n) lk=B at*
       generalize dvN P j n=DN at*
       generalize dgL P n 7=D at*
       go_wp2_with fail
       refine HDG.out.mono ?_
       rintro e w2 ⟨rfl,hb2⟩
       have hA2:=HA.out.1.below hb2
       have hbb:=HA.out.2.trans (hb2.mono HA.out.2.size)
       have hwz:w.heap.size<w2.heap.size:=hA2.lt
       have hA3:=hA2.alloc (.cells (pv (List.replicate 7 0)).toArray 168)
       have hN3:Arr (w2.alloc (.cells (pv (List.replicate 7 0)).toArray 168)) w2.heap.size 168 ([]++pv (List.replicate 7 0)):=Arr.new w2 _ _
       have t1:=hN3.there
       have t2:(w2.alloc (.cells (pv (List.replicate 7 0)).toArray 168)).there w2.heap.size 0 (pv D).toArray.size:=by
        rw[show(pv D).toArray.size=7 from List.size_toArray.trans ((pv_len D).trans hd7)]
        exact t1
       have i2:(Tryz.prog.info? 168).map (·.size)=some (pv D).toArray.size:=by rw[show(pv D).toArray.size=7 from List.size_toArray.trans ((pv_len D).trans hd7)];kernel_rfl
       have hr4:Arr ((w2.alloc (.cells (pv (List.replicate 7 0)).toArray 168)).setCells w2.heap.size 0 (pv D)) w2.heap.size 168 (pv D):=Arr.setCells (pv D) [] (pv (List.replicate 7 0)) _ hN3 (by rw[pv_len,pv_len,hd7,List.length_replicate])
       have hg4:=grown_setCells (b:=w2.heap.size) (pv D) 0 (w2.alloc (.cells (pv (List.replicate 7 0)).toArray 168))
       have hA4:=hA3.kept hg4 (fun e=>by have:=Option.some.inj e;omega)
       have hb4:=(hbb.alloc hbb.size (.cells (pv (List.replicate 7 0)).toArray 168)).grown hg4 (Nat.le_trans hbb.size (by simp)) (fun k h=>by cases h;omega)
       have H4:=hid (And.intro hr4 (And.intro hA4 hb4))
       have i5:(Tryz.prog.info? 168).map (·.size)=some (pv DN).length:=by rw[pv_len,hdl];kernel_rfl
       have i6:(Tryz.prog.info? 168).map (·.size)=some (pv lk).length:=by rw[pv_len,hll];kernel_rfl
       clear hA2 hbb hA3 hN3 t1 hr4 hg4 hA4 hb4 hb2
       go_wp2_with (first
        |(refine wpList_store_mid rfl 168 _ _ rfl w2.heap.size 0 (pv D).toArray rfl rfl t2 i2 (pv_one D) ?_;show wpList _ _ _ _ _ ((w2.alloc (.cells (pv (List.replicate 7 0)).toArray 168)).setCells w2.heap.size 0 (pv D));generalize ((w2.alloc (.cells (pv (List.replicate 7 0)).toArray 168)).setCells w2.heap.size 0 (pv D))=w4 at H4⊢;have c14:=H4.out.1.cell j;rw[pv_get (by omega)]at c14;have f14:=H4.out.1.frozen j;have q5:Arr (w4.setCell ⟨w2.heap.size,j,none⟩ (.int .i64 1)) w2.heap.size 168 (pv DN)∧w4.grownBy (w4.setCell ⟨w2.heap.size,j,none⟩ (.int .i64 1)) (some w2.heap.size):=(by have:=Arr.stored (w:=w4) (b:=w2.heap.size) (xs:=pv D) H4.out.1 j (.int .i64 ((1:Nat):Int));rw[pv_set,hdvn]at this;exact this);have q6:=H4.out.2.1.kept q5.2 (fun e=>by have:=Option.some.inj e;omega);have r5:=q5.1.range;have r6:=q6.range;have H5:=hid (And.intro q6 (H4.out.2.2.grown q5.2 H4.out.2.2.size (fun k h=>by cases h;omega)));clear t2 i2 q5 q6)
        |(refine wpList_load_mid rfl 168 _ rfl w2.heap.size 0 rfl (pv DN) _ r5 Tryz.underlying168 rfl i5 ?_)
        |(refine wpList_load_mid rfl 168 _ rfl w.heap.size 0 rfl (pv lk) _ r6 Tryz.underlying168 rfl i6 ?_))
       refine(HDD.out _).mono ?_
       rintro e w6 ⟨rfl,hb6⟩
       have HX:=hid (And.intro (H5.out.1.below hb6) (H5.out.2.trans (hb6.mono H5.out.2.size)))
       clear hb6 r5 r6 c14 f14
       cases B with
       |true=>
        have hR:R=false:=HBNJ.out (HNN.out rfl)
        subst hR
        go_wp2
        go_ret
        exact⟨rfl,HX.out.2⟩
       |false=>
        have HNX2:=hid (HNX.out rfl)
        go_wp2
        go_roundw
        case rel=>exact⟨n+1,by omega,by go_num,HNX2,HX.out.1,HX.out.2⟩
        case measure=>simp[intOf]<;>omega
      ·obtain rfl:n=f j:=by omega
       have HD:=hid (HDY.out j (fun n' hn'=>hN.out n' (by rw[←HF.out];exact hn')))
       have HX:=hid (And.intro hA hb)
       clear hA hb hN
       go_wp2
       go_roundw
       case rel=>
        refine⟨j+1,by omega,by omega,by go_num,hid (fun g' h1 h2=> ?_),HX.out.1,HX.out.2⟩
        by_cases e:g'=j
        ·rw[e];exact HD.out
        ·exact HHH.out g' h1 (by omega)
       case measure=>simp[intOf]<;>omega
  ·have hgi:¬2*(g:Int)≤(k:Int):=by omega
   have hR:R=true:=HBY.out (fun g' h1 h2=>hH.out g' h1 (by omega))
   subst hR
   have HX:=hid hb
   clear hA hb hH
   go_wp2
   go_ret
   exact⟨rfl,HX.out⟩
def fldV (p k:Int) (u:Value):Value:= .agg #[.int .i64 p,.int .i64 k,u]
theorem FLeast_bad (p k:Int) (w:World) (ik:I64 k) (hp:Prs w) (h:ordF p k=0):
 Calls Tryz.prog 102 #[.int .i64 p,.int .i64 k] w fun e w'=>e= .returned (.tuple #[fldV 0 0 (.slice none 0 0),.int .i64 1])∧Below w.heap.size w w':=by
 have HO:=hid (fun w1 (hb:Below w.heap.size w w1)=>order_any p k w1 ik (hp.below hb))
 rw[h]at HO
 clear h hp ik
 have hb0:Below w.heap.size w (w.alloc (.cells #[.int .i64 0,.int .i64 0,.slice none 0 0] 60)):=(Below.refl _ _).alloc (Nat.le_refl _) _
 have HB:=hid hb0
 have HC:=hid (HO.out _ hb0)
 clear hb0
 go_enter Tryz.func102,Tryz.ntmps102
 go_wp2_with fail
 refine HC.out.mono ?_
 rintro e w1 ⟨rfl,rfl⟩
 go_wp2
 have hA:Arr (w.alloc (.cells #[.int .i64 0,.int .i64 0,.slice none 0 0] 60)) w.heap.size 60 [.int .i64 0,.int .i64 0,.slice none 0 0]:=Arr.new w _ _
 have hld:=run_loadVar_mid (P:=Tryz.prog) _ _ _ 60 _ _ hA.range Tryz.underlying60 rfl (by kernel_rfl)
 refine⟨rfl,.tuple #[fldV 0 0 (.slice none 0 0),.int .i64 1],?_,rfl,HB.out⟩
 show((results _ _).run _ _)=_
 simp[results,Tryz.f102,asAddr,hld,fldV]
theorem dgL_take (P n:Nat) {k:Nat} (hk:k≤7):(dgL P n 7).take k=dgL P n k:=by
 unfold dgL
 rw[←List.map_take,List.take_range]
 congr 2
 omega
theorem dgL_lt {P n:Nat} (hP:2≤P) (m:Nat):∀j,(dgL P n m).getD j 0<P:=by
 intro j
 rw[List.getD_eq_getElem?_getD]
 by_cases h:j<m
 ·simp[dgL,h]
  exact Nat.mod_lt _ (by omega)
 ·simp[dgL,h]
  omega
theorem fld_one (p k:Int) (a:Option Addr) (n c:Nat):(#[Value.int .i64 p,Value.int .i64 k,Value.slice a n c]:Array Value).all (·.oneCell')=true:=by simp[Value.oneCell']
def nZ (l:List Nat):List Int:=l.map fun x:Nat=>(x:Int)
theorem pv_nZ (l:List Nat):pv l=(nZ l).map (Value.int .i64):=by simp[pv,nZ]
theorem FLeast_ok (P K n0:Nat) (w:World) (hp:Prs w) (h:ordF P K≠0) (hn0:n0<ordF P K) (hy:irB P K (dgL P n0 7)=true) (hno:∀n,n<n0→irB P K (dgL P n 7)=false):
 Calls Tryz.prog 102 #[.int .i64 P,.int .i64 K] w fun e w'=>(∃u,e= .returned (.tuple #[fldV P K u,.int .i64 0])∧OI w.heap.size w' u (nZ (dgL P n0 K)))∧Below w.heap.size w w':=by
 obtain⟨P',K',e1,e2,hpr,h2,h61,hk1,hk6,hq64,hord⟩:=ord_pos h
 obtain rfl:P=P':=by omega
 obtain rfl:K=K':=by omega
 have HO:=hid (fun w1 (hb:Below w.heap.size w w1)=>order_any P K w1 (by unfold I64;omega) (hp.below hb))
 have hz:(!(ordF P K==0))=true:=by simp[h]
 rw[hz,hord]at HO
 rw[hord]at hn0
 have HDIG:=hid (fun n w1 (h:n<128)=>digits_ok P n w1 h2 (by omega) h)
 have HIRR:=hid (fun n w1=>irreducible_ok P K (dgL P n 7) w1 h2 (by omega) hk1 hk6 hq64 (dgL_len P n 7) (dgL_lt h2 7))
 have HNO:=hid hno
 have HYE:=hid hy
 have HDL7:Hid (∀n,(dgL P n 7).length=7):=hid (fun n=>dgL_len P n 7)
 have HTK:Hid (∀n,(dgL P n 7).take K=dgL P n K):=hid (fun n=>dgL_take P n (by omega))
 have hAn:Arr (w.alloc (.cells #[.int .i64 0,.int .i64 0,.slice none 0 0] 60)) w.heap.size 60 [.int .i64 0,.int .i64 0,.slice none 0 0]:=Arr.new w _ _
 have hb0:Below w.heap.size w (w.alloc (.cells #[.int .i64 0,.int .i64 0,.slice none 0 0] 60)):=(Below.refl _ _).alloc (Nat.le_refl _) _
 have HB:=hid (And.intro hAn hb0)
 have HC:=hid (HO.out _ hb0)
 have hK7:(K:Int)≤7:=by omega
 clear hb0 hAn h hp hy hno hz hord hpr
 generalize P^K=q at*
 go_enter Tryz.func102,Tryz.ntmps102
 go_wp2_with fail
 refine HC.out.mono ?_
 rintro e w1 ⟨rfl,rfl⟩
 clear HC
 go_wp2
 go_loopw [8,9,20] (fun _ _ i wr=>∃n:Nat,n≤n0∧i= .int .i64 n∧Arr wr w.heap.size 60 [.int .i64 0,.int .i64 0,.slice none 0 0]∧Below w.heap.size w wr) (fun _ _ i _=>n0-(intOf i).toNat)
 case atStart=>exact⟨0,Nat.zero_le _,rfl,HB.out.1,HB.out.2⟩
 case round=>
  clear HB
  obtain⟨n,hn,rfl,hA,hb⟩:=hrel
  have hnq:(n:Int)<(q:Int):=by omega
  have HDG:=hid (HDIG.out n wr (by omega))
  have HII:=hid (HIRR.out n)
  have HA:=hid (And.intro hA hb)
  have hd7:=HDL7.out n
  have HTN:=hid (HTK.out n)
  clear hA hb
  have hB:Hid (n=n0∧irB P K (dgL P n 7)=true∨n<n0∧irB P K (dgL P n 7)=false):=hid (by
   rcases Nat.lt_or_ge n n0 with hl|hl
   ·exact .inr ⟨hl,HNO.out n hl⟩
   ·obtain rfl:n=n0:=by omega
    exact .inl ⟨rfl,HYE.out⟩)
  generalize irB P K (dgL P n 7)=B at*
  generalize dgL P n 7=D at*
  go_wp2_with fail
  refine HDG.out.mono ?_
  rintro e w2 ⟨rfl,hb2⟩
  have hA2:=HA.out.1.below hb2
  have hbb:=HA.out.2.trans (hb2.mono HA.out.2.size)
  have hwz:w.heap.size<w2.heap.size:=hA2.lt
  have hA3:=hA2.alloc (.cells (pv (List.replicate 7 0)).toArray 168)
  have hN3:Arr (w2.alloc (.cells (pv (List.replicate 7 0)).toArray 168)) w2.heap.size 168 ([]++pv (List.replicate 7 0)):=Arr.new w2 _ _
  have t1:=hN3.there
  have t2:(w2.alloc (.cells (pv (List.replicate 7 0)).toArray 168)).there w2.heap.size 0 (pv D).toArray.size:=by
   rw[show(pv D).toArray.size=7 from List.size_toArray.trans ((pv_len D).trans hd7)]
   exact t1
  have i2:(Tryz.prog.info? 168).map (·.size)=some (pv D).toArray.size:=by rw[show(pv D).toArray.size=7 from List.size_toArray.trans ((pv_len D).trans hd7)];kernel_rfl
  have hr4:Arr ((w2.alloc (.cells (pv (List.replicate 7 0)).toArray 168)).setCells w2.heap.size 0 (pv D)) w2.heap.size 168 (pv D):=Arr.setCells (pv D) [] (pv (List.replicate 7 0)) _ hN3 (by rw[pv_len,pv_len,hd7,List.length_replicate])
  have hg4:=grown_setCells (b:=w2.heap.size) (pv D) 0 (w2.alloc (.cells (pv (List.replicate 7 0)).toArray 168))
  have hA4:=hA3.kept hg4 (fun e=>by have:=Option.some.inj e;omega)
  have hb4:=(hbb.alloc hbb.size (.cells (pv (List.replicate 7 0)).toArray 168)).grown hg4 (Nat.le_trans hbb.size (by simp)) (fun k h=>by cases h;omega)
  have H4:=hid (And.intro hr4 (And.intro hA4 hb4))
  have i5:(Tryz.prog.info? 168).map (·.size)=some (pv D).length:=by rw[pv_len,hd7];kernel_rfl
  clear hA2 hbb hA3 hN3 t1 hr4 hg4 hA4 hb4 hb2
  go_wp2_with (first
   |(refine wpList_store_mid rfl 168 _ _ rfl w2.heap.size 0 (pv D).toArray rfl rfl t2 i2 (pv_one D) ?_;show wpList _ _ _ _ _ ((w2.alloc (.cells (pv (List.replicate 7 0)).toArray 168)).setCells w2.heap.size 0 (pv D));generalize ((w2.alloc (.cells (pv (List.replicate 7 0)).toArray 168)).setCells w2.heap.size 0 (pv D))=w4 at H4⊢;have r5:=H4.out.1.range;clear t2 i2)
   |(refine wpList_load_mid rfl 168 _ rfl w2.heap.size 0 rfl (pv D) _ r5 Tryz.underlying168 rfl i5 ?_))
  refine(HII.out _).mono ?_
  rintro e w6 ⟨rfl,hb6⟩
  have H6:=hid (And.intro (H4.out.1.below hb6) (And.intro (H4.out.2.1.below hb6) (H4.out.2.2.trans (hb6.mono H4.out.2.2.size))))
  clear hb6 r5
  rcases hB.out with⟨rfl,rfl⟩|⟨hl,rfl⟩
  ·have ho7:=OI.lit0 w.heap.size w6 H6.out.2.2.size
   have hb7:=H6.out.2.2.alloc H6.out.2.2.size (.cells #[] 3)
   have hP7:=H6.out.1.alloc (.cells #[] 3)
   have hF7:=H6.out.2.1.alloc (.cells #[] 3)
   have H7:=hid (And.intro hF7 hb7)
   have hlp:=hP7.lt
   have hrd:Rd (w6.alloc (.cells #[] 3)) (.slice (some ⟨w2.heap.size,0,none⟩) K 7) ((pv D).take K):=by
    refine⟨some ⟨w2.heap.size,0,none⟩,7,by rw[List.length_take,pv_len,hd7];congr 1;omega,by rw[List.length_take,pv_len,hd7];omega,fun _=>⟨w2.heap.size,0,rfl,hlp,fun i hi=> ?_⟩⟩
    rw[List.length_take]at hi
    rw[Nat.zero_add,hP7.cell,List.getElem?_take,if_pos (by omega)]
   have hone:∀x∈(pv D).take K,x.oneCell'=true:=fun x hx=>by
    have:=List.mem_of_mem_take hx
    simp only[pv,List.mem_map]at this
    obtain⟨y,_,rfl⟩:=this
    rfl
   have hlt7:(([]:List Int).map (Value.int .i64)).length+((pv D).take K).length≤1000000000000:=by simp[pv_len,hd7];omega
   have hbs7:w.heap.size≤(w6.alloc (.cells #[] 3)).heap.size:=hb7.size
   clear hP7 hF7 hb7
   have hlen8:(([]:List Int).map (Value.int .i64)++(pv D).take K).length=K:=by simp[pv_len,hd7];omega
   have H8L:Hid (w.heap.size<w6.heap.size):=hid H6.out.2.1.lt
   have i9:(Tryz.prog.info? 60).map (·.size)=some 3:=by kernel_rfl
   go_wp2_with (first
    |(at_builtin;refine wpList_apps (w:=w6.alloc (.cells #[] 3)) _ _ 45 3 (.int .i64 0) 8 rfl rfl Tryz.underlying45 Tryz.info3 rfl (by decide) w.heap.size (.slice (some ⟨w6.heap.size,0,none⟩) 0 0) (.slice (some ⟨w2.heap.size,0,none⟩) K 7) (([]:List Int).map (Value.int .i64)) ((pv D).take K) rfl ho7 rfl hrd hone hlt7 hbs7 ?_;intro v8 w8 hown8 hgr8 hnb8;obtain⟨a8,c8,e8⟩:=hown8.len;rw[hlen8]at e8;subst e8;have hF8:=H7.out.1.kept hgr8 (fun e=>by simp only[Value.ownBlock,Option.some.injEq]at e;have:=H8L.out;omega);have t8:w8.there w.heap.size 0 (#[Value.int .i64 (P:Int),Value.int .i64 (K:Int),Value.slice a8 K c8]:Array Value).size:=hF8.there;have H8:=hid (And.intro hF8 (And.intro (H7.out.2.grown hgr8 hbs7 (fun k h=>by simp only[Value.ownBlock,Option.some.injEq]at h;have:=H8L.out;omega)) (And.intro hown8 hnb8)));clear hF8 hown8 hgr8 hnb8 ho7 hrd hone)
    |(refine wpList_store_mid rfl 60 _ _ rfl w.heap.size 0 #[Value.int .i64 (P:Int),Value.int .i64 (K:Int),Value.slice a8 K c8] rfl rfl t8 i9 (fld_one _ _ _ _ _) ?_;show wpList _ _ _ _ _ (w8.setCells w.heap.size 0 [Value.int .i64 (P:Int),Value.int .i64 (K:Int),Value.slice a8 K c8])))
   have hF9:Arr (w8.setCells w.heap.size 0 [Value.int .i64 (P:Int),Value.int .i64 (K:Int),Value.slice a8 K c8]) w.heap.size 60 [Value.int .i64 (P:Int),Value.int .i64 (K:Int),Value.slice a8 K c8]:=Arr.setCells [Value.int .i64 (P:Int),Value.int .i64 (K:Int),Value.slice a8 K c8] [] _ w8 H8.out.1 rfl
   have hg9:=grown_setCells (b:=w.heap.size) [Value.int .i64 (P:Int),Value.int .i64 (K:Int),Value.slice a8 K c8] 0 w8
   have hb9:=H8.out.2.1.grown hg9 H8.out.2.1.size (fun k h=>by cases h;exact Nat.le_refl _)
   have ho9:=H8.out.2.2.1.kept hg9 (.inr (fun e=>by
    rcases H8.out.2.2.2 _ e with h|h
    ·simp only[Value.ownBlock,Option.some.injEq]at h
     have:=H8L.out;omega
    ·have h5:=H8L.out
     rw[World.size_alloc]at h
     omega))
   have hld:=run_loadVar_mid (P:=Tryz.prog) _ _ _ 60 _ _ hF9.range Tryz.underlying60 rfl i9
   refine⟨rfl,.tuple #[fldV P K (.slice a8 K c8),.int .i64 0],?_,⟨_,rfl,?_⟩,hb9⟩
   ·show((results _ _).run _ _)=_
    simp[results,Tryz.f102,asAddr,hld,fldV]
   ·unfold OI
    rw[←pv_nZ,←HTN.out]
    have e:(pv D).take K=pv (D.take K):=by simp[pv,List.map_take]
    rw[←e]
    exact ho9
  ·have HX:=hid (And.intro H6.out.2.1 H6.out.2.2)
   go_wp2
   go_roundw
   case rel=>exact⟨n+1,by omega,by go_num,HX.out.1,HX.out.2⟩
   case measure=>simp[intOf]<;>omega
end Go.Proofs.YtnnaadmegeeinaaGreatDoor
