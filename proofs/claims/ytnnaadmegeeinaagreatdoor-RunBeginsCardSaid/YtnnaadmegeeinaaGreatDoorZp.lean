/-
  Part 16 of a proof: what it proves stands in the last text.
-/
import Derived.Test.YtnnaadmegeeinaaGreatDoorZj
import Derived.Test.YtnnaadmegeeinaaGreatDoorZb
import Derived.Test.YtnnaadmegeeinaaGreatDoorZi
import Derived.BigQuiet
set_option linter.unusedVariables false
set_option maxHeartbeats 8000000
set_option maxRecDepth 100000
namespace Go.Proofs.YtnnaadmegeeinaaGreatDoor
open Go.RowKit
def gD (l:List Int) (i:Nat):Int:=l.getD i 0
def nxP (p t:Int) (nl ol:List Int) (g i:Nat):List Int:=(List.range nl.length).map fun j=>if g≤j∧j<i then(gD nl j+(p-t)*gD ol (j-g))%p else gD nl j
theorem nxP_len (p t:Int) (nl ol:List Int) (g i:Nat):(nxP p t nl ol g i).length=nl.length:=by simp[nxP]
theorem nxP_get {p t:Int} {nl ol:List Int} {g i j:Nat} (h:j<nl.length):gD (nxP p t nl ol g i) j=if g≤j∧j<i then(gD nl j+(p-t)*gD ol (j-g))%p else gD nl j:=by
 unfold gD
 rw[List.getD_eq_getElem?_getD,nxP,List.getElem?_map,List.getElem?_range h]
 rfl
theorem nxP_far {p t:Int} {nl ol:List Int} {g i j:Nat} (h:nl.length≤j):gD (nxP p t nl ol g i) j=0:=by
 unfold gD
 rw[List.getD_eq_getElem?_getD,List.getElem?_eq_none (by rw[nxP_len];exact h)]
 rfl
theorem gD_far {nl:List Int} {j:Nat} (h:nl.length≤j):gD nl j=0:=by
 unfold gD
 rw[List.getD_eq_getElem?_getD,List.getElem?_eq_none h]
 rfl
theorem nxP_zero (p t:Int) (nl ol:List Int) (g:Nat):nxP p t nl ol g g=nl:=by
 refine List.ext_getElem (nxP_len _ _ _ _ _ _) fun j h1 h2=> ?_
 have:=nxP_get (p:=p) (t:=t) (ol:=ol) (g:=g) (i:=g) h2
 rw[if_neg (by omega)]at this
 unfold gD at this
 rw[List.getD_eq_getElem?_getD,List.getElem?_eq_getElem h1,List.getD_eq_getElem?_getD,List.getElem?_eq_getElem h2]at this
 exact this
theorem nxP_step {p t:Int} {nl ol:List Int} {g i:Nat} (hg:g≤i) (hi:i<nl.length):(nxP p t nl ol g i).set i ((gD (nxP p t nl ol g i) i+(p-t)*gD ol (i-g))%p)=nxP p t nl ol g (i+1):=by
 refine List.ext_getElem (by rw[List.length_set,nxP_len,nxP_len]) fun j h1 h2=> ?_
 rw[nxP_len]at h2
 rw[List.getElem_set]
 have e:=nxP_get (p:=p) (t:=t) (ol:=ol) (g:=g) (i:=i) h2
 have e2:=nxP_get (p:=p) (t:=t) (ol:=ol) (g:=g) (i:=i+1) h2
 have e3:=nxP_get (p:=p) (t:=t) (ol:=ol) (g:=g) (i:=i) hi
 rw[if_neg (by omega)]at e3
 have k1:(nxP p t nl ol g i)[j]'(by rw[nxP_len];exact h2)=gD (nxP p t nl ol g i) j:=by
  unfold gD;rw[List.getD_eq_getElem?_getD,List.getElem?_eq_getElem (by rw[nxP_len];exact h2)];rfl
 have k2:(nxP p t nl ol g (i+1))[j]'(by rw[nxP_len];exact h2)=gD (nxP p t nl ol g (i+1)) j:=by
  unfold gD;rw[List.getD_eq_getElem?_getD,List.getElem?_eq_getElem (by rw[nxP_len];exact h2)];rfl
 by_cases hij:i=j
 ·subst hij
  rw[if_pos rfl,e3,k2,e2,if_pos (by omega)]
 ·rw[if_neg hij,k1,k2,e,e2]
  by_cases hc:g≤j∧j<i
  ·rw[if_pos hc,if_pos (by omega)]
  ·rw[if_neg hc,if_neg (by omega)]
theorem nxP_in {p t:Int} {nl ol:List Int} {g i:Nat} (hp:0<p) (h:∀j,0≤gD nl j∧gD nl j<p) (j:Nat):0≤gD (nxP p t nl ol g i) j∧gD (nxP p t nl ol g i) j<p:=by
 by_cases hj:j<nl.length
 ·rw[nxP_get hj]
  split
  ·exact⟨Int.emod_nonneg _ (by omega),Int.emod_lt_of_pos _ hp⟩
  ·exact h j
 ·rw[nxP_far (by omega)]
  omega
theorem nxP_nxF (p t:Int) (nl ol:List Int) (g:Nat):gD (nxP p t nl ol g nl.length)=nxF p t (gD nl) (gD ol) g nl.length:=by
 funext j
 unfold nxF
 by_cases hj:j<nl.length
 ·rw[nxP_get hj]
 ·rw[nxP_far (by omega),if_neg (by omega),gD_far (by omega)]
theorem sm_bd {f:Nat→Int}:∀n,(∀i,i<n→0≤f i∧f i≤36)→0≤sm f n∧sm f n≤36*(n:Int)
 |0,_=>by simp[sm]
 |n+1,h=>by
  have ih:=sm_bd n (fun i hi=>h i (by omega))
  have:=h n (by omega)
  simp only[sm]
  omega
theorem gD_in {l:List Int} {p:Int} (hp:0<p) (h:∀x∈l,0≤x∧x<p) (j:Nat):0≤gD l j∧gD l j<p:=getD_nn hp h j
def one0 (n:Nat):List Int:=(List.replicate n 0).set 0 1
theorem one0_len (n:Nat):(one0 n).length=n:=by simp[one0]
theorem one0_get {n:Nat} (hn:0<n) (i:Nat):gD (one0 n) i=if i=0 then 1 else 0:=by
 unfold gD one0
 rw[List.getD_eq_getElem?_getD,List.getElem?_set]
 by_cases h:i=0
 ·subst h
  simp[hn]
 ·rw[if_neg (by omega),if_neg h,List.getElem?_replicate]
  split<;>rfl
def lsT (p:Int) (C:Nat→Int) (L N:Nat):List Int:=if L=0∨N<2*L then[]else bmT p C L
structure LK (p:Int) (S:Nat) (s:Nat→Int) (n:Nat) (nl ol:List Int) (L g:Nat) (b:Nat):Prop where
 bm:BM p s n (gD nl) (gD ol) L g b
 l1:nl.length=S
 l2:ol.length=S
 i1:∀j,0≤gD nl j∧gD nl j<p
 i2:∀j,0≤gD ol j∧gD ol j<p
 b1:1≤b
 b2:(b:Int)<p
 g1:1≤g
 g2:g≤n+1
theorem LK.start {p:Int} {S:Nat} (s:Nat→Int) (hp:1<p) (hS:0<S):LK p S s 0 (one0 S) (one0 S) 0 1 1:=by
 have hi:∀j,0≤gD (one0 S) j∧gD (one0 S) j<p:=fun j=>by rw[one0_get hS];split<;>omega
 exact⟨BM.start p s _ _ (by rw[one0_get hS,if_pos rfl]) (fun i h=>by rw[one0_get hS,if_neg (by omega)]) (fun i h=>by rw[one0_get hS,if_neg (by omega)]) _,one0_len S,one0_len S,hi,hi,Nat.le_refl _,by omega,Nat.le_refl _,by omega⟩
section
variable {p:Int} {S:Nat} {s:Nat→Int} {n:Nat} {nl ol:List Int} {L g b:Nat}
theorem LK.same (H:LK p S s n nl ol L g b) (hd:p∣disc s (gD nl) L n):LK p S s (n+1) nl ol L (g+1) b:=
 ⟨H.bm.same hd,H.l1,H.l2,H.i1,H.i2,H.b1,H.b2,by omega,by have:=H.g2;omega⟩
theorem mend_ok {d iv:Nat} {D:Int} (hd:p∣D-(d:Int)) (h1:p∣(b:Int)*(iv:Int)-1) {t:Int} (ht:p∣(d:Int)*(iv:Int)-t):p∣t*(b:Int)-D:=by
 have h2:=Int.dvd_mul_of_dvd_right (b:=(d:Int)) h1
 rw[Int.mul_sub,Int.mul_one]at h2
 have h3:=Int.dvd_mul_of_dvd_left (c:=(b:Int)) ht
 rw[Int.sub_mul]at h3
 have e:(d:Int)*((b:Int)*(iv:Int))=(d:Int)*(iv:Int)*(b:Int):=by rw[Int.mul_comm (b:Int),Int.mul_assoc]
 rw[e]at h2
 have h4:=Int.dvd_sub (Int.dvd_sub h2 h3) hd
 rw[show(d:Int)*(iv:Int)*(b:Int)-(d:Int)-((d:Int)*(iv:Int)*(b:Int)-t*(b:Int))-(D-(d:Int))=t*(b:Int)-D by omega]at h4
 exact h4
theorem LK.keep (H:LK p S s n nl ol L g b) (hp:0<p) (hS:n+1<S) {t:Int} (ht:p∣t*(b:Int)-disc s (gD nl) L n) (h2:¬2*L≤n):LK p S s (n+1) (nxP p t nl ol g S) ol L (g+1) b:=by
 have hbm:=H.bm.keep (size:=nl.length) (by rw[H.l1];exact hS) ht h2
 rw[←nxP_nxF,H.l1]at hbm
 exact⟨hbm,by rw[nxP_len,H.l1],H.l2,fun j=>nxP_in hp H.i1 j,H.i2,H.b1,H.b2,by omega,by have:=H.g2;omega⟩
theorem LK.grow (H:LK p S s n nl ol L g b) (hp:0<p) (hS:n+1<S) {t:Int} {d:Nat} (hd1:1≤d) (hd2:(d:Int)<p) (hdd:p∣disc s (gD nl) L n-(d:Int)) (ht:p∣t*(b:Int)-disc s (gD nl) L n) (h2:2*L≤n):LK p S s (n+1) (nxP p t nl ol g S) nl (n+1-L) 1 d:=by
 have hnd:¬p∣disc s (gD nl) L n:=fun h=>by
  have h3:=Int.dvd_sub h hdd
  rw[show disc s (gD nl) L n-(disc s (gD nl) L n-(d:Int))=(d:Int)by omega]at h3
  have:=Int.le_of_dvd (by omega) h3
  omega
 have hbm:=H.bm.grow (size:=nl.length) (by rw[H.l1];exact hS) ht hnd hdd h2
 rw[←nxP_nxF,H.l1]at hbm
 exact⟨hbm,by rw[nxP_len,H.l1],H.l1,fun j=>nxP_in hp H.i1 j,H.i1,hd1,hd2,Nat.le_refl _,by omega⟩
end
end Go.Proofs.YtnnaadmegeeinaaGreatDoor
namespace Go.Proofs.YtnnaadmegeeinaaGreatDoor
theorem least_nat (q:Nat→Prop):∀n,q n→∃k,k≤n∧q k∧∀j,j<k→¬q j:=by
 intro n
 induction n using Nat.strongRecOn with
 |ind n ih=>
  intro h
  by_cases hx:∃j,j<n∧q j
  ·obtain⟨j,h1,h2⟩:=hx
   obtain⟨k,h3,h4,h5⟩:=ih j h1 h2
   exact⟨k,by omega,h4,h5⟩
  ·exact⟨n,Nat.le_refl _,h,fun j hj hq=>hx ⟨j,hj,hq⟩⟩
theorem bm_uniq {P:Nat} {s C B C1 C2:Nat→Int} {N L g:Nat} {b:Int} (hp:smallB (P:Int)=true) (H:BM P s N C B L g b) (h2:2*L≤N) (a1:C1 0=1) (a2:C2 0=1) (g1:Gen P s C1 L N) (g2:Gen P s C2 L N):∀j,j≤L→(P:Int)∣C1 j-C2 j:=by
 intro j0 hj0
 refine Classical.byContradiction fun hno=> ?_
 obtain⟨k,hk,hkn,hkl⟩:=least_nat (fun j=>¬(P:Int)∣C1 j-C2 j) j0 hno
 have hkl':∀j,j<k→(P:Int)∣C1 j-C2 j:=fun j hj=>Classical.byContradiction (hkl j hj)
 have hk0:k≠0:=fun h=>hkn (by subst h;rw[a1,a2];exact⟨0,by omega⟩)
 have hsm:=small_cases hp
 obtain⟨v,hv⟩:∃v:Int,(P:Int)∣(C1 k-C2 k)*v-1:=by
  have hd0:=Int.emod_nonneg (C1 k-C2 k) (b:=(P:Int)) (by omega)
  have hdp:=Int.emod_lt_of_pos (C1 k-C2 k) (b:=(P:Int)) (by omega)
  have hdn:(C1 k-C2 k)%(P:Int)≠0:=fun h=>hkn (Int.dvd_of_emod_eq_zero h)
  obtain⟨v,_,_,hv,_⟩:=inv_ex (p:=P) (a:=((C1 k-C2 k)%(P:Int)).toNat) hp (by omega) (by omega)
  refine⟨(v:Int),?_⟩
  have e1:(P:Int)∣((C1 k-C2 k)%(P:Int))*(v:Int)-1:=by
   have e2:=Nat.div_add_mod (((C1 k-C2 k)%(P:Int)).toNat*v) P
   rw[hv]at e2
   refine⟨((((C1 k-C2 k)%(P:Int)).toNat*v/P:Nat):Int),?_⟩
   have e3:((C1 k-C2 k)%(P:Int))*(v:Int)=((((C1 k-C2 k)%(P:Int)).toNat*v:Nat):Int):=by
    rw[Int.natCast_mul,Int.toNat_of_nonneg hd0]
   rw[e3,←Int.natCast_mul]
   omega
  have e2:=Int.dvd_mul_of_dvd_left (c:=(v:Int)) (dvd_emod_sub (P:Int) (C1 k-C2 k))
  rw[Int.sub_mul]at e2
  exact dvd_cast (Int.dvd_sub e1 e2) (by omega)
 let E:Nat→Int:=fun i=>if i=0 then 1 else v*(C1 (k+i)-C2 (k+i))
 have hE:∀i,(P:Int)∣E i-v*(C1 (k+i)-C2 (k+i)):=fun i=>by
  show(P:Int)∣(if i=0 then 1 else v*(C1 (k+i)-C2 (k+i)))-_
  split
  ·rename_i h
   subst h
   rw[Nat.add_zero,Int.mul_comm v]
   exact dvd_cast ((Int.dvd_neg).2 hv) (by omega)
  ·rw[Int.sub_self];exact Int.dvd_zero _
 have hgE:Gen P s E (L-k) (N-k):=by
  intro m h3 h4
  have d1:=g1 (m+k) (by omega) (by omega)
  have d2:=g2 (m+k) (by omega) (by omega)
  have d3:=Int.dvd_sub d1 d2
  unfold disc at d3
  have e1:sm (fun i=>C1 i*s (m+k-i)) (L+1)-sm (fun i=>C2 i*s (m+k-i)) (L+1)=sm (fun i=>(C1 i-C2 i)*s (m+k-i)) (L+1):=by
   have:=sm_add (fun i=>C1 i*s (m+k-i)) (fun i=> -(C2 i*s (m+k-i))) (L+1)
   rw[sm_neg]at this
   rw[Int.sub_eq_add_neg,←this]
   exact sm_congr _ fun i _=>by rw[Int.sub_mul];omega
  rw[e1]at d3
  have e2:(P:Int)∣sm (fun i=>(C1 i-C2 i)*s (m+k-i)) (L+1)-sm (fun i=>if i<k then 0 else(C1 i-C2 i)*s (m+k-i)) (L+1):=sm_dvd_sub _ fun i hi=>by
   show(P:Int)∣(C1 i-C2 i)*s (m+k-i)-if i<k then 0 else(C1 i-C2 i)*s (m+k-i)
   split
   ·rename_i h;rw[Int.sub_zero];exact Int.dvd_mul_of_dvd_left (hkl' i h)
   ·rw[Int.sub_self];exact Int.dvd_zero _
  have e3:sm (fun i=>if i<k then 0 else(C1 i-C2 i)*s (m+k-i)) (L+1)=sm (fun i=>(C1 (k+i)-C2 (k+i))*s (m-i)) (L-k+1):=by
   rw[show L+1=k+(L-k+1)by omega,sm_shift (fun i hi=>if_pos hi)]
   exact sm_congr _ fun i _=>by rw[if_neg (by omega),show m+k-(k+i)=m-i by omega]
  rw[e3]at e2
  have e4:=Int.dvd_sub d3 e2
  rw[Int.sub_sub_self]at e4
  have e5:=Int.dvd_mul_of_dvd_right (b:=v) e4
  have e6:(P:Int)∣sm (fun i=>E i*s (m-i)) (L-k+1)-sm (fun i=>v*((C1 (k+i)-C2 (k+i))*s (m-i))) (L-k+1):=sm_dvd_sub _ fun i _=>by
   have:=Int.dvd_mul_of_dvd_left (c:=s (m-i)) (hE i)
   rw[Int.sub_mul,Int.mul_assoc]at this
   exact this
  rw[sm_mul]at e6
  have e7:=Int.dvd_add e6 e5
  rwa [Int.sub_add_cancel]at e7
 have hnN:¬Gen P s E (L-k) N:=fun h=>by
  have:=H.mini E (L-k) rfl h
  omega
 have hex:∃n0,L-k≤n0∧n0<N∧¬(P:Int)∣disc s E (L-k) n0:=Classical.byContradiction fun hx=>hnN fun m h3 h4=>Classical.byContradiction fun h5=>hx ⟨m,h3,h4,h5⟩
 obtain⟨n1,hn1⟩:=hex
 obtain⟨n0,_,⟨h3,h4,h5⟩,h6⟩:=least_nat (fun n0=>L-k≤n0∧n0<N∧¬(P:Int)∣disc s E (L-k) n0) n1 hn1
 have hge:Gen P s E (L-k) n0:=fun m h7 h8=>Classical.byContradiction fun h9=>h6 m h8 ⟨h7,by omega,h9⟩
 have hNk:N-k≤n0:=Classical.byContradiction fun h=>h5 (hgE n0 h3 (by omega))
 have:=massey hge h5 (g1.mono (show n0+1≤N by omega)) a1
 omega
section
variable {P:Nat} {s C B:Nat→Int} {N L g:Nat} {b:Int} {t:Int} {u:List Int}
end
end Go.Proofs.YtnnaadmegeeinaaGreatDoor
namespace Go.Proofs.YtnnaadmegeeinaaGreatDoor
open Go.RowKit
def LeastR (p:Int) (s:Nat→Int) (N W:Nat) (e:Ending) (w':World):Prop:=∃(u:Value) (C B:Nat→Int) (L g:Nat) (b:Int),e= .returned (.tuple #[.int .i64 L,u,.int .i64 0])∧OI W w' u (lsT p C L N)∧BM p s N C B L g b
theorem LeastR.mk {p:Int} {s:Nat→Int} {N W:Nat} {w':World} {u:Value} {C B:Nat→Int} {L g:Nat} {b:Int} {x:Int} (hx:x=(L:Int)) (h1:OI W w' u (lsT p C L N)) (h2:BM p s N C B L g b):LeastR p s N W (.returned (.tuple #[.int .i64 x,u,.int .i64 0])) w':=⟨u,C,B,L,g,b,by rw[hx],h1,h2⟩
theorem RLeast_ok (P:Nat) (v:Value) (seen:List Int) (w:World) (hv:Sl w v seen) (hp:smallB (P:Int)=true) (hlen:seen.length≤60) (hf:fitB (P:Int) seen=true) (hi64:∀x∈seen,I64 x):
 Calls Tryz.prog 37 #[.int .i64 P,v] w fun e w'=>LeastR P (gD seen) seen.length w.heap.size e w'∧Below w.heap.size w w':=by
 have hsm:=small_cases hp
 have hP7:P≤7:=by omega
 have hP2:2≤P:=by omega
 have HMO:=hid (fun w1=>modulo_any P w1)
 have HFI:=hid (fun w1 (hb:Below w.heap.size w w1)=>fit_any P v seen w1 (hv.below hb) hi64)
 rw[hp]at HMO
 rw[hf]at HFI
 have HIN:=hid (gD_in (l:=seen) (p:=(P:Int)) (by omega) (fit_mem hf))
 have HSP:=hid hp
 obtain⟨sv,sc,N,rfl,hN,hl1,hl2⟩:=hv.open
 have HN:=hid hN.out
 have hN60:N≤60:=by rw[←hN.out];exact hlen
 have HSC:Hid (N=0∨∃bs os,sv=some ⟨bs,os,none⟩∧bs<w.heap.size∧∀i,i<N→w.cell? ⟨bs,os+i,none⟩=some (.int .i64 (gD seen i))):=hid (by
  rcases Nat.eq_zero_or_pos N with h0|h0
  ·exact .inl h0
  ·obtain⟨bs,os,e1,e2,e3⟩:=hl2 h0
   refine .inr ⟨bs,os,e1,e2,fun i hi=> ?_⟩
   rw[e3 i hi]
   unfold gD
   rw[List.getD_eq_getElem?_getD])
 rw[HN.out]
 obtain⟨s,hs⟩:∃s,gD seen=s:=⟨_,rfl⟩
 rw[hs]at HIN HSC⊢
 clear hl2 hv hf hi64 hlen hN hs hsm hp
 obtain⟨mk,hmk⟩:=mk_ex (P:=Tryz.prog) 45 3 (.int .i64 0) 8 Tryz.underlying45 Tryz.info3 rfl (by decide) (N+2) (by omega)
 have hmkr:∀w,(Instr.makeSlice 45 (.int .i64 ((N:Int)+2)) (.int .i64 ((N:Int)+2))).run Tryz.prog w= .ok (.slice (some ⟨w.heap.size,0,none⟩) (N+2) (N+2)) (mk w):=fun w=>by
  have:=(hmk w).1
  rw[show((N+2:Nat):Int)=(N:Int)+2 by omega]at this
  exact this
 have HMK:=hid (fun w=>(hmk w).2)
 clear hmk
 go_enter Tryz.func37,Tryz.ntmps37
 go_wp2_with fail
 refine(HMO.out _).mono ?_
 rintro e w0 ⟨rfl,rfl⟩
 go_wp2_with fail
 refine(HFI.out _ (Below.refl _ _)).mono ?_
 rintro e w1 ⟨rfl,hb1⟩
 have H1:=hid hb1
 clear hb1 HMO HFI
 go_wp2_with fail
 have HQ12:Hid (OI w.heap.size (mk (mk w1.drew)) (.slice (some ⟨w1.heap.size,0,none⟩) (N+2) (N+2)) (List.replicate (N+2) 0)∧OI w.heap.size (mk (mk w1.drew)) (.slice (some ⟨(mk w1.drew).heap.size,0,none⟩) (N+2) (N+2)) (List.replicate (N+2) 0)∧w1.heap.size≠(mk w1.drew).heap.size∧Below w.heap.size w (mk (mk w1.drew))):=hid (by
  obtain⟨a1,a2,a3⟩:=HMK.out w1.drew
  obtain⟨b1,b2,b3⟩:=HMK.out (mk w1.drew)
  have hs:=H1.out.size
  have o1:OI w1.heap.size (mk w1.drew) (.slice (some ⟨w1.heap.size,0,none⟩) (N+2) (N+2)) (List.replicate (N+2) 0):=by
   unfold OI;rw[List.map_replicate];exact a1
  have o2:OI (mk w1.drew).heap.size (mk (mk w1.drew)) (.slice (some ⟨(mk w1.drew).heap.size,0,none⟩) (N+2) (N+2)) (List.replicate (N+2) 0):=by
   unfold OI;rw[List.map_replicate];exact b1
  have a3':w1.heap.size<(mk w1.drew).heap.size:=a3
  refine⟨(OI.kept o1 b2 (.inr (by simp[Value.ownBlock]))).mono hs,o2.mono (by omega),by omega,?_⟩
  exact((H1.out.drew).grown a2 hs (fun k h=>by cases h)).grown b2 (by omega) (fun k h=>by cases h))
 go_region
 rotate_left
 generalize (mk w1.drew).heap.size=bn at*
 generalize w1.heap.size=bo at*
 generalize mk (mk w1.drew)=W2 at*
 have HQ:=hid (And.intro HQ12.out.2.1 (And.intro HQ12.out.1 (And.intro (Ne.symm HQ12.out.2.2.1) HQ12.out.2.2.2)))
 clear HQ12 HMK hmkr H1
 rotate_left
 generalize (mk w1.drew).heap.size=bo at*
 generalize w1.heap.size=bn at*
 generalize mk (mk w1.drew)=W2 at*
 have HQ:=HQ12
 clear HQ12 HMK hmkr H1
 all_goals
  have hsA:=HQ.out.1.stored 0 1
  have hcA:=HQ.out.1.cell 0 (by simp)
  have hfA:=HQ.out.1.frozen 0
  have hoB:=HQ.out.2.1.kept hsA.2 (.inr (fun e=>HQ.out.2.2.1 (Option.some.inj e).symm))
  have hsB:=hoB.stored 0 1
  have hcB:=hoB.cell 0 (by simp)
  have hfB:=hoB.frozen 0
  have hbN:w.heap.size≤bn:=(HQ.out.1.lt bn rfl).1
  have hbO:w.heap.size≤bo:=(HQ.out.2.1.lt bo rfl).1
  have hbA:=HQ.out.2.2.2.grown hsA.2 HQ.out.2.2.2.size (fun k h=>by cases h;exact hbN)
  have hbB:=hbA.grown hsB.2 hbA.size (fun k h=>by cases h;exact hbO)
  have HS:Hid (OI w.heap.size ((W2.setCell ⟨bn,0,none⟩ (.int .i64 1)).setCell ⟨bo,0,none⟩ (.int .i64 1)) (.slice (some ⟨bn,0,none⟩) (N+2) (N+2)) (one0 (N+2))∧OI w.heap.size ((W2.setCell ⟨bn,0,none⟩ (.int .i64 1)).setCell ⟨bo,0,none⟩ (.int .i64 1)) (.slice (some ⟨bo,0,none⟩) (N+2) (N+2)) (one0 (N+2))∧Below w.heap.size w ((W2.setCell ⟨bn,0,none⟩ (.int .i64 1)).setCell ⟨bo,0,none⟩ (.int .i64 1))):=hid ⟨hsA.1.kept hsB.2 (.inr (fun e=>HQ.out.2.2.1 (Option.some.inj e))),hsB.1,hbB⟩
  have hzp:(0:Int)<(N:Int)+2:=by omega
  clear hsA hoB hsB hbA hbB HQ hbN hbO
  go_wp2_with fail
 all_goals
  clear hcA hfA hcB hfB
  go_loopw [8,9,10,11,12,13,14,15,16,17,18,48] (fun v8 v9 v10 v11 v12 _ _ _ _ _ _ v48 wr=>∃(n:Nat) (nl ol:List Int) (L g b:Nat),n≤N∧v10= .int .i64 L∧v11= .int .i64 g∧v12= .int .i64 b∧v48= .int .i64 n∧Hid (LK P (N+2) s n nl ol L g b)∧OI w.heap.size wr v8 nl∧OI w.heap.size wr v9 ol∧Below w.heap.size w wr) (fun _ _ _ _ _ _ _ _ _ _ _ v48 _=>N-(intOf v48).toNat)
  case atStart=>exact⟨0,one0 (N+2),one0 (N+2),0,1,1,Nat.zero_le _,rfl,rfl,rfl,rfl,hid (LK.start s (by omega) (by omega)),HS.out.1,HS.out.2.1,HS.out.2.2⟩
  case round=>
   clear HS
   obtain⟨n,nl,ol,L,g,b,hn,rfl,rfl,rfl,rfl,HK,ho,hoo,hB⟩:=hrel
   obtain⟨bn2,cn,e8,hgn,hgn2⟩:=ho.form (by rw[HK.out.l1];omega)
   rw[HK.out.l1]at e8
   subst e8
   obtain⟨bo2,co,e9,hgo,hgo2⟩:=hoo.form (by rw[HK.out.l2];omega)
   rw[HK.out.l2]at e9
   subst e9
   have hLn:=HK.out.bm.ln
   by_cases hlt:n<N
   ·have hlti:(n:Int)<(N:Int):=by omega
    obtain⟨bs,os,rfl,hbs,hcs⟩:∃bs os,sv=some ⟨bs,os,none⟩∧bs<w.heap.size∧∀i,i<N→w.cell? ⟨bs,os+i,none⟩=some (.int .i64 (s i)):=by
     rcases HSC.out with h|h
     ·omega
     ·exact h
    have HCS:=hid hcs
    obtain⟨f,hf⟩:∃f:Nat→Int,(fun i=>gD nl i*s (n-i))=f:=⟨_,rfl⟩
    have HF0:Hid (sm f 0=0):=hid rfl
    have HFS:Hid (∀i,sm f (i+1)=sm f i+gD nl i*s (n-i)):=hid (fun i=>by rw[←hf];rfl)
    have HFB:=hid (fun j=>sm_bd (f:=f) j (fun i _=>by rw[←hf];exact mul_bd (HK.out.i1 i) (HIN.out (n-i)) (by omega)))
    have HFE:Hid (sm f (L+1)=disc s (gD nl) L n):=hid (by rw[←hf];rfl)
    have HX:=hid (And.intro ho (And.intro hoo hB))
    clear hf hcs ho hoo hB
    go_wp2_with fail
    go_loopw [14,15] (fun x y wq=>∃i:Nat,x= .int .i64 (sm f i)∧y= .int .i64 i∧i≤L+1∧OI w.heap.size wq (.slice (some ⟨bn2,0,none⟩) (N+2) cn) nl∧OI w.heap.size wq (.slice (some ⟨bo2,0,none⟩) (N+2) co) ol∧Below w.heap.size w wq) (fun _ y _=>L+1-(intOf y).toNat)
    case atStart=>exact⟨0,by rw[HF0.out],rfl,Nat.zero_le _,HX.out.1,HX.out.2.1,HX.out.2.2⟩
    case round=>
     clear HX
     obtain⟨i,rfl,rfl,hil,ho,hoo,hB⟩:=hrel
     by_cases hle:i≤L
     ·have hlei:(i:Int)≤(L:Int):=by omega
      have hcn:=ho.cell i (by rw[HK.out.l1];omega)
      have hcd:=(hB.cell (p:=⟨bs,os+(n-i),none⟩) hbs).trans (HCS.out (n-i) (by omega))
      have hsub:(n:Int)-(i:Int)=((n-i:Nat):Int):=by omega
      have hni:n-i<N:=by omega
      have hmb:=mul_bd (HK.out.i1 i) (HIN.out (n-i)) (by omega)
      have hfb:=HFB.out i
      have hfs:=HFS.out i
      rw[show nl.getD i 0=gD nl i from rfl]at hcn
      have hcn:wr.drew.cell? ⟨bn2,i,none⟩=_:=hcn
      have hcd:wr.drew.cell? ⟨bs,os+(n-i),none⟩=_:=hcd
      have HX:=hid (And.intro ho.drew (And.intro hoo.drew hB.drew))
      have HFSI:=hid hfs
      have hiN:i<N+2:=by omega
      clear ho hoo hB hfs
      generalize n-i=ni at*
      generalize sm f i=acc at*
      generalize gD nl i=a at*
      generalize s ni=c at*
      generalize hm:a*c=m at*
      go_wp2
      go_region
      go_wp2
      go_roundw
      case rel=>exact⟨i+1,by rw[HFSI.out],by go_num,by omega,HX.out.1,HX.out.2.1,HX.out.2.2⟩
      case measure=>simp[intOf]<;>omega
     ·obtain rfl:i=L+1:=by omega
      have hlei:¬((L+1:Nat):Int)≤(L:Int):=by omega
      have hfb:=HFB.out (L+1)
      rw[HFE.out]at hfb⊢
      obtain⟨d,hd⟩:∃d:Nat,disc s (gD nl) L n%(P:Int)=(d:Int):=⟨(disc s (gD nl) L n%(P:Int)).toNat,(Int.toNat_of_nonneg (Int.emod_nonneg _ (by omega))).symm⟩
      have hdt:(disc s (gD nl) L n).tmod (P:Int)=(d:Int):=by rw[Int.tmod_eq_emod_of_nonneg hfb.1];exact hd
      have hdP:(d:Int)<(P:Int):=by rw[←hd];exact Int.emod_lt_of_pos _ (by omega)
      have hdd:(P:Int)∣disc s (gD nl) L n-(d:Int):=by rw[←hd];exact⟨disc s (gD nl) L n/P,by rw[Int.emod_def];omega⟩
      have HDD:=hid hdd
      have HX:=hid (And.intro ho (And.intro hoo hB))
      have hwB:=hB.size
      have hgn3:=(ho.lt bn2 rfl).2
      have hgo3:=(hoo.lt bo2 rfl).2
      have hPz:(P:Int)≠0:=by omega
      clear hd hdd ho hoo hB HF0 HFS HFB
      obtain⟨D,hDe⟩:∃D,disc s (gD nl) L n=D:=⟨_,rfl⟩
      rw[hDe]at hfb hdt HDD HFE⊢
      have HDE:=hid hDe
      clear hDe
      generalize hL1:L+1=L1 at*
      have HL1:=hid hL1
      clear hL1 hil hle
      have hgg:=HK.out.g2
      by_cases hd0:d=0
      ·subst hd0
       have HNX:=hid (HK.out.same (by rw[HDE.out];have:=HDD.out;rwa [Int.natCast_zero,Int.sub_zero]at this))
       rw[show((0:Nat):Int)=0 from rfl]at hdt
       go_wp2
       go_roundw
       case rel=>exact⟨n+1,nl,ol,L,g+1,b,by omega,rfl,by go_num,rfl,by go_num,hid HNX.out,HX.out.1,HX.out.2.1,HX.out.2.2⟩
       case measure=>simp[intOf]<;>omega
      ·obtain⟨iv,hiv1,hiv2,hiv3,hiv4⟩:=inv_ex HSP.out HK.out.b1 (show b<P by have:=HK.out.b2;omega)
       have HIV:=hid (fun w1=>inverse_any P b iv w1 (by omega) (show b<P by have:=HK.out.b2;omega) hiv1 hiv2 hiv3 hiv4)
       have hdne:((d:Int)==0)=false:=by rw[beq_eq_false_iff_ne];omega
       obtain⟨t,ht⟩:∃t:Nat,d*iv%P=t:=⟨_,rfl⟩
       have htP:t<P:=by rw[←ht];exact Nat.mod_lt _ (by omega)
       have HT:Hid ((P:Int)∣(t:Int)*(b:Int)-disc s (gD nl) L n):=hid (by
        rw[HDE.out]
        refine mend_ok HDD.out (iv:=iv) ?_ ?_
        ·refine⟨((b*iv/P:Nat):Int),?_⟩
         have:=Nat.div_add_mod (b*iv) P
         rw[hiv3]at this
         rw[←Int.natCast_mul,←Int.natCast_mul]
         omega
        ·refine⟨((d*iv/P:Nat):Int),?_⟩
         have:=Nat.div_add_mod (d*iv) P
         rw[ht]at this
         rw[←Int.natCast_mul,←Int.natCast_mul]
         omega)
       have hpr:(d:Int)*(iv:Int)=((d*iv:Nat):Int):=(Int.natCast_mul _ _).symm
       have hpb:d*iv≤49:=Nat.mul_le_mul (show d≤7 by omega) (show iv≤7 by omega)
       have hprm:((d*iv:Nat):Int).tmod (P:Int)=(t:Int):=by rw[←ht];exact(Int.ofNat_tmod _ _).symm
       clear ht hiv3 hiv4
       generalize d*iv=dv at*
       go_wp2_with fail
       refine(HIV.out _).mono ?_
       rintro e w2 ⟨rfl,rfl⟩
       have HCL:=hid (clone_ints bn2 0 (N+2) cn nl wr (HX.out.1.sl (by rw[HK.out.l1];omega)) (by rw[HK.out.l1];omega))
       clear HIV
       go_wp2_with fail
       refine HCL.out.mono ?_
       rintro e w3 ⟨⟨u17x,rfl,hu⟩,hb3⟩
       obtain⟨bx,cx,e17,hgx,hgx2⟩:=hu.form (by rw[HK.out.l1];omega)
       rw[HK.out.l1]at e17
       subst e17
       have hg1:=HK.out.g1
       have hg2:=HK.out.g2
       have HP0:Hid (nxP P t nl ol g g=nl):=hid (nxP_zero _ _ _ _ _)
       have HPL:=hid (fun i=>(nxP_len (P:Int) (t:Int) nl ol g i).trans HK.out.l1)
       have HPI:=hid (fun i j=>nxP_in (p:=(P:Int)) (t:=(t:Int)) (nl:=nl) (ol:=ol) (g:=g) (i:=i) (by omega) HK.out.i1 j)
       have HPS:=hid (fun i (h1:g≤i) (h2:i<N+2)=>nxP_step (p:=(P:Int)) (t:=(t:Int)) (nl:=nl) (ol:=ol) h1 (show i<nl.length by rw[HK.out.l1];exact h2))
       have HY:=hid (And.intro (hu.mono (show w.heap.size≤wr.heap.size by omega)) (And.intro (HX.out.1.below hb3) (And.intro (HX.out.2.1.below hb3) (HX.out.2.2.trans (hb3.mono hwB)))))
       clear hu hb3 HCL HX hpr hprm hdt
       go_wp2_with fail
       go_loopw [18] (fun x wq=>∃i:Nat,x= .int .i64 i∧g≤i∧i≤N+2∧OI w.heap.size wq (.slice (some ⟨bx,0,none⟩) (N+2) cx) (nxP P t nl ol g i)∧OI w.heap.size wq (.slice (some ⟨bn2,0,none⟩) (N+2) cn) nl∧OI w.heap.size wq (.slice (some ⟨bo2,0,none⟩) (N+2) co) ol∧Below w.heap.size w wq) (fun x _=>N+2-(intOf x).toNat)
       case atStart=>exact⟨g,rfl,Nat.le_refl _,by omega,by rw[HP0.out];exact HY.out.1,HY.out.2.1,HY.out.2.2.1,HY.out.2.2.2⟩
       case round=>
        clear HY
        obtain⟨i,rfl,hgi,hiN,hx,ho,hoo,hB⟩:=hrel
        by_cases hie:i<N+2
        ·have hii:(i:Int)<(N:Int)+2:=by omega
         have hcx:=hx.cell i (by rw[HPL.out];exact hie)
         have hfx:=hx.frozen i
         have hco:=hoo.cell (i-g) (by rw[HK.out.l2];omega)
         have hst:=OI.stored (w:=wr.drew) hx i ((gD (nxP P t nl ol g i) i+((P:Int)-t)*gD ol (i-g))%P)
         rw[HPS.out i hgi hie]at hst
         have hsub:(i:Int)-(g:Int)=((i-g:Nat):Int):=by omega
         have hxi:=HPI.out i i
         have hol:=HK.out.i2 (i-g)
         have hmul:0≤((P:Int)-t)*gD ol (i-g)∧((P:Int)-t)*gD ol (i-g)≤49:=by
          refine⟨Int.mul_nonneg (by omega) hol.1,?_⟩
          have:((P:Int)-t)*gD ol (i-g)≤7*7:=Int.mul_le_mul (by omega) (by omega) hol.1 (by omega)
          omega
         have htm:(gD (nxP P t nl ol g i) i+((P:Int)-t)*gD ol (i-g)).tmod (P:Int)=(gD (nxP P t nl ol g i) i+((P:Int)-t)*gD ol (i-g))%P:=Int.tmod_eq_emod_of_nonneg (by omega)
         have hlow:=Int.emod_nonneg (gD (nxP P t nl ol g i) i+((P:Int)-t)*gD ol (i-g)) (b:=(P:Int)) (by omega)
         have hupp:=Int.emod_lt_of_pos (gD (nxP P t nl ol g i) i+((P:Int)-t)*gD ol (i-g)) (b:=(P:Int)) (by omega)
         have HZ:=hid (And.intro hst.1 (And.intro (OI.kept (w:=wr.drew) ho hst.2 (.inr (fun e=>by have:bn2=bx:=Option.some.inj e;omega))) (And.intro (OI.kept (w:=wr.drew) hoo hst.2 (.inr (fun e=>by have:bo2=bx:=Option.some.inj e;omega))) ((hB.drew).grown hst.2 hB.size (fun k h=>by cases h;omega)))))
         rw[show(nxP P t nl ol g i).getD i 0=gD (nxP P t nl ol g i) i from rfl]at hcx
         rw[show ol.getD (i-g) 0=gD ol (i-g)from rfl]at hco
         have hcx:wr.drew.cell? ⟨bx,i,none⟩=_:=hcx
         have hfx:wr.drew.frozen? ⟨bx,i,none⟩=false:=hfx
         have hco:wr.drew.cell? ⟨bo2,i-g,none⟩=_:=hco
         have hige:i-g<N+2:=by omega
         clear hx ho hoo hB hst
         generalize i-g=ig at*
         generalize gD (nxP P t nl ol g i) i=x at*
         generalize gD ol ig=y at*
         generalize hm:((P:Int)-t)*y=m at*
         generalize hr:(x+m)%(P:Int)=r at*
         have HR:=hid hr
         clear hr
         go_wp2
         go_region
         go_wp2
         go_roundw
         case rel=>exact⟨i+1,by go_num,by omega,by omega,HZ.out.1,HZ.out.2.1,HZ.out.2.2.1,HZ.out.2.2.2⟩
         case measure=>simp[intOf]<;>omega
        ·obtain rfl:i=N+2:=by omega
         have hii:¬((N+2:Nat):Int)<(N:Int)+2:=by omega
         have HZ:=hid (And.intro hx (And.intro ho (And.intro hoo hB)))
         clear hx ho hoo hB
         by_cases h2:2*L≤n
         ·have h2i:2*(L:Int)≤(n:Int):=by omega
          have hnl:(n:Int)+1-(L:Int)=((n+1-L:Nat):Int):=by omega
          have HNX:=hid (HK.out.grow (d:=d) (by omega) (show n+1<N+2 by omega) (by omega) hdP (by rw[HDE.out];exact HDD.out) HT.out h2)
          generalize n+1-L=nL at*
          go_wp2
          go_roundw
          case rel=>exact⟨n+1,_,nl,nL,1,d,by omega,rfl,rfl,rfl,by go_num,hid HNX.out,HZ.out.1,HZ.out.2.1,HZ.out.2.2.2⟩
          case measure=>simp[intOf]<;>omega
         ·have h2i:¬2*(L:Int)≤(n:Int):=by omega
          have HNX:=hid (HK.out.keep (by omega) (show n+1<N+2 by omega) HT.out h2)
          go_wp2
          go_roundw
          case rel=>exact⟨n+1,_,ol,L,g+1,b,by omega,rfl,by go_num,rfl,by go_num,hid HNX.out,HZ.out.1,HZ.out.2.2.1,HZ.out.2.2.2⟩
          case measure=>simp[intOf]<;>omega
   ·obtain rfl:N=n:=by omega
    have hlti:¬(N:Int)<(N:Int):=by omega
    have HX:=hid (And.intro ho hB)
    have hgn3:=(ho.lt bn2 rfl).2
    have hwB:=hB.size
    clear ho hoo hB
    by_cases hL0:L=0∨N<2*L
    ·have HE:Hid (lsT P (gD nl) L N=[]):=hid (if_pos hL0)
     have hcond:((L:Int)==0)=true∨((L:Int)==0)=false∧(N:Int)<2*(L:Int):=by
      rcases hL0 with h|h
      ·exact .inl (by rw[beq_iff_eq];omega)
      ·by_cases h0:L=0
       ·exact .inl (by rw[beq_iff_eq];omega)
       ·exact .inr ⟨by rw[beq_eq_false_iff_ne];omega,by omega⟩
     clear hL0
     have hLi:(L:Int)≤60:=by omega
     rcases hcond with h|⟨h,h'⟩
     ·have hb0:(L:Int)=0:=by simpa using h
      have HL0:=hid hb0
      clear hb0
      go_wp2
      go_ret3
      exact⟨LeastR.mk rfl (by rw[HE.out];exact OI.nil _ _) HK.out.bm,HX.out.2⟩
     ·go_wp2
      go_ret3
      exact⟨LeastR.mk rfl (by rw[HE.out];exact OI.nil _ _) HK.out.bm,HX.out.2⟩
    ·have HE:Hid (lsT P (gD nl) L N=bmT P (gD nl) L):=hid (if_neg hL0)
     have h1:((L:Int)==0)=false:=by rw[beq_eq_false_iff_ne];omega
     have h2:¬(N:Int)<2*(L:Int):=by omega
     have hLi:(L:Int)≤60:=by omega
     have hcap:=HX.out.1.cap
     have hcL:(L:Int)+1≤(cn:Int):=by omega
     have hcL2:L+1≤cn:=by omega
     have hL1:1≤L:=by omega
     clear hL0
     have hsi:(1:Int)≤(L:Int)+1:=by omega
     have hsl:((L:Int)+1-1)=(L:Int):=by omega
     have hPL:=HK.out.i1
     have HPI:=hid hPL
     clear hPL
     go_wp2_with fail
     go_loopw [19,21,140] (fun o _ x wq=>∃j:Nat,x= .int .i64 j∧j≤L∧OI (bn2+1) wq o (bmT P (gD nl) j)∧OI w.heap.size wq (.slice (some ⟨bn2,0,none⟩) (N+2) cn) nl∧Below w.heap.size w wq) (fun _ _ x _=>L-(intOf x).toNat)
     case atStart=>exact⟨0,rfl,Nat.zero_le _,OI.nil _ _,HX.out.1,HX.out.2⟩
     case round=>
      clear HX
      obtain⟨j,rfl,hjL,hox,ho,hB⟩:=hrel
      by_cases hje:j=L
      ·subst hje
       have HX:=hid (And.intro (hox.mono (show w.heap.size≤bn2+1 by omega)) hB)
       clear hox ho hB
       go_wp2
       go_ret3
       exact⟨LeastR.mk rfl (by rw[HE.out];exact HX.out.1) HK.out.bm,HX.out.2⟩
      ·have hji:(j:Int)<(L:Int):=by omega
       have hc:=ho.cell (1+j) (by rw[HK.out.l1];omega)
       rw[show nl.getD (1+j) 0=gD nl (j+1)by rw[Nat.add_comm];rfl]at hc
       have hci:=HPI.out (j+1)
       have htm:((P:Int)-gD nl (j+1)).tmod (P:Int)=((P:Int)-gD nl (j+1))%P:=Int.tmod_eq_emod_of_nonneg (by omega)
       have HSN:Hid (bmT P (gD nl) (j+1)=bmT P (gD nl) j++[((P:Int)-gD nl (j+1))%P]):=hid (by unfold bmT;rw[List.range_succ,List.map_append];rfl)
       have hup:=Int.emod_lt_of_pos ((P:Int)-gD nl (j+1)) (b:=(P:Int)) (by omega)
       have hlo:=Int.emod_nonneg ((P:Int)-gD nl (j+1)) (b:=(P:Int)) (by omega)
       have hlen:(bmT P (gD nl) j).length≤1000000000000:=by rw[bmT_len];omega
       have hsz:bn2+1≤wr.heap.size:=(ho.lt bn2 rfl).2
       have HX:=hid (And.intro hox (And.intro ho hB))
       clear ho hB
       generalize ((P:Int)-gD nl (j+1))%(P:Int)=r at*
       generalize gD nl (j+1)=c at*
       go_wp2_with (at_builtin;refine wpList_appi wr _ _ 45 rfl rfl Tryz.underlying45 Tryz.info3 (bn2+1) _ _ rfl hox rfl hlen hsz ?_;intro g7 c7 w4 hown1 hg1 hg2 hg3)
       have ho4:=HX.out.2.1.kept hg1 (.inr (fun e=>by
        have:=(HX.out.1.lt bn2 e.symm).1
        omega))
       have hb4:=(HX.out.1.mono (show w.heap.size≤bn2+1 by omega)).grown HX.out.2.2 hg1 (by omega)
       have HY:=hid (And.intro (hown1.cast HSN.out.symm) (And.intro ho4 hb4))
       clear hown1 hg1 hg2 hg3 ho4 hb4 hox HX
       go_roundw
       case rel=>exact⟨j+1,by go_num,by omega,HY.out.1,HY.out.2.1,HY.out.2.2⟩
       case measure=>simp[intOf]<;>omega
end Go.Proofs.YtnnaadmegeeinaaGreatDoor
