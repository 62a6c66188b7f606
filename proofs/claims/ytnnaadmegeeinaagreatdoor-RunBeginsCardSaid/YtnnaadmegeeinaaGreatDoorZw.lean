/-
  Part 23 of a proof: what it proves stands in the last text.
-/
import Derived.Test.YtnnaadmegeeinaaGreatDoorZv
import Derived.BigRegion
import Derived.BigQuiet
import Derived.Test.YtnnaadmegeeinaaGreatDoorZc
set_option linter.unusedVariables false
set_option maxHeartbeats 8000000
set_option maxRecDepth 100000
namespace Go.Proofs.YtnnaadmegeeinaaGreatDoor
open Go.RowKit
def rN (P r c d:Nat):Nat:=(r+(P-c*d%P))%P
def rdI (P c base:Nat) (d:List Nat) (a:List Nat):Nat→List Nat
 |0=>a
 |j+1=>(rdI P c base d a j).set (base+j) (rN P ((rdI P c base d a j).getD (base+j) 0) c (d.getD j 0))
def rdO (P n k:Nat) (d:List Nat) (a:List Nat):Nat→List Nat
 |0=>a
 |s+1=>rdI P ((rdO P n k d a s).getD (k-s) 0) (k-s-n) d ((rdO P n k d a s).set (k-s) 0) n
def rdZ (a:List Nat):Bool:=a.all (·==0)
def rdB (P n k:Nat) (d low:List Nat):Bool:=rdZ (rdO P n k d (low++[1]) (k+1-n))
theorem nZ_len (l:List Nat):(nZ l).length=l.length:=by simp[nZ]
theorem nZ_getD (l:List Nat) (i:Nat):(nZ l).getD i 0=((l.getD i 0:Nat):Int):=by
 simp only[nZ,List.getD_eq_getElem?_getD,List.getElem?_map]
 cases l[i]? <;>rfl
def ofF (p x:Int):Bool:=decide (x<0)||decide (p≤x)
def rdD (P k:Nat) (low:List Nat) (g:Nat):Bool:=(List.range (P^g)).all fun c=> !(rdB P g k (dgL P c g) low)
def rdF (P k:Nat) (low:List Nat):Bool:=(List.range (k/2)).all fun i=>rdD P k low (i+1)
def toN (low:List Int):List Nat:=low.map Int.toNat
def faE (p k:Int) (low:List Int):Int:=if ordF p k=0 then 1 else if low.length≠k.toNat then 2 else if low.any (ofF p)=true then 1 else if rdF p.toNat k.toNat (toN low)=true then 0 else 4
theorem fa_bad {p k:Int} {low:List Int} (h:ordF p k=0):faE p k low=1:=if_pos h
theorem fa_len {p k:Int} {low:List Int} (h:ordF p k≠0) (h2:low.length≠k.toNat):faE p k low=2:=by rw[faE,if_neg h,if_pos h2]
theorem fa_off {p k:Int} {low:List Int} (h:ordF p k≠0) (h2:low.length=k.toNat) {i:Nat} (hi:i<low.length) (h3:ofF p (low[i]?.getD 0)=true):faE p k low=1:=by
 rw[faE,if_neg h,if_neg (by omega),if_pos]
 exact List.any_eq_true.2 ⟨_,List.getElem_mem hi,by rw[List.getElem?_eq_getElem hi,Option.getD_some]at h3;exact h3⟩
theorem fa_in {p k:Int} {low:List Int} (h:ordF p k≠0) (h2:low.length=k.toNat) (h3:∀i,i<low.length→ofF p (low[i]?.getD 0)=false):faE p k low=if rdF p.toNat k.toNat (toN low)=true then 0 else 4:=by
 rw[faE,if_neg h,if_neg (by omega),if_neg]
 intro hc
 obtain⟨x,hx,hx2⟩:=List.any_eq_true.1 hc
 obtain⟨i,hi,rfl⟩:=List.mem_iff_getElem.1 hx
 have:=h3 i hi
 rw[List.getElem?_eq_getElem hi,Option.getD_some,hx2]at this
 cases this
theorem toN_nZ {p:Int} {low:List Int} (h:∀i,i<low.length→ofF p (low[i]?.getD 0)=false):nZ (toN low)=low:=by
 apply List.ext_getElem
 ·simp[nZ,toN]
 ·intro i h1 h2
  have:=h i h2
  rw[List.getElem?_eq_getElem h2,Option.getD_some]at this
  unfold ofF at this
  simp only[Bool.or_eq_false_iff,decide_eq_false_iff_not]at this
  simp[nZ,toN]
  omega
theorem toN_lt {P:Nat} {low:List Int} (hP:0<P) (h:∀i,i<low.length→ofF P (low[i]?.getD 0)=false):∀j,(toN low).getD j 0<P:=by
 intro j
 by_cases hj:j<low.length
 ·have:=h j hj
  rw[List.getElem?_eq_getElem hj,Option.getD_some]at this
  unfold ofF at this
  simp only[Bool.or_eq_false_iff,decide_eq_false_iff_not]at this
  simp[toN,List.getD_eq_getElem?_getD,hj]
  omega
 ·simp[toN,List.getD_eq_getElem?_getD,hj]
  omega
theorem ir_rd_all:∀K,K<7→∀P,P<9→2≤K→2≤P→P^K≤64→((List.range (P^K)).all fun n=>irB P K (dgL P n 7)==rdF P K (dgL P n K))=true:=by decide+kernel
theorem ir_one (P:Nat) (l:List Nat):irB P 1 l=true:=rfl
theorem rd_one (P:Nat) (l:List Nat):rdF P 1 l=true:=rfl
theorem pow_small {P K:Nat} (hK:2≤K) (h:P^K≤64):P<9:=by
 rcases Nat.lt_or_ge P 9 with h1|h1
 ·exact h1
 ·have h2:P^2≤P^K:=Nat.pow_le_pow_right (by omega) hK
  have h3:9^2≤P^2:=Nat.pow_le_pow_left h1 2
  omega
theorem ir_rd {P K n:Nat} (h:ordF P K≠0) (hn:n<ordF P K):irB P K (dgL P n 7)=rdF P K (dgL P n K):=by
 obtain⟨P',K',e1,e2,hpr,hp2,hp61,hk1,hk6,hq64,hord⟩:=ord_pos h
 obtain rfl:P=P':=by omega
 obtain rfl:K=K':=by omega
 by_cases hk:K=1
 ·subst hk;rw[ir_one,rd_one]
 ·have:=ir_rd_all K (by omega) P (pow_small (by omega) hq64) (by omega) hp2 hq64
  rw[List.all_eq_true]at this
  have:=this n (List.mem_range.2 (by omega))
  simpa using this
theorem ir_ex_all:∀K,K<7→∀P,P<9→(!(decide (2≤K)&&decide (2≤P)&&decide (P^K≤64)&&primeB P)||((List.range (P^K)).any fun n=>irB P K (dgL P n 7)))=true:=by decide+kernel
theorem least_ex (p:Nat→Bool):∀n,p n=true→∃m,m≤n∧p m=true∧∀k,k<m→p k=false:=by
 intro n
 induction n using Nat.strongRecOn with
 |_ n ih=>
  intro h
  by_cases hx:∃k,k<n∧p k=true
  ·obtain⟨k,hk,hpk⟩:=hx
   obtain⟨m,h1,h2,h3⟩:=ih k hk hpk
   exact⟨m,by omega,h2,h3⟩
  ·refine⟨n,Nat.le_refl _,h,fun k hk=> ?_⟩
   cases hpk:p k with
   |false=>rfl
   |true=>exact absurd ⟨k,hk,hpk⟩ hx
theorem ir_ex {P K:Nat} (h:ordF P K≠0):∃n0,n0<ordF P K∧irB P K (dgL P n0 7)=true∧∀n,n<n0→irB P K (dgL P n 7)=false:=by
 obtain⟨P',K',e1,e2,hpr,hp2,hp61,hk1,hk6,hq64,hord⟩:=ord_pos h
 obtain rfl:P=P':=by omega
 obtain rfl:K=K':=by omega
 have hex:∃n,n<P^K∧irB P K (dgL P n 7)=true:=by
  by_cases hk:K=1
  ·subst hk
   exact⟨0,by simp;omega,ir_one _ _⟩
  ·have hp:primeB P=true:=by rw[pr_same P (by omega)];exact decide_eq_true hpr
   have:=ir_ex_all K (by omega) P (pow_small (by omega) hq64)
   rw[decide_eq_true (show 2≤K by omega),decide_eq_true hp2,decide_eq_true hq64,hp]at this
   simp only[Bool.and_self,Bool.not_true,Bool.false_or]at this
   obtain⟨n,hn,hb⟩:=List.any_eq_true.1 this
   exact⟨n,List.mem_range.1 hn,hb⟩
 obtain⟨n,hn,hb⟩:=hex
 obtain⟨m,h1,h2,h3⟩:=least_ex (fun n=>irB P K (dgL P n 7)) n hb
 exact⟨m,by omega,h2,h3⟩
theorem toN_of (l:List Nat):toN (nZ l)=l:=by simp[toN,nZ,List.map_map,Function.comp_def]
theorem fa_dg {P K n:Nat} (h:ordF P K≠0) (hn:n<ordF P K):faE P K (nZ (dgL P n K))=if irB P K (dgL P n 7)=true then 0 else 4:=by
 obtain⟨P',K',e1,e2,hpr,hp2,hp61,hk1,hk6,hq64,hord⟩:=ord_pos h
 obtain rfl:P=P':=by omega
 obtain rfl:K=K':=by omega
 have:=fa_in h (low:=nZ (dgL P n K)) (by rw[nZ_len,dgL_len,Int.toNat_natCast]) (fun i hi=>by
  rw[←List.getD_eq_getElem?_getD,nZ_getD]
  have:=dgL_lt (P:=P) (n:=n) hp2 K i
  unfold ofF
  rw[decide_eq_false (by omega),decide_eq_false (by omega)]
  rfl)
 rw[this,Int.toNat_natCast,Int.toNat_natCast,toN_of,ir_rd h hn]
def rmV (p k:Int) (u:Value) (q:Int):Value:= .agg #[.int .i64 p,.int .i64 k,u,.int .i64 q]
def rm0:Value:=rmV 0 0 (.slice none 0 0) 0
def numL (P:Nat):List Nat→Nat
 |[]=>0
 |x::l=>x+P*numL P l
theorem dg_zero (P j:Nat):dg P 0 j=0:=by simp[dg]
theorem dg_cons {P x m:Nat} (hx:x<P) (j:Nat):dg P (x+P*m) (j+1)=dg P m j:=by
 unfold dg
 rw[Nat.pow_succ,Nat.mul_comm (P^j) P,←Nat.div_div_eq_div_mul,Nat.add_mul_div_left _ _ (by omega),Nat.div_eq_of_lt hx,Nat.zero_add]
theorem dg_num {P:Nat}:∀(l:List Nat),(∀j,l.getD j 0<P)→∀j,dg P (numL P l) j=l.getD j 0
 |[],_,j=>by rw[numL,dg_zero];rfl
 |x::l,h,0=>by
  have h0:x<P:=h 0
  show(x+P*numL P l)/P^0%P=x
  rw[Nat.pow_zero,Nat.div_one,Nat.add_mul_mod_self_left,Nat.mod_eq_of_lt h0]
 |x::l,h,j+1=>by
  have h0:x<P:=h 0
  rw[numL,dg_cons h0]
  exact dg_num l (fun j=>h (j+1)) j
theorem num_lt {P:Nat}:∀(l:List Nat),(∀j,l.getD j 0<P)→numL P l<P^l.length
 |[],_=>by simp[numL]
 |x::l,h=>by
  have h0:x<P:=h 0
  have ih:=num_lt l (fun j=>h (j+1))
  rw[numL,List.length_cons,Nat.pow_succ,Nat.mul_comm (P^l.length) P]
  have:P*(numL P l+1)≤P*P^l.length:=Nat.mul_le_mul_left _ ih
  rw[Nat.mul_add,Nat.mul_one]at this
  omega
theorem dgL_num {P:Nat} {l:List Nat} (h:∀j,l.getD j 0<P):dgL P (numL P l) l.length=l:=by
 apply List.ext_getElem
 ·rw[dgL_len]
 ·intro i h1 h2
  simp only[dgL,List.getElem_map,List.getElem_range]
  rw[dg_num l h,List.getD_eq_getElem?_getD,List.getElem?_eq_getElem h2]
  rfl
def lwT (l:List Nat) (i:Nat):List Nat:=(List.range 7).map fun j=>if j<i then l.getD j 0 else 0
theorem lwT_len (l:List Nat) (i:Nat):(lwT l i).length=7:=by simp[lwT]
theorem lwT_zero (l:List Nat):lwT l 0=List.replicate 7 0:=by simp[lwT];rfl
theorem lwT_step (l:List Nat) {i:Nat} (hi:i<7):(lwT l i).set i (l.getD i 0)=lwT l (i+1):=by
 apply List.ext_getElem?
 intro j
 rw[List.getElem?_set]
 simp only[lwT_len]
 by_cases e:i=j
 ·subst e
  rw[if_pos rfl,if_pos hi]
  simp[lwT,hi]
 ·rw[if_neg e]
  by_cases hj:j<7
  ·simp only[lwT,List.getElem?_map,List.getElem?_range hj,Option.map_some]
   congr 1
   by_cases h2:j<i
   ·rw[if_pos h2,if_pos (by omega)]
   ·rw[if_neg h2,if_neg (by omega)]
  ·simp[lwT,hj]
theorem lwT_end {P:Nat} {l:List Nat} (h:∀j,l.getD j 0<P) (hl:l.length≤7):lwT l l.length=dgL P (numL P l) 7:=by
 unfold lwT dgL
 apply List.map_congr_left
 intro j _
 rw[dg_num l h]
 by_cases hj:j<l.length
 ·rw[if_pos hj]
 ·rw[if_neg hj,List.getD_eq_getElem?_getD,List.getElem?_eq_none (by omega)]
  rfl
theorem lwT_lt {P:Nat} {l:List Nat} (h:∀j,l.getD j 0<P) (i:Nat):∀j,(lwT l i).getD j 0<P:=by
 intro j
 have h0:=h 0
 rw[List.getD_eq_getElem?_getD]
 by_cases hj:j<7
 ·simp only[lwT,List.getElem?_map,List.getElem?_range hj,Option.map_some,Option.getD_some]
  split
  ·exact h j
  ·omega
 ·simp[lwT,hj];omega
theorem open_bad (p k:Int) (u:Value) (low:List Int) (w:World) (ik:I64 k) (hp:Prs w) (hu:Sl w u low) (h:ordF p k=0∨low.length≠k.toNat):
 Calls Tryz.prog 236 #[fldV p k u] w fun e w'=>e= .returned (.tuple #[rm0,.int .i64 (faE p k low)])∧Below w.heap.size w w':=by
 have hO:=fun w1 (hb:Below w.heap.size w w1)=>order_any p k w1 ik (hp.below hb)
 obtain⟨a,c,N,rfl,hN,hl1,hl2⟩:=hu.open
 have hA:Arr ((w.alloc (.cells #[.int .i64 p,.int .i64 k,.slice a N c] 60)).alloc (.cells #[.int .i64 0,.int .i64 0,.slice none 0 0,.int .i64 0] 172)) (w.heap.size+1) 172 [.int .i64 0,.int .i64 0,.slice none 0 0,.int .i64 0]:=by
  have:=Arr.new (w.alloc (.cells #[.int .i64 p,.int .i64 k,.slice a N c] 60)) 172 [.int .i64 0,.int .i64 0,.slice none 0 0,.int .i64 0]
  rw[World.size_alloc]at this
  exact this
 have hb0:=((Below.refl w.heap.size w).alloc (Nat.le_refl _) (.cells #[.int .i64 p,.int .i64 k,.slice a N c] 60)).alloc (by simp) (.cells #[.int .i64 0,.int .i64 0,.slice none 0 0,.int .i64 0] 172)
 have HC:=hid (hO _ hb0)
 have HB:=hid (And.intro hA hb0)
 clear hO hA hb0
 by_cases h0:ordF p k=0
 ·have HE:=hid (fa_bad (low:=low) h0)
  rw[h0]at HC
  clear hu hl2 h h0 hp
  unfold fldV
  go_enter Tryz.func236,Tryz.ntmps236
  go_wp2_with fail
  refine HC.out.mono ?_
  rintro e w1 ⟨rfl,rfl⟩
  go_wp2
  have hld:=run_loadVar_mid (P:=Tryz.prog) _ _ _ 172 _ _ HB.out.1.range Tryz.underlying172 rfl (by kernel_rfl)
  refine⟨rfl,.tuple #[rm0,.int .i64 1],?_,by rw[HE.out],HB.out.2⟩
  show((results _ _).run _ _)=_
  simp[results,Tryz.f236,asAddr,hld,rm0,rmV]
 ·have hln:low.length≠k.toNat:=h.resolve_left h0
  have HE:=hid (fa_len h0 hln)
  have hz:(!(ordF p k==0))=true:=by simp[h0]
  rw[hz]at HC
  obtain⟨P,K,rfl,rfl,hpr,hp2,hp61,hk1,hk6,hq64,hord⟩:=ord_pos h0
  rw[Int.toNat_natCast,hN.out]at hln
  have hq2:((N:Int) !=(K:Int))=true:=by simp;omega
  have hqs:ordF (P:Int) (K:Int)≤64:=by omega
  clear hu hl2 h hln hpr hord hz hp
  generalize ordF (P:Int) (K:Int)=Q at*
  unfold fldV
  go_enter Tryz.func236,Tryz.ntmps236
  go_wp2_with fail
  refine HC.out.mono ?_
  rintro e w1 ⟨rfl,rfl⟩
  go_wp2
  have hld:=run_loadVar_mid (P:=Tryz.prog) _ _ _ 172 _ _ HB.out.1.range Tryz.underlying172 rfl (by kernel_rfl)
  refine⟨rfl,.tuple #[rm0,.int .i64 2],?_,by rw[HE.out],HB.out.2⟩
  show((results _ _).run _ _)=_
  simp[results,Tryz.f236,asAddr,hld,rm0,rmV]
theorem room_one (p k:Int) (a:Option Addr) (n c:Nat) (q:Int):(#[Value.int .i64 p,Value.int .i64 k,Value.slice a n c,Value.int .i64 q]:Array Value).all (·.oneCell')=true:=by simp[Value.oneCell']
theorem Arr.at2 {w:World} {t1 t2:TypeId} {x y:Array Value} {t3:TypeId} {xs:List Value}:Arr (((w.alloc (.cells x t1)).alloc (.cells y t2)).alloc (.cells xs.toArray t3)) (w.heap.size+2) t3 xs:=by
 have:=Arr.new ((w.alloc (.cells x t1)).alloc (.cells y t2)) t3 xs
 simpa using this
theorem Arr.at1 {w:World} {t1 t2:TypeId} {x:Array Value} {ys:List Value}:Arr ((w.alloc (.cells x t1)).alloc (.cells ys.toArray t2)) (w.heap.size+1) t2 ys:=by
 have:=Arr.new (w.alloc (.cells x t1)) t2 ys
 rw[World.size_alloc]at this
 exact this
def opR (P K:Int) (u:Value) (q E:Int):Value:=if E=0 then rmV P K u q else rm0
theorem open_ok (P K:Nat) (u:Value) (low:List Int) (w:World) (hp:Prs w) (hu:Sl w u low) (h0:ordF P K≠0) (hlen:low.length=K) (hi64:∀x∈low,I64 x):
 Calls Tryz.prog 236 #[fldV P K u] w fun e w'=>e= .returned (.tuple #[opR P K u (ordF P K) (faE P K low),.int .i64 (faE P K low)])∧Below w.heap.size w w':=by
 obtain⟨P',K',e1,e2,hpr,hp2,hp61,hk1,hk6,hq64,hord⟩:=ord_pos h0
 obtain rfl:P=P':=by omega
 obtain rfl:K=K':=by omega
 have hO:=fun w1 (hb:Below w.heap.size w w1)=>order_any P K w1 (by unfold I64;omega) (hp.below hb)
 have hz:(!(ordF P K==0))=true:=by simp[h0]
 rw[hz]at hO
 have HOFF:=hid (fun i hi h=>fa_off h0 (low:=low) (by rw[Int.toNat_natCast];exact hlen) (i:=i) hi h)
 have HIN:=hid (fun h=>fa_in h0 (low:=low) (by rw[Int.toNat_natCast];exact hlen) h)
 rw[Int.toNat_natCast,Int.toNat_natCast]at HIN
 have HTL:(toN low).length=K:=by rw[toN,List.length_map];exact hlen
 have HEND:Hid ((∀i,i<low.length→ofF P (low[i]?.getD 0)=false)→irB P K (lwT (toN low) K)=rdF P K (toN low)∧∀j,(lwT (toN low) K).getD j 0<P):=hid (fun h=>by
  have hlt:=toN_lt (P:=P) (low:=low) (by omega) h
  have hn:=num_lt (toN low) hlt
  rw[HTL]at hn
  have e1:=lwT_end hlt (by omega)
  have e2:=dgL_num hlt
  rw[HTL]at e1 e2
  refine⟨?_,lwT_lt hlt K⟩
  rw[e1,ir_rd h0 (by rw[hord];exact hn),e2])
 have HIRR:=hid (fun(l:List Nat) w1 (h1:l.length=7) (h2:∀j,l.getD j 0<P)=>irreducible_ok P K l w1 hp2 (by omega) hk1 hk6 hq64 h1 h2)
 have HLL:=hid (lwT_len (toN low))
 have HLS:=hid (fun i hi=>lwT_step (toN low) (i:=i) hi)
 have HL0:=hid (lwT_zero (toN low))
 have HTN:Hid (∀i,i<K→0≤low[i]?.getD 0→low[i]?.getD 0=(((toN low).getD i 0:Nat):Int)):=hid (fun i hi hx=>by
  rw[List.getElem?_eq_getElem (by omega),Option.getD_some]at hx⊢
  simp only[toN,List.getD_eq_getElem?_getD,List.getElem?_map,List.getElem?_eq_getElem (show i<low.length by omega),Option.map_some,Option.getD_some]
  omega)
 have HI64:Hid (∀i,i<K→I64 (low[i]?.getD 0)):=hid (fun i hi=>hi64 _ (by rw[List.getElem?_eq_getElem (by omega)];exact List.getElem_mem _))
 obtain⟨a,cp,N,rfl,hN,hl1,hl2⟩:=hu.open
 obtain rfl:N=K:=by rw[←hN.out];exact hlen
 rw[hlen]at HOFF HIN HEND
 have hqs:ordF (P:Int) (N:Int)≤64:=by omega
 have hqn:((N:Int) !=(N:Int))=false:=by simp
 have hb1:=((Below.refl w.heap.size w).alloc (Nat.le_refl _) (.cells #[.int .i64 (P:Int),.int .i64 (N:Int),.slice a N cp] 60)).alloc (by simp) (.cells #[.int .i64 0,.int .i64 0,.slice none 0 0,.int .i64 0] 172)
 have HC:=hid (hO _ hb1)
 have hb2:=hb1.alloc hb1.size (.cells (pv (List.replicate 7 0)).toArray 168)
 have hF0:Arr (((w.alloc (.cells #[.int .i64 (P:Int),.int .i64 (N:Int),.slice a N cp] 60)).alloc (.cells #[.int .i64 0,.int .i64 0,.slice none 0 0,.int .i64 0] 172)).alloc (.cells (pv (List.replicate 7 0)).toArray 168)) w.heap.size 60 [.int .i64 (P:Int),.int .i64 (N:Int),.slice a N cp]:=((Arr.new w 60 [.int .i64 (P:Int),.int .i64 (N:Int),.slice a N cp]).alloc _).alloc _
 have hR0:Arr (((w.alloc (.cells #[.int .i64 (P:Int),.int .i64 (N:Int),.slice a N cp] 60)).alloc (.cells #[.int .i64 0,.int .i64 0,.slice none 0 0,.int .i64 0] 172)).alloc (.cells (pv (List.replicate 7 0)).toArray 168)) (w.heap.size+1) 172 [.int .i64 0,.int .i64 0,.slice none 0 0,.int .i64 0]:=(Arr.at1 (ys:=[.int .i64 0,.int .i64 0,.slice none 0 0,.int .i64 0])).alloc _
 have hL0:Arr (((w.alloc (.cells #[.int .i64 (P:Int),.int .i64 (N:Int),.slice a N cp] 60)).alloc (.cells #[.int .i64 0,.int .i64 0,.slice none 0 0,.int .i64 0] 172)).alloc (.cells (pv (List.replicate 7 0)).toArray 168)) (w.heap.size+2) 168 (pv (List.replicate 7 0)):=Arr.at2
 have HS:=hid (And.intro hF0 (And.intro hR0 (And.intro hL0 hb2)))
 have i4:(Tryz.prog.info? 172).map (·.size)=some 4:=by kernel_rfl
 have i3:(Tryz.prog.info? 60).map (·.size)=some 3:=by kernel_rfl
 have HL2:=hid hl2
 generalize faE (P:Int) (N:Int) low=E at*
 generalize ordF (P:Int) (N:Int)=Q at*
 clear hpr hord hq64 hlen hi64 h0 hO hz hb1 hb2 hF0 hR0 hL0 hu hl2 hp HTL
 unfold fldV
 go_enter Tryz.func236,Tryz.ntmps236
 go_wp2_with fail
 refine HC.out.mono ?_
 rintro e w1 ⟨rfl,rfl⟩
 go_wp2
 go_loopw [7,8,30] (fun _ _ x wr=>∃i:Nat,i≤N∧x= .int .i64 i∧Hid (∀j,j<i→ofF P (low[j]?.getD 0)=false)∧Arr wr w.heap.size 60 [.int .i64 (P:Int),.int .i64 (N:Int),.slice a N cp]∧Arr wr (w.heap.size+1) 172 [.int .i64 0,.int .i64 0,.slice none 0 0,.int .i64 0]∧Arr wr (w.heap.size+2) 168 (pv (lwT (toN low) i))∧Below w.heap.size w wr) (fun _ _ x _=>N-(intOf x).toNat)
 case atStart=>exact⟨0,Nat.zero_le _,rfl,hid (fun j hj=>by omega),HS.out.1,HS.out.2.1,by rw[HL0.out];exact HS.out.2.2.1,HS.out.2.2.2⟩
 case round=>
  clear HS
  obtain⟨i,hi,rfl,hH,hF,hR,hL,hb⟩:=hrel
  have k0:=hF.cell 0
  have k1:=hF.cell 1
  have k2:=hF.cell 2
  simp only[List.getElem?_cons_zero,List.getElem?_cons_succ]at k0 k1 k2
  by_cases hlt:i<N
  ·obtain⟨b,off,rfl,hbl,hc⟩:=HL2.out (by omega)
   have hca:=(hb.cell (p:=⟨b,off+i,none⟩) hbl).trans (hc i hlt)
   have hii:=HI64.out i hlt
   have HOFI:=hid (HOFF.out i hlt)
   have HNX:Hid (ofF P (low[i]?.getD 0)=false→∀j,j<i+1→ofF P (low[j]?.getD 0)=false):=hid (fun h j hj=>by
    by_cases e:j=i
    ·rw[e];exact h
    ·exact hH.out j (by omega))
   have hNi:(i:Int)<(N:Int):=by omega
   have htn:=HTN.out i hlt
   have hlc:=hL.cell i
   rw[pv_get (by rw[HLL.out];omega)]at hlc
   have hlf:=hL.frozen i
   have hst:=hL.stored i (.int .i64 (((toN low).getD i 0:Nat):Int))
   rw[pv_set,HLS.out i (by omega)]at hst
   have HX:=hid (And.intro (hF.kept hst.2 (by simp)) (And.intro (hR.kept hst.2 (by simp)) (And.intro hst.1 (hb.grown hst.2 hb.size (fun k h=>by cases h;omega)))))
   have HR:=hid (And.intro hR hb)
   have hi7:(i:Int)<7:=by omega
   clear hc hH hF hR hL hb hst
   generalize low[i]?.getD 0=x at*
   unfold I64 at hii
   by_cases hx0:x<0
   ·have hd:decide (x<0)=true:=decide_eq_true hx0
    have hE:=HOFI.out (by unfold ofF;rw[hd,Bool.true_or])
    subst hE
    clear HOFI HNX htn
    have t8:wr.there (w.heap.size+1) 0 (#[Value.int .i64 0,Value.int .i64 0,Value.slice none 0 0,Value.int .i64 0]:Array Value).size:=HR.out.1.there
    have hR9:Arr (wr.setCells (w.heap.size+1) 0 [Value.int .i64 0,Value.int .i64 0,Value.slice none 0 0,Value.int .i64 0]) (w.heap.size+1) 172 [Value.int .i64 0,Value.int .i64 0,Value.slice none 0 0,Value.int .i64 0]:=Arr.setCells [Value.int .i64 0,Value.int .i64 0,Value.slice none 0 0,Value.int .i64 0] [] _ wr HR.out.1 rfl
    have hg9:=grown_setCells (b:=w.heap.size+1) [Value.int .i64 0,Value.int .i64 0,Value.slice none 0 0,Value.int .i64 0] 0 wr
    have H9:=hid (And.intro hR9 (HR.out.2.grown hg9 HR.out.2.size (fun k h=>by cases h;omega)))
    clear hR9 hg9
    go_wp2_with (refine wpList_store_mid rfl 172 _ _ rfl (w.heap.size+1) 0 #[Value.int .i64 0,Value.int .i64 0,Value.slice none 0 0,Value.int .i64 0] rfl rfl t8 i4 (room_one _ _ _ _ _ _) ?_;show wpList _ _ _ _ _ (wr.setCells (w.heap.size+1) 0 [Value.int .i64 0,Value.int .i64 0,Value.slice none 0 0,Value.int .i64 0]))
    have hld:=run_loadVar_mid (P:=Tryz.prog) _ _ _ 172 _ _ H9.out.1.range Tryz.underlying172 rfl i4
    refine⟨rfl,.tuple #[rm0,.int .i64 1],?_,rfl,H9.out.2⟩
    show((results _ _).run _ _)=_
    simp[results,Tryz.f236,asAddr,hld,rm0,rmV]
   ·have hd:decide (x<0)=false:=decide_eq_false hx0
    by_cases hxp:(P:Int)≤x
    ·have hd2:decide ((P:Int)≤x)=true:=decide_eq_true hxp
     have hE:=HOFI.out (by unfold ofF;rw[hd,hd2];rfl)
     subst hE
     clear HOFI HNX htn
     have t8:wr.there (w.heap.size+1) 0 (#[Value.int .i64 0,Value.int .i64 0,Value.slice none 0 0,Value.int .i64 0]:Array Value).size:=HR.out.1.there
     have hR9:Arr (wr.setCells (w.heap.size+1) 0 [Value.int .i64 0,Value.int .i64 0,Value.slice none 0 0,Value.int .i64 0]) (w.heap.size+1) 172 [Value.int .i64 0,Value.int .i64 0,Value.slice none 0 0,Value.int .i64 0]:=Arr.setCells [Value.int .i64 0,Value.int .i64 0,Value.slice none 0 0,Value.int .i64 0] [] _ wr HR.out.1 rfl
     have hg9:=grown_setCells (b:=w.heap.size+1) [Value.int .i64 0,Value.int .i64 0,Value.slice none 0 0,Value.int .i64 0] 0 wr
     have H9:=hid (And.intro hR9 (HR.out.2.grown hg9 HR.out.2.size (fun k h=>by cases h;omega)))
     clear hR9 hg9
     go_wp2_with (refine wpList_store_mid rfl 172 _ _ rfl (w.heap.size+1) 0 #[Value.int .i64 0,Value.int .i64 0,Value.slice none 0 0,Value.int .i64 0] rfl rfl t8 i4 (room_one _ _ _ _ _ _) ?_;show wpList _ _ _ _ _ (wr.setCells (w.heap.size+1) 0 [Value.int .i64 0,Value.int .i64 0,Value.slice none 0 0,Value.int .i64 0]))
     have hld:=run_loadVar_mid (P:=Tryz.prog) _ _ _ 172 _ _ H9.out.1.range Tryz.underlying172 rfl i4
     refine⟨rfl,.tuple #[rm0,.int .i64 1],?_,rfl,H9.out.2⟩
     show((results _ _).run _ _)=_
     simp[results,Tryz.f236,asAddr,hld,rm0,rmV]
    ·have hd2:decide ((P:Int)≤x)=false:=decide_eq_false hxp
     have HX2:=hid (HNX.out (by unfold ofF;rw[hd,hd2];rfl))
     have hxe:=htn (by omega)
     clear HOFI HNX htn hd hd2
     generalize (toN low).getD i 0=xn at*
     subst hxe
     generalize (lwT (toN low) i).getD i 0=old at*
     go_wp2
     go_roundw
     case rel=>exact⟨i+1,by omega,by go_num,HX2,HX.out.1,HX.out.2.1,HX.out.2.2.1,HX.out.2.2.2⟩
     case measure=>simp[intOf]<;>omega
  ·obtain rfl:i=N:=by omega
   have hEE:=HIN.out hH.out
   obtain⟨hir,hlw⟩:=HEND.out hH.out
   have HII:=hid (fun w1=>HIRR.out _ w1 (HLL.out i) hlw)
   rw[hir]at HII
   have HEE:=hid hEE
   have r5:=hL.range
   have i5:(Tryz.prog.info? 168).map (·.size)=some (pv (lwT (toN low) i)).length:=by rw[pv_len,HLL.out];kernel_rfl
   have HA:=hid (And.intro hF (And.intro hR hb))
   clear hEE hir hlw HOFF HIN HEND hH hF hR hL hb
   generalize rdF P i (toN low)=B at*
   generalize lwT (toN low) i=lw at*
   go_wp2_with (refine wpList_load_mid rfl 168 _ rfl (w.heap.size+2) 0 rfl (pv lw) _ r5 Tryz.underlying168 rfl i5 ?_)
   refine(HII.out _).mono ?_
   rintro e w6 ⟨rfl,hb6⟩
   have hF6:=HA.out.1.below hb6
   have hR6:=HA.out.2.1.below hb6
   have hb6':=HA.out.2.2.trans (hb6.mono HA.out.2.2.size)
   clear hb6 r5 k0 k1 k2
   cases B with
   |false=>
    have hE:E=4:=HEE.out
    subst hE
    have t8:w6.there (w.heap.size+1) 0 (#[Value.int .i64 0,Value.int .i64 0,Value.slice none 0 0,Value.int .i64 0]:Array Value).size:=hR6.there
    have hR9:Arr (w6.setCells (w.heap.size+1) 0 [Value.int .i64 0,Value.int .i64 0,Value.slice none 0 0,Value.int .i64 0]) (w.heap.size+1) 172 [Value.int .i64 0,Value.int .i64 0,Value.slice none 0 0,Value.int .i64 0]:=Arr.setCells [Value.int .i64 0,Value.int .i64 0,Value.slice none 0 0,Value.int .i64 0] [] _ w6 hR6 rfl
    have hg9:=grown_setCells (b:=w.heap.size+1) [Value.int .i64 0,Value.int .i64 0,Value.slice none 0 0,Value.int .i64 0] 0 w6
    have H9:=hid (And.intro hR9 (hb6'.grown hg9 hb6'.size (fun k h=>by cases h;omega)))
    clear hF6 hR6 hb6' hR9 hg9
    go_wp2_with (refine wpList_store_mid rfl 172 _ _ rfl (w.heap.size+1) 0 #[Value.int .i64 0,Value.int .i64 0,Value.slice none 0 0,Value.int .i64 0] rfl rfl t8 i4 (room_one _ _ _ _ _ _) ?_;show wpList _ _ _ _ _ (w6.setCells (w.heap.size+1) 0 [Value.int .i64 0,Value.int .i64 0,Value.slice none 0 0,Value.int .i64 0]))
    have hld:=run_loadVar_mid (P:=Tryz.prog) _ _ _ 172 _ _ H9.out.1.range Tryz.underlying172 rfl i4
    refine⟨rfl,.tuple #[rm0,.int .i64 4],?_,rfl,H9.out.2⟩
    show((results _ _).run _ _)=_
    simp[results,Tryz.f236,asAddr,hld,rm0,rmV]
   |true=>
    have hE:E=0:=HEE.out
    subst hE
    have r6:=hF6.range
    have t8:w6.there (w.heap.size+1) 0 (#[Value.int .i64 (P:Int),Value.int .i64 (i:Int),Value.slice a i cp,Value.int .i64 (Q:Int)]:Array Value).size:=hR6.there
    have hR9:Arr (w6.setCells (w.heap.size+1) 0 [Value.int .i64 (P:Int),Value.int .i64 (i:Int),Value.slice a i cp,Value.int .i64 (Q:Int)]) (w.heap.size+1) 172 [Value.int .i64 (P:Int),Value.int .i64 (i:Int),Value.slice a i cp,Value.int .i64 (Q:Int)]:=Arr.setCells [Value.int .i64 (P:Int),Value.int .i64 (i:Int),Value.slice a i cp,Value.int .i64 (Q:Int)] [] _ w6 hR6 rfl
    have hg9:=grown_setCells (b:=w.heap.size+1) [Value.int .i64 (P:Int),Value.int .i64 (i:Int),Value.slice a i cp,Value.int .i64 (Q:Int)] 0 w6
    have H9:=hid (And.intro hR9 (hb6'.grown hg9 hb6'.size (fun k h=>by cases h;omega)))
    clear hF6 hR6 hb6' hR9 hg9
    go_wp2_with (first
     |(refine wpList_load_mid rfl 60 _ rfl w.heap.size 0 rfl [.int .i64 (P:Int),.int .i64 (i:Int),.slice a i cp] _ r6 Tryz.underlying60 rfl i3 ?_)
     |(refine wpList_store_mid rfl 172 _ _ rfl (w.heap.size+1) 0 #[Value.int .i64 (P:Int),Value.int .i64 (i:Int),Value.slice a i cp,Value.int .i64 (Q:Int)] rfl rfl t8 i4 (room_one _ _ _ _ _ _) ?_;show wpList _ _ _ _ _ (w6.setCells (w.heap.size+1) 0 [Value.int .i64 (P:Int),Value.int .i64 (i:Int),Value.slice a i cp,Value.int .i64 (Q:Int)])))
    have hld:=run_loadVar_mid (P:=Tryz.prog) _ _ _ 172 _ _ H9.out.1.range Tryz.underlying172 rfl i4
    refine⟨rfl,.tuple #[rmV P i (.slice a i cp) Q,.int .i64 0],?_,rfl,H9.out.2⟩
    show((results _ _).run _ _)=_
    simp[results,Tryz.f236,asAddr,hld,rmV]
end Go.Proofs.YtnnaadmegeeinaaGreatDoor
