/-
  Part 2 of a proof: what it proves stands in the last text.
-/
import Derived.Test.YtnnaadmegeeinaaGreatDoorZa
import Derived.Test.YtnnaadmegeeinaaGreatDoorRows
import Derived.JoinedCond
import Derived.KernelRfl
import Derived.ProofKit
import Derived.Lib.SplitLaws
import Derived.Lib.ItoaNum
import Derived.Lib.AtoiAll
import Derived.Lib.Join
import Derived.Lib.IndexMore
import Derived.Lib.Strings
set_option linter.unusedVariables false
set_option maxHeartbeats 8000000
set_option maxRecDepth 100000
namespace Go.Proofs.YtnnaadmegeeinaaGreatDoor
def sm (f:Nat→Int):Nat→Int
 |0=>0
 |j+1=>sm f j+f j
theorem sm_congr {f g:Nat→Int}:∀n,(∀i,i<n→f i=g i)→sm f n=sm g n
 |0,_=>rfl
 |n+1,h=>by rw[sm,sm,sm_congr n (fun i hi=>h i (by omega)),h n (by omega)]
theorem sm_zero {f:Nat→Int}:∀n,(∀i,i<n→f i=0)→sm f n=0
 |0,_=>rfl
 |n+1,h=>by rw[sm,sm_zero n (fun i hi=>h i (by omega)),h n (by omega)];rfl
theorem sm_add (f g:Nat→Int):∀n,sm (fun i=>f i+g i) n=sm f n+sm g n
 |0=>rfl
 |n+1=>by simp only[sm];rw[sm_add f g n];omega
theorem sm_mul (c:Int) (f:Nat→Int):∀n,sm (fun i=>c*f i) n=c*sm f n
 |0=>by simp[sm]
 |n+1=>by simp only[sm];rw[sm_mul c f n,Int.mul_add]
theorem sm_dvd {p:Int} {f:Nat→Int}:∀n,(∀i,i<n→p∣f i)→p∣sm f n
 |0,_=>⟨0,by simp[sm]⟩
 |n+1,h=>Int.dvd_add (sm_dvd n (fun i hi=>h i (by omega))) (h n (by omega))
theorem sm_dvd_sub {p:Int} {f g:Nat→Int}:∀n,(∀i,i<n→p∣f i-g i)→p∣sm f n-sm g n
 |0,_=>⟨0,by simp[sm]⟩
 |n+1,h=>by
  have h1:=Int.dvd_add (sm_dvd_sub n (fun i hi=>h i (by omega))) (h n (by omega))
  rw[show sm f n-sm g n+(f n-g n)=(sm f n+f n)-(sm g n+g n)by omega]at h1
  exact h1
theorem sm_more {f:Nat→Int} {n:Nat}:∀d,(∀i,n≤i→f i=0)→sm f (n+d)=sm f n
 |0,_=>rfl
 |d+1,h=>by rw[←Nat.add_assoc,sm,sm_more d h,h (n+d) (by omega)];omega
theorem sm_swap (f:Nat→Nat→Int):∀a b,sm (fun i=>sm (fun j=>f i j) b) a=sm (fun j=>sm (fun i=>f i j) a) b
 |0,b=>(sm_zero b (fun _ _=>rfl)).symm
 |a+1,b=>by simp only[sm];rw[sm_swap f a b,←sm_add]
theorem sm_shift {f:Nat→Int} {g:Nat} (h:∀i,i<g→f i=0):∀n,sm f (g+n)=sm (fun i=>f (g+i)) n
 |0=>sm_zero g h
 |n+1=>by rw[←Nat.add_assoc,sm,sm_shift h n,sm]
theorem sm_front (F:Nat→Int):∀m,sm F (1+m)=F 0+sm (fun j=>F (1+j)) m
 |0=>by simp[sm]
 |m+1=>by rw[←Nat.add_assoc,sm,sm_front F m,sm];omega
def disc (s C:Nat→Int) (L m:Nat):Int:=sm (fun i=>C i*s (m-i)) (L+1)
def Gen (p:Int) (s C:Nat→Int) (L n:Nat):Prop:=∀m,L≤m→m<n→p∣disc s C L m
theorem massey {p:Int} {s C C':Nat→Int} {L L' n:Nat} (h1:Gen p s C L n) (h2:¬p∣disc s C L n) (h3:Gen p s C' L' (n+1)) (h0:C' 0=1):n+1≤L+L':=by
 refine Classical.byContradiction fun hc=>h2 ?_
 have hs:=sm_swap (fun i j=>C i*(C' j*s (n-i-j))) (L+1) (L'+1)
 have e1:p∣sm (fun i=>sm (fun j=>C i*(C' j*s (n-i-j))) (L'+1)) (L+1):=by
  refine sm_dvd _ fun i hi=> ?_
  rw[sm_mul]
  exact Int.dvd_mul_of_dvd_right (h3 (n-i) (by omega) (by omega))
 rw[hs]at e1
 have e2:∀j,sm (fun i=>C i*(C' j*s (n-i-j))) (L+1)=C' j*disc s C L (n-j):=fun j=>by
  unfold disc
  rw[←sm_mul]
  refine sm_congr _ fun i hi=> ?_
  rw[show n-i-j=n-j-i by omega,←Int.mul_assoc,Int.mul_comm (C i),Int.mul_assoc]
 rw[sm_congr _ (fun j hj=>e2 j),show L'+1=1+L' by omega,sm_front,Nat.sub_zero,h0,Int.one_mul]at e1
 refine(Int.dvd_add_left (sm_dvd _ fun j hj=> ?_)).1 e1
 exact Int.dvd_mul_of_dvd_right (h1 (n-(1+j)) (by omega) (by omega))
structure BM (p:Int) (s:Nat→Int) (n:Nat) (C B:Nat→Int) (L g:Nat) (b:Int):Prop where
 c0:C 0=1
 cz:∀i,L<i→C i=0
 ln:L≤n
 gen:Gen p s C L n
 mini:∀C' L',C' 0=1→Gen p s C' L' n→L≤L'
 old:(L=0∧g=n+1∧∀i,0<i→B i=0)∨∃nB LB,nB<n∧g+nB=n∧L+LB=nB+1∧(∀i,LB<i→B i=0)∧Gen p s B LB nB∧p∣disc s B LB nB-b
theorem BM.start (p:Int) (s C B:Nat→Int) (h0:C 0=1) (hC:∀i,0<i→C i=0) (hB:∀i,0<i→B i=0) (b:Int):BM p s 0 C B 0 1 b:=
 ⟨h0,hC,Nat.le_refl _,fun m _ h=>by omega,fun _ _ _ _=>Nat.zero_le _,.inl ⟨rfl,rfl,hB⟩⟩
section
variable {p:Int} {s C B:Nat→Int} {n L g:Nat} {b:Int}
theorem Gen.mono {m:Nat} (h:Gen p s C L n) (hm:m≤n):Gen p s C L m:=fun i h1 h2=>h i h1 (by omega)
theorem BM.same (H:BM p s n C B L g b) (hd:p∣disc s C L n):BM p s (n+1) C B L (g+1) b:=by
 refine⟨H.c0,H.cz,by have:=H.ln;omega,fun m h1 h2=> ?_,fun C' L' h0 hg=>H.mini C' L' h0 (hg.mono (by omega)),?_⟩
 ·rcases Nat.lt_or_ge m n with h|h
  ·exact H.gen m h1 h
  ·obtain rfl:m=n:=by omega
   exact hd
 ·rcases H.old with⟨h1,h2,h3⟩|⟨nB,LB,h1,h2,h3⟩
  ·exact .inl ⟨h1,by omega,h3⟩
  ·exact .inr ⟨nB,LB,by omega,by omega,h3⟩
theorem BM.g1 (H:BM p s n C B L g b):1≤g:=by
 rcases H.old with⟨h1,h2,h3⟩|⟨nB,LB,h1,h2,h3⟩<;>omega
def nxF (p t:Int) (C B:Nat→Int) (g size i:Nat):Int:=if g≤i∧i<size then(C i+(p-t)*B (i-g))%p else C i
def newL (L n:Nat):Nat:=if 2*L≤n then n+1-L else L
theorem BM.far (H:BM p s n C B L g b) {i:Nat} (hi:newL L n<i) (hg:g≤i):B (i-g)=0:=by
 unfold newL at hi
 rcases H.old with⟨h1,h2,h3⟩|⟨nB,LB,h1,h2,h3,h4,_⟩
 ·subst h1 h2
  rw[if_pos (by omega)]at hi
  exact h3 _ (by omega)
 ·refine h4 _ ?_
  split at hi<;>omega
theorem BM.nx0 (H:BM p s n C B L g b) (t:Int) (size:Nat):nxF p t C B g size 0=1:=by
 unfold nxF
 rw[if_neg (by have:=H.g1;omega),H.c0]
theorem BM.nxz (H:BM p s n C B L g b) (t:Int) (size:Nat) {i:Nat} (hi:newL L n<i):nxF p t C B g size i=0:=by
 have hC:C i=0:=H.cz i (by unfold newL at hi;split at hi<;>omega)
 unfold nxF
 split
 ·rename_i h
  rw[hC,H.far hi h.1]
  simp
 ·exact hC
theorem BM.nxd (H:BM p s n C B L g b) (t:Int) {size:Nat} (hsz:n+1<size) (i:Nat):p∣nxF p t C B g size i-(C i-t*(if g≤i then B (i-g)else 0)):=by
 unfold nxF
 by_cases h:g≤i
 ·by_cases h2:i<size
  ·rw[if_pos ⟨h,h2⟩,if_pos h]
   have e:(C i+(p-t)*B (i-g))%p=C i+(p-t)*B (i-g)-p*((C i+(p-t)*B (i-g))/p):=by
    rw[Int.emod_def]
   rw[e,Int.sub_mul]
   refine⟨B (i-g)-(C i+(p*B (i-g)-t*B (i-g)))/p,?_⟩
   rw[Int.mul_sub]
   omega
  ·rw[if_neg (by omega),if_pos h,H.far (by unfold newL;have:=H.ln;split<;>omega) h]
   exact⟨0,by simp⟩
 ·rw[if_neg (by omega),if_neg h]
  exact⟨0,by simp⟩
theorem BM.nxg (H:BM p s n C B L g b) {t:Int} {size:Nat} (hsz:n+1<size) (ht:p∣t*b-disc s C L n):Gen p s (nxF p t C B g size) (newL L n) (n+1):=by
 intro m h1 h2
 have hL:L≤newL L n:=by unfold newL;split<;>omega
 have e1:p∣disc s (nxF p t C B g size) (newL L n) m-(sm (fun i=>C i*s (m-i)) (newL L n+1)-t*sm (fun i=>(if g≤i then B (i-g)else 0)*s (m-i)) (newL L n+1)):=by
  have h3:=sm_dvd_sub (p:=p) (f:=fun i=>nxF p t C B g size i*s (m-i)) (g:=fun i=>C i*s (m-i)+(-t)*((if g≤i then B (i-g)else 0)*s (m-i))) (newL L n+1) (fun i _=>by
   have h4:p∣(nxF p t C B g size i-(C i-t*(if g≤i then B (i-g)else 0)))*s (m-i):=Int.dvd_mul_of_dvd_left (H.nxd t hsz i)
   rw[Int.sub_mul,Int.sub_mul,Int.mul_assoc]at h4
   rw[Int.neg_mul]
   rw[show nxF p t C B g size i*s (m-i)-(C i*s (m-i)+ -(t*((if g≤i then B (i-g)else 0)*s (m-i))))=nxF p t C B g size i*s (m-i)-(C i*s (m-i)-t*((if g≤i then B (i-g)else 0)*s (m-i)))by omega]
   exact h4)
  rw[sm_add,sm_mul,Int.neg_mul]at h3
  rw[show sm (fun i=>C i*s (m-i)) (newL L n+1)-t*sm (fun i=>(if g≤i then B (i-g)else 0)*s (m-i)) (newL L n+1)=sm (fun i=>C i*s (m-i)) (newL L n+1)+ -(t*sm (fun i=>(if g≤i then B (i-g)else 0)*s (m-i)) (newL L n+1))from Int.sub_eq_add_neg]
  exact h3
 have e2:sm (fun i=>C i*s (m-i)) (newL L n+1)=disc s C L m:=by
  rw[show newL L n+1=L+1+(newL L n-L)by omega]
  exact sm_more _ fun i hi=>by rw[H.cz i (by omega),Int.zero_mul]
 rw[e2]at e1
 rcases H.old with⟨h3,h4,h5⟩|⟨nB,LB,h3,h4,h5,h6,h7,h8⟩
 ·
  have:newL L n=n+1:=by unfold newL;rw[if_pos (by omega)];omega
  omega
 ·have hgl:g+LB≤newL L n:=by unfold newL;split<;>omega
  have e3:sm (fun i=>(if g≤i then B (i-g)else 0)*s (m-i)) (newL L n+1)=disc s B LB (m-g):=by
   rw[show newL L n+1=g+(LB+1+(newL L n-g-LB))by omega,sm_shift (fun i hi=>by rw[if_neg (by omega),Int.zero_mul])]
   rw[sm_congr (g:=fun i=>B i*s (m-g-i)) _ (fun i _=>by rw[if_pos (by omega),show g+i-g=i by omega,show m-(g+i)=m-g-i by omega])]
   exact sm_more _ fun i hi=>by rw[h6 i (by omega),Int.zero_mul]
  rw[e3]at e1
  have e4:p∣disc s C L m-t*disc s B LB (m-g):=by
   rcases Nat.lt_or_ge m n with h|h
   ·exact Int.dvd_sub (H.gen m (by omega) h) (Int.dvd_mul_of_dvd_right (h7 (m-g) (by omega) (by omega)))
   ·obtain rfl:m=n:=by omega
    rw[show m-g=nB by omega]
    have h9:=Int.dvd_mul_of_dvd_right (b:=t) h8
    rw[Int.mul_sub]at h9
    have h10:=Int.dvd_add h9 ht
    rw[show t*disc s B LB nB-t*b+(t*b-disc s C L m)= -(disc s C L m-t*disc s B LB nB)by omega]at h10
    exact(Int.dvd_neg).1 h10
  have:=Int.dvd_add e1 e4
  rw[show disc s (nxF p t C B g size) (newL L n) m-(disc s C L m-t*disc s B LB (m-g))+(disc s C L m-t*disc s B LB (m-g))=disc s (nxF p t C B g size) (newL L n) m by omega]at this
  exact this
theorem BM.grow (H:BM p s n C B L g b) {t d:Int} {size:Nat} (hsz:n+1<size) (ht:p∣t*b-disc s C L n) (hd:¬p∣disc s C L n) (hdd:p∣disc s C L n-d) (h2:2*L≤n):BM p s (n+1) (nxF p t C B g size) C (n+1-L) 1 d:=by
 have hn:newL L n=n+1-L:=by unfold newL;rw[if_pos h2]
 refine⟨H.nx0 t size,fun i hi=>H.nxz t size (by omega),by omega,by rw[←hn];exact H.nxg hsz ht,fun C' L' h0 hg=> ?_,.inr ⟨n,L,by omega,by omega,by omega,H.cz,H.gen,hdd⟩⟩
 have:=massey H.gen hd hg h0
 omega
theorem BM.keep (H:BM p s n C B L g b) {t:Int} {size:Nat} (hsz:n+1<size) (ht:p∣t*b-disc s C L n) (h2:¬2*L≤n):BM p s (n+1) (nxF p t C B g size) B L (g+1) b:=by
 have hn:newL L n=L:=by unfold newL;rw[if_neg h2]
 refine⟨H.nx0 t size,fun i hi=>H.nxz t size (by omega),by have:=H.ln;omega,?_,fun C' L' h0 hg=>H.mini C' L' h0 (hg.mono (by omega)),?_⟩
 ·have:=H.nxg hsz ht
  rw[hn]at this
  exact this
 ·rcases H.old with⟨h1,h3,h4⟩|⟨nB,LB,h1,h3,h4⟩
  ·omega
  ·exact .inr ⟨nB,LB,by omega,by omega,h4⟩
end
end Go.Proofs.YtnnaadmegeeinaaGreatDoor
namespace Go.Proofs.YtnnaadmegeeinaaGreatDoor
theorem dot_sm (taps l:List Int):∀j,dot taps l j=sm (fun j=>taps.getD j 0*l.getD (l.length-1-j) 0) j
 |0=>rfl
 |j+1=>by rw[dot,sm,dot_sm taps l j]
theorem sm_neg (f:Nat→Int):∀n,sm (fun i=> -f i) n= -sm f n
 |0=>rfl
 |n+1=>by simp only[sm];rw[sm_neg f n];omega
def bmT (p:Int) (C:Nat→Int) (L:Nat):List Int:=(List.range L).map fun j=>(p-C (j+1))%p
theorem bmT_len (p:Int) (C:Nat→Int) (L:Nat):(bmT p C L).length=L:=by simp[bmT]
theorem bmT_in {p:Int} (hp:0<p) (C:Nat→Int) (L:Nat):∀x∈bmT p C L,0≤x∧x<p:=by
 intro x hx
 obtain⟨j,_,rfl⟩:=List.mem_map.1 hx
 exact⟨Int.emod_nonneg _ (by omega),Int.emod_lt_of_pos _ hp⟩
end Go.Proofs.YtnnaadmegeeinaaGreatDoor
namespace Go.Proofs.YtnnaadmegeeinaaGreatDoor
theorem dvd_cast {p a b:Int} (h:p∣a) (e:a=b):p∣b:=e▸h
section
variable {p:Int} {R n:Nat} {M0 M:Nat→Nat→Int} {c a:Nat} {e:Nat→Nat}
theorem dvd_emod_sub (p x:Int):p∣x%p-x:=⟨-(x/p),by rw[Int.emod_def,Int.mul_neg];omega⟩
end
section
variable {p:Int} {R n:Nat} {M0 M:Nat→Nat→Int} {a:Nat} {e:Nat→Nat}
end
end Go.Proofs.YtnnaadmegeeinaaGreatDoor
namespace Go.Proofs.YtnnaadmegeeinaaGreatDoor
def inv (f:Nat→Nat) (N:Nat):Nat:=sumN (fun j=>sumN (fun i=>if f j<f i then 1 else 0) j) N
theorem sumN_cut (g:Nat→Nat) {j:Nat}:∀N,j≤N→sumN (fun i=>if i<j then g i else 0) N=sumN g j
 |0,h=>by obtain rfl:j=0:=by omega
          rfl
 |N+1,h=>by
  by_cases e:j=N+1
  ·subst e
   exact sumN_congr _ fun i hi=>if_pos hi
  ·simp only[sumN]
   rw[sumN_cut g N (by omega),if_neg (by omega)];omega
theorem Pm.surj {N:Nat} {g:Nat→Nat} (P:Pm N g) {x:Nat} (hx:x<N):∃i,i<N∧g i=x:=by
 have h:=P.per_spec hx
 refine⟨it g (per g N x-1) x,P.it_lt hx _,?_⟩
 have:g (it g (per g N x-1) x)=it g (per g N x-1+1) x:=rfl
 rw[this,Nat.sub_add_cancel h.2.1]
 exact h.1
theorem sumN_perm {N:Nat} {g:Nat→Nat} (P:Pm N g) (h:Nat→Nat):sumN (fun i=>h (g i)) N=sumN h N:=by
 have h1:sumN (fun i=>h (g i)) N=sumN (fun i=>sumN (fun x=>if x=g i then h x else 0) N) N:=sumN_congr N fun i hi=>(sumN_one (P.lt i hi) h).symm
 rw[h1,sumN_swap]
 refine sumN_congr N fun x hx=> ?_
 obtain⟨a,ha,he⟩:=P.surj hx
 have h2:sumN (fun i=>if x=g i then h x else 0) N=sumN (fun i=>if i=a then h x else 0) N:=sumN_congr N fun i hi=>by
  by_cases e:i=a
  ·subst e;rw[if_pos rfl,if_pos he.symm]
  ·rw[if_neg e,if_neg]
   intro e2
   exact e (P.inj i a hi ha (by rw[he,e2]))
 rw[h2,sumN_one ha]
def turn (f:Nat→Nat) (x y:Nat):Nat:=if(x<y∧f y<f x)∨(y<x∧f x<f y)then 1 else 0
theorem sumN_gt (p:Nat):∀n,sumN (fun j=>if p<j then 1 else 0) n=n-(p+1)
 |0=>by simp[sumN]
 |n+1=>by
  simp only[sumN]
  rw[sumN_gt p n]
  split<;>omega
def fac:Nat→Nat
 |0=>1
 |n+1=>(n+1)*fac n
def lessB (f:Nat→Nat) (N i:Nat):Nat:=sumN (fun m=>if i<m∧f m<f i then 1 else 0) N
def aheadB (f:Nat→Nat) (i x:Nat):Bool:=(List.range i).any fun j=>f j==x
def lessA (f:Nat→Nat) (N i:Nat):Nat:=sumN (fun x=>if x<f i∧aheadB f i x=false then 1 else 0) N
theorem less_same {f:Nat→Nat} {N i:Nat} (P:Pm N f) (hi:i<N):lessA f N i=lessB f N i:=by
 unfold lessA lessB
 rw[←sumN_perm P (fun x=>if x<f i∧aheadB f i x=false then 1 else 0)]
 refine sumN_congr N fun m hm=> ?_
 have h1:aheadB f i (f m)=decide (m<i):=by
  rw[Bool.eq_iff_iff,decide_eq_true_eq]
  simp only[aheadB,List.any_eq_true,List.mem_range,beq_iff_eq]
  constructor
  ·rintro⟨j,hj,e⟩
   have:=P.inj j m (by omega) hm e
   omega
  ·intro h
   exact⟨m,h,rfl⟩
 rw[h1]
 by_cases h2:f m<f i
 ·by_cases h3:i<m
  ·rw[if_pos ⟨h2,by simp;omega⟩,if_pos ⟨h3,h2⟩]
  ·have h4:m<i:=by
    rcases Nat.lt_trichotomy m i with h|h|h
    ·exact h
    ·subst h;omega
    ·omega
   rw[if_neg (fun h=>by simp[h4]at h),if_neg (fun h=>h3 h.1)]
 ·rw[if_neg (fun h=>h2 h.1),if_neg (fun h=>h2 h.2)]
def rankS (f:Nat→Nat) (N:Nat):Nat→Nat
 |0=>0
 |i+1=>rankS f N i+lessA f N i*fac (N-1-i)
end Go.Proofs.YtnnaadmegeeinaaGreatDoor
namespace Go.Proofs.YtnnaadmegeeinaaGreatDoor.runBegins
open Go.RowKit
theorem and_mk {a b:Bool} (h1:a=true) (h2:b=true):(a&&b)=true:=by rw[h1,h2];rfl
theorem c0:(Rows.runBeginsRow.wf (OpenSpec.ofChange Rows.runBeginsSpec))=true:=by kernel_rfl
theorem c1:(laidOutB Tryz.prog)=true:=by kernel_rfl
theorem c2:(mapsRowed Tryz.prog)=true:=by kernel_rfl
theorem c3:(Tryz.f4.params.all (Tryz.prog.readableRec ·))=true:=by kernel_rfl
theorem c4:(namedTie Tryz.prog Rows.runBeginsRow.named Rows.runBeginsSpec.vars)=true:=by kernel_rfl
theorem c5:((Rows.runBeginsRow.stops==[]))=true:=by kernel_rfl
theorem c6:((Tryz.prog.stops==[]))=true:=by kernel_rfl
theorem c7:((Rows.runBeginsRow.knobs==[]))=true:=by kernel_rfl
theorem c8:((Tryz.prog.stopKnobs==[]))=true:=by kernel_rfl
theorem c9:((Rows.runBeginsRow.inPlace==Tryz.prog.inPlace 4))=true:=by kernel_rfl
theorem c10:((Rows.runBeginsRow.unfollowed==Tryz.prog.unfollowed 4))=true:=by kernel_rfl
theorem c11:((Rows.runBeginsRow.recurses==Tryz.prog.recurses 4))=true:=by kernel_rfl
theorem c12:((Rows.runBeginsRow.named==Tryz.prog.varsNamed 4))=true:=by kernel_rfl
theorem c13:((Rows.runBeginsRow.maps==(Tryz.f4.params.toList++Rows.runBeginsSpec.plain.varTypes Tryz.prog).any (Tryz.prog.mapsRec ·)))=true:=by kernel_rfl
theorem c14:((Rows.runBeginsRow.ifaces==(Tryz.f4.params.toList++Rows.runBeginsSpec.plain.varTypes Tryz.prog).any (Tryz.prog.ifacesRec ·)))=true:=by kernel_rfl
theorem c15:((Rows.runBeginsRow.mapsOut==Tryz.prog.mapsAmong Tryz.f4.resultTypes.toList))=true:=by kernel_rfl
theorem c16:((Rows.runBeginsRow.loops==(Tryz.f4.params.toList++Rows.runBeginsSpec.plain.varTypes Tryz.prog).any (Tryz.prog.loopsFrom ·)))=true:=by kernel_rfl
theorem c17:((Rows.runBeginsRow.wideKeys==(Tryz.f4.params.toList++Rows.runBeginsSpec.plain.varTypes Tryz.prog++Tryz.f4.resultTypes.toList).any (Tryz.prog.wideKeysFrom ·)))=true:=by kernel_rfl
theorem c18:(Rows.runBeginsSpec.vars.all (Tryz.prog.varReadable ·))=true:=by kernel_rfl
theorem c19:(Tryz.f4.resultTypes.all (fun t=>Tryz.prog.readableRec t&&decide (t<Tryz.prog.types.size)))=true:=by kernel_rfl
theorem c20:((Rows.runBeginsRow.ifacesOut==Tryz.f4.resultTypes.toList.any (Tryz.prog.ifacesRec ·)))=true:=by kernel_rfl
theorem c21:((Rows.runBeginsRow.loopsOut==Tryz.f4.resultTypes.toList.any (Tryz.prog.loopsFrom ·)))=true:=by kernel_rfl
theorem c22:((Rows.runBeginsRow.plainKeys==Tryz.prog.plainKeys))=true:=by kernel_rfl
theorem c23:(Rows.runBeginsRow.shortTexts.isNone)=true:=by kernel_rfl
theorem c24:(Tryz.prog.stopsHeard)=true:=by kernel_rfl
theorem c25:(Tryz.prog.mayEnter)=true:=by kernel_rfl
theorem c26:((Rows.runBeginsRow.lifted==Tryz.prog.liftsFinal))=true:=by kernel_rfl
theorem c27:((Tryz.prog.make==some Rows.runBeginsRow.make))=true:=by kernel_rfl
theorem c28:((Rows.runBeginsRow.kinds==(if Rows.runBeginsRow.domain.isEmpty then[]else Tryz.f4.params.toList.map fun t=>match Tryz.prog.underlying t with|some (.int k)=>some k|_=>none)))=true:=by kernel_rfl
theorem c29:((Rows.runBeginsRow.pinned==Rows.runBeginsRow.pinnedBy))=true:=by kernel_rfl
theorem c30:((Rows.runBeginsRow.veiled==(Tryz.f4.params.toList++Rows.runBeginsSpec.plain.varTypes Tryz.prog++Tryz.f4.resultTypes.toList).any (Tryz.prog.veiledRec ·)))=true:=by kernel_rfl
theorem c31:(Rows.runBeginsRow.veiledFits Tryz.prog Tryz.f4.params.toList (Tryz.f4.params.toList++Rows.runBeginsSpec.plain.varTypes Tryz.prog++Tryz.f4.resultTypes.toList))=true:=by kernel_rfl
theorem closed:joinedFacts Tryz.prog 4 Tryz.f4 Rows.runBeginsSpec Rows.runBeginsRow=true:=by
 unfold joinedFacts
 exact and_mk (and_mk (and_mk (and_mk (and_mk (and_mk (and_mk (and_mk (and_mk (and_mk (and_mk (and_mk (and_mk (and_mk (and_mk (and_mk (and_mk (and_mk (and_mk (and_mk (and_mk (and_mk (and_mk (and_mk (and_mk (and_mk (and_mk (and_mk (and_mk (and_mk (and_mk c0 c1) c2) c3) c4) c5) c6) c7) c8) c9) c10) c11) c12) c13) c14) c15) c16) c17) c18) c19) c20) c21) c22) c23) c24) c25) c26) c27) c28) c29) c30) c31
theorem wrapper:Tryz.f4.isWrapper Tryz.prog Rows.runBeginsRow.wrapper Rows.runBeginsRow.mainSum:=by unfold Func.isWrapper;first|(rw[if_pos (by decide+kernel)];kernel_rfl)|(rw[if_neg (by decide+kernel)];exact⟨rfl,rfl⟩)
theorem named:Tryz.prog.funcNamed "parterre/parterrelaw4.RunBegins" =some 4:=by kernel_rfl
theorem inst:Tryz.f4.isInstance Tryz.prog Rows.runBeginsRow.origin Rows.runBeginsRow.targs:=of_decide_eq_true (by kernel_rfl)
end Go.Proofs.YtnnaadmegeeinaaGreatDoor.runBegins
namespace Go.Proofs.YtnnaadmegeeinaaGreatDoor
open Go
def str (l:List UInt8):ByteArray:=⟨l.toArray⟩
theorem str_data (l:List UInt8):(str l).data.toList=l:=rfl
theorem str_size (l:List UInt8):(str l).size=l.length:=by simp[str,ByteArray.size]
theorem str_of (s:ByteArray):str s.data.toList=s:=rfl
theorem str_app (a b:List UInt8):str a++str b=str (a++b):=by
 have h1:(str a++str b).data=(str (a++b)).data:=by
  rw[ByteArray.data_append]
  simp[str]
 exact ByteArray.ext h1
theorem str_empty (l:List UInt8):(str l).toList.isEmpty=l.isEmpty:=by rw[Lib.toList_data,str_data]
theorem index_one {c:UInt8}:∀{a b:List UInt8},c∉a→Lib.index (a++c::b) [c]=a.length
 |[],b,_=>by
  show(if[c].isPrefixOf (c::b)then(0:Int)else _)=0
  rw[if_pos (by simp[List.isPrefixOf])]
 |x::a,b,h=>by
  have hx:¬c=x:=fun e=>h (by simp[e])
  have ih:=index_one (a:=a) (b:=b) fun hm=>h (List.mem_cons_of_mem _ hm)
  show(if[c].isPrefixOf (x::(a++c::b))then(0:Int)else if Lib.index (a++c::b) [c]== -1 then-1 else Lib.index (a++c::b) [c]+1)=_
  rw[if_neg (by simp[List.isPrefixOf,hx]),ih,if_neg (by simp),List.length_cons]
  omega
theorem cut_at {c:UInt8} {a b:List UInt8} (h:c∉a):Lib.cut (a++c::b) [c]=(a,b,true):=by
 unfold Lib.cut
 rw[index_one h,if_pos (by omega)]
 simp only[Int.toNat_natCast,List.length_singleton]
 rw[List.take_left,show(a++c::b).drop (a.length+1)=b by simp]
theorem map_str {xs:List ByteArray} {ws:List (List UInt8)} (h:xs.map (·.data.toList)=ws):xs=ws.map str:=by
 rw[←h,List.map_map]
 symm
 exact(List.map_congr_left fun x _=>str_of x).trans (List.map_id _)
theorem piece_le (sep:ByteArray):∀(k:Nat) (s:ByteArray),∀x∈Lib.splitB sep 0 k s,x.size≤s.size
 |0,s,x,h=>by
  rw[Lib.splitB_zero,List.mem_singleton]at h
  rw[h];exact Nat.le_refl _
 |k+1,s,x,h=>by
  unfold Lib.splitB at h
  split at h
  ·rw[List.mem_singleton]at h
   rw[h];exact Nat.le_refl _
  ·rcases List.mem_cons.1 h with rfl|h
   ·rw[ByteArray.size_extract];omega
   ·have:=piece_le sep k _ x h
    rw[ByteArray.size_extract]at this
    omega
theorem num_fact:∀k,k<100→(∀x∈Lib.decDigits k,48≤x.toNat∧x.toNat≤57)∧1≤(Lib.decDigits k).length∧(Lib.decDigits k).length≤2:=by
 intro k hk
 have hb:∀d,d<10→(UInt8.ofNat (48+d)).toNat=48+d:=fun d hd=>by simp;omega
 by_cases h:k<10
 ·rw[Lib.decDigits_one h]
  refine⟨fun x hx=> ?_,by simp,by simp⟩
  rw[List.mem_singleton.1 hx,hb k h]
  omega
 ·rw[Lib.decDigits_two h hk]
  refine⟨fun x hx=> ?_,by simp,by simp⟩
  have h1:=hb (k/10) (by omega)
  have h2:=hb (k%10) (by omega)
  have:x=UInt8.ofNat (48+k/10)∨x=UInt8.ofNat (48+k%10):=by simpa using hx
  rcases this with rfl|rfl
  ·rw[h1];omega
  ·rw[h2];omega
def inT (c:List Nat):List UInt8:=Lib.join (c.map Lib.decDigits) [32]
def cycT (c:List Nat):List UInt8:=40::(inT c++[41])
def bodyT (cs:List (List Nat)):List UInt8:=cs.flatMap cycT
def allT (cs:List (List Nat)):List UInt8:=if bodyT cs=[]then[40,41]else bodyT cs
def longs (f:Nat→Nat) (n k:Nat):List (List Nat):=(cycL f n k).filter fun c=>decide (2≤c.length)
def wrT (f:Nat→Nat) (n:Nat):List UInt8:=allT (longs f n n)
theorem bodyT_snoc (cs:List (List Nat)) (c:List Nat):bodyT (cs++[c])=bodyT cs++cycT c:=by simp[bodyT]
theorem longs_succ (f:Nat→Nat) (n k:Nat):longs f n (k+1)=longs f n k++(if leadB f n k=true∧2≤per f n k then[orb f (per f n k) k]else[]):=by
 unfold longs
 rw[cycL_succ,List.filter_append]
 congr 1
 by_cases h:leadB f n k=true
 ·by_cases h2:2≤per f n k
  ·rw[if_pos h,if_pos ⟨h,h2⟩,List.filter_cons_of_pos (by simp[orb_len,h2])]
   rfl
  ·rw[if_pos h,if_neg (fun e=>h2 e.2),List.filter_cons_of_neg (by simp[orb_len,h2])]
   rfl
 ·rw[if_neg h,if_neg (fun e=>h e.1)]
  rfl
theorem join_snoc (ws:List (List UInt8)) (w sep:List UInt8) (h:ws≠[]):Lib.join (ws++[w]) sep=Lib.join ws sep++sep++w:=by
 cases ws with
 |nil=>exact absurd rfl h
 |cons x r=>
  rw[List.cons_append,Lib.join_cons,Lib.join_cons]
  unfold Lib.joinTail
  simp
theorem in_len {c:List Nat} (hc:∀x∈c,x<100):(inT c).length≤3*c.length:=by
 unfold inT
 cases c with
 |nil=>simp[Lib.join_nil]
 |cons x r=>
  rw[List.map_cons,Lib.join_cons]
  have h1:=(num_fact x (hc x (by simp))).2.2
  have h2:∀r:List Nat,(∀x∈r,x<100)→(Lib.joinTail [32] (r.map Lib.decDigits)).length≤3*r.length:=by
   intro r
   induction r with
   |nil=>intro _;simp[Lib.joinTail]
   |cons y r ih=>
    intro h
    have h3:=ih fun z hz=>h z (by simp[hz])
    have h4:=(num_fact y (h y (by simp))).2.2
    unfold Lib.joinTail at h3⊢
    simp only[List.map_cons,List.flatten_cons,List.length_append,List.length_cons,List.length_nil]
    simp only[List.map_map]at h3⊢
    omega
  have h5:=h2 r fun z hz=>hc z (by simp[hz])
  simp only[List.length_append,List.length_cons]
  omega
end Go.Proofs.YtnnaadmegeeinaaGreatDoor
