/-
  Part 1 of a proof: what it proves stands in the last text.
-/
import Derived.Test.YtnnaadmegeeinaaGreatDoorRows
import Derived.JoinedCond
import Derived.KernelRfl
import Derived.ProofKit
import Derived.Lib.SplitLaws
import Derived.Lib.ItoaNum
import Derived.Lib.AtoiAll
import Derived.Lib.Join
import Derived.Lib.IndexMore
import Derived.Lib.Strings
set_option linter.all false
set_option maxHeartbeats 8000000
set_option maxRecDepth 100000
namespace Go.Proofs.YtnnaadmegeeinaaGreatDoor
open Tryz Go.Proofs.Tryz
open Go.RowKit
def fZ:=@Nat.le_refl
def gc:=@List.getD_eq_getElem?_getD
def ge:=@Nat.zero_le
def gh:=@if_neg
def gl:=@if_pos
def gn:=@List.getElem?_eq_getElem
def gt:=@Nat.le_trans
def gx:=@Classical.byContradiction
def gy:=@decide_eq_true
def gC:=@List.mem_range
def gE:=@Nat.mul_le_mul
def gF:=@List.all_eq_true
def gI:=@Int.natCast_mul
def gK:=@List.mem_map
def gN:=@Nat.pow_le_pow_right
def gY:=@List.getElem?_map
def ia:=@Bool.and_eq_true
def ie:=@List.take_of_length_le
def iD:=@Nat.mod_lt
def iG:=@List.any_eq_true
def iI:=@Nat.mul_le_mul_left
def iK:=@decide_eq_true_eq
def iL:=@Nat.zero_add
def iN:=@List.append_assoc
def iY:=@Int.dvd_mul_of_dvd_right
def i7:=@List.getElem?_range
def jc:=@List.range_succ
def jd:=@List.ext_getElem
def jg:=@Nat.div_le_self
def jh:=@Nat.lt_or_ge
def jn:=@List.map_congr_left
def jy:=@of_decide_eq_true
def jz:=@Nat.eq_zero_or_pos
def jB:=@Lib.toList_data
def jD:=@List.cons_append
def jE:=@List.getElem?_append_right
def jG:=@List.map_cons
def jL:=@List.map_map
def jM:=@List.mem_singleton
def jN:=@Nat.div_add_mod
def jU:=@Nat.sub_self
def ka:=@Nat.mul_comm
def kh:=@Classical.choose_spec
def kp:=@Nat.add_zero
def kw:=@decide_eq_false_iff_not
def kz:=@beq_iff_eq
def kD:=@Bool.or_eq_true
def kS:=@Bool.false_or
def kW:=@List.mem_cons_of_mem
def k5:=@Int.dvd_mul_of_dvd_left
def k9:=@Nat.le_mul_of_pos_right
def lh:=@Bool.eq_iff_iff
def li:=@List.mem_append
def lA:=@Int.dvd_sub
def lG:=@Int.mul_nonneg
def mO:=@Int.emod_lt_of_pos
def mP:=@Int.zero_mul
def m7:=@Int.emod_nonneg
def m9:=@List.mem_cons
def ns:=@Lib.decDigits_one
def nS:=@Int.dvd_add
def nT:=@List.mem_of_getElem?
def oG:=@Nat.pow_le_pow_left
def o8:=@List.filter_append
def pE:=@Bool.not_eq_true'
def qo:=@Nat.le_div_iff_mul_le
def qJ:=@Bool.not_true
def qK:=@Lib.join_cons
def qS:=@Nat.add_mul
def qU:=@Nat.one_mul
def sJ:=@List.find?_eq_none
def vB:=@Nat.lt_succ_self
def wU:=@Lib.join_nil
def yO:=@Int.dvd_neg
def yP:=@Int.one_mul
def yV:=@Nat.mul_add
def By:=@Nat.div_mul_le_self
def BJ:=@Int.mul_assoc
def BN:=@Nat.add_assoc
def Ct:=@Int.sub_eq_add_neg
def Cu:=@List.getElem?_drop
def F9:=@Int.emod_eq_of_lt
def Ga:=@Int.mul_comm
def Gb:=@Int.mul_zero
def Gg:=@Nat.succ_mul
def JF:=@Int.natCast_emod
def JI:=@Nat.gcd_dvd_left
def J3:=@Int.sub_mul
def J9:=@List.map_id
def YZ:=@Int.mul_le_mul
def Y0:=@Int.mul_lt_mul_of_pos_left
def aeh:=@Int.le_of_dvd
def aeG:=@Int.dvd_of_emod_eq_zero
def aeI:=@List.filter_cons_of_pos
def ahl:=@Int.emod_def
def ahm:=@Int.lt_or_le
def ahn:=@Int.sub_zero
def ahq:=@Nat.sub_zero
def akj:=@Classical.not_forall
def akm:=@Int.mul_add
def al4:=@Nat.mul_div_cancel
def amf:=@Lib.decDigits_two
theorem Oa{p:Prop}(h:p:=by omega):p:=h
theorem Ob{p:Prop}(h:p:=by kernel_rfl):p:=h
theorem Oc{p:Prop}(h:p:=by decide):p:=h
theorem On{p:Prop}(h:p:=by simp):p:=h
theorem Oo{p:Prop}(h:p:=by simp;omega):p:=h
theorem OH{p:Prop}(h:p:=by decide+kernel):p:=h
theorem OK{p:Prop}(h:p:=by simp_all):p:=h
theorem MR{p:Prop}(h:p:=by
 induction m with
 |zero=>rfl
 |succ m ih=>grind [mj]):p:=h
theorem Sb{p:Prop}(h:p:=by cases h):p:=h
theorem SB{p:Prop}(h:p:=by rw[kJ];omega):p:=h
theorem DE{p:Prop}(h:p:=by unfold oN;grind):p:=h
theorem Pk{p:Prop}(h:p:=by exact⟨m7 _ Oa,mO _ hp⟩):p:=h
theorem QJ{p:Prop}(h:p:=by
 obtain rfl:j=0:=Oa
 rfl):p:=h
theorem QX{p:Prop}(h:p:=by
 obtain⟨A',h1,h2,h3⟩:=adC hi s _ Oa H1
 grind):p:=h
abbrev iF:=List UInt8
abbrev gA:=List Nat
abbrev gP:=List Int
abbrev j9:=List (List UInt8)
abbrev kl:=List (List Nat)
def zO(f:Nat->Bool):Nat->Bool
 |0=>true
 |n+1=>f n&&zO f n
theorem nI{f:Nat->Bool}:∀{n:Nat},zO f n=true->∀x,x<n->f x=true
 |0,_,x,h=>Oa
 |n+1,a,x,h=>by
  simp only[zO,ia]at a;by_cases e:x=n
  ·rw[e];exact a.1
  ·exact nI a.2 x Oa
def ym(taps l:gP):Nat->Int
 |0=>0
 |j+1=>ym taps l j+taps.getD j 0*l.getD (l.length-1-j) 0
def nxt(p:Int)(taps seed l:gP):Int:=if l.length<seed.length then seed.getD l.length 0 else ym taps l taps.length%p
def kE(p:Int)(taps seed:gP):Nat->gP
 |0=>[]
 |i+1=>kE p taps seed i++[nxt p taps seed (kE p taps seed i)]
theorem kJ(p:Int)(taps seed:gP):∀i,(kE p taps seed i).length=i
 |0=>rfl
 |i+1=>by simp[kE,kJ p taps seed i]
theorem rM{l:gP}{p:Int}(a:0<p)(h:∀x∈l,0<=x/\x<p)(j:Nat):0<=l.getD j 0/\l.getD j 0<p:=by
 rw[gc];cases e:l[j]? with
 |none=>grind
 |some x=>exact h x (nT e)
theorem AV{x y p:Int}(b:0<=x/\x<p)(a:0<=y/\y<p)(c:p<=7):0<=x*y/\x*y<=36:=by
 refine⟨lG b.1 a.1,?_⟩;have:x*y<=6*6:=YZ Oa Oa a.1 Oa;exact Oa
theorem LU{taps l:gP}{p:Int}(a:0<p)(d:p<=7)(b:∀x∈taps,0<=x/\x<p)(c:∀x∈l,0<=x/\x<p):∀j:Nat,0<=ym taps l j/\ym taps l j<=36*(j:Int)
 |0=>by simp[ym]
 |j+1=>by
  have e:=LU a d b c j;have:=AV (rM a b j) (rM a c (l.length-1-j)) d
  grind [ym]
theorem wK{p:Int}{taps seed:gP}(hp:0<p)(a:∀x∈seed,0<=x/\x<p):∀i,∀x∈kE p taps seed i,0<=x/\x<p
 |0,x,h=>by simp[kE]at h
 |i+1,x,h=>by
  simp only[kE,li,jM]at h;rcases h with h|rfl
  ·exact wK hp a i x h
  ·unfold nxt;split
   ·exact OK
   ·exact Pk
theorem I5(p:Int)(taps seed:gP)(i:Nat):∀d,(kE p taps seed (i+d)).take i=kE p taps seed i
 |0=>by rw[kp,ie SB]
 |d+1=>by
  have:kE p taps seed (i+(d+1))=kE p taps seed (i+d)++[nxt p taps seed (kE p taps seed (i+d))]:=rfl;rw[this,List.take_append_of_le_length SB,I5 p taps seed i d]
theorem agN{p:Int}{taps seed:gP}{i n m:Nat}(a:i<n)(b:n<=m):(kE p taps seed n).getD i 0=(kE p taps seed m).getD i 0:=by
 have:=I5 p taps seed n (m-n)
 grind
def I4(p:Int)(taps seed:gP)(i:Nat):Int:=(kE p taps seed (i+1)).getD i 0
theorem N8{p:Int}{taps seed:gP}{i n:Nat}(h:i<n):(kE p taps seed n).getD i 0=I4 p taps seed i:=(agN (vB i) h).symm
theorem adq(p:Int)(taps seed:gP)(n:Nat):kE p taps seed n=(List.range n).map (I4 p taps seed):=by
 refine jd (by simp[kJ]) λi b c=> ?_;have a:=b;rw[kJ]at a;have:=N8 (p:=p) (taps:=taps) (seed:=seed) a
 grind
theorem ads{p:Int}{taps seed:gP}:kE p taps seed seed.length=seed:=by
 refine jd (by rw[kJ]) λi b a=> ?_;have h:=N8 (p:=p) (taps:=taps) (seed:=seed) a;rw[gc,gn b]at h;have e:I4 p taps seed i=seed[i]:=by
  unfold I4;simp only[kE];rw[gc,jE SB,kJ,jU];unfold nxt;rw[kJ,gl a];simp[a]
 grind
def sp(p:Int)(taps seed:gP)(m:Nat):gP:=(kE p taps seed (m+seed.length)).drop m
theorem wR(p:Int)(taps seed:gP)(m:Nat):(sp p taps seed m).length=seed.length:=by simp[sp,kJ]
theorem aef(p:Int)(taps seed:gP):sp p taps seed 0=seed:=by simp[sp,ads]
theorem ahg{p:Int}{taps seed:gP}{m i:Nat}(h:i<seed.length):(sp p taps seed m).getD i 0=I4 p taps seed (m+i):=by
 unfold sp;rw[gc,Cu,<-gc,N8 Oa]
theorem aee(p:Int)(taps seed:gP)(m:Nat)(a:1<=seed.length):sp p taps seed (m+1)=(sp p taps seed m).drop 1++[ym taps (sp p taps seed m) taps.length%p]\/taps.length≠seed.length:=by
 by_cases b:taps.length=seed.length
 ·left;unfold sp;rw[show m+1+seed.length=(m+seed.length)+1 by omega];simp only[kE];rw[List.drop_append_of_le_length SB,List.drop_drop];congr 2;unfold nxt;rw[kJ,gh Oa];congr 1;have d:∀j,j<=seed.length->ym taps (kE p taps seed (m+seed.length)) j=ym taps ((kE p taps seed (m+seed.length)).drop m) j:=by
   intro j
   induction j with
   |zero=>intro _;rfl
   |succ j c=>
    grind [ym,kJ]
  grind
 exact Oa
theorem ac3:∀(n:Nat)(f:Nat->Nat),(∀i,i<=n->f i<n)->∃i j,i<j/\j<=n/\f i=f j
 |0,f,h=>by grind
 |n+1,f,h=>by
  by_cases b:∃i,i<=n/\f i=f (n+1)
  ·obtain⟨i,a,d⟩:=b;exact⟨i,n+1,by omega,fZ _,d⟩
  ·
   have o:∀i,i<=n->f i≠f (n+1):=λi a e=>b ⟨i,a,e⟩;have l:=h (n+1) (fZ _)
   obtain⟨i,j,c,g,k⟩:=ac3 n (λi=>if f i=n then f (n+1)else f i) (λi a=>by
    grind)
   refine⟨i,j,c,by omega,?_⟩
   grind
def tab(z d:Int)(code:Nat->Int)(S:Nat):Nat->gP
 |0=>List.replicate S z
 |m+1=>(tab z d code S m).set (code m).toNat ((m:Int)+d)
section
structure Pm(n:Nat)(f:Nat->Nat):Prop where
 lt:∀i,i<n->f i<n
 inj:∀i j,i<n->j<n->f i=f j->i=j
def it(f:Nat->Nat):Nat->Nat->Nat
 |0,i=>i
 |k+1,i=>f (it f k i)
theorem ve(f:Nat->Nat)(a:Nat)(i:Nat):∀b,it f (b+a) i=it f b (it f a i)
 |0=>by rw[iL];rfl
 |b+1=>by rw[show b+1+a=(b+a)+1 by omega];simp only[it];rw[ve f a i b]
section
variable {n:Nat} {f:Nat->Nat}
theorem Pm.it_lt(P:Pm n f){i:Nat}(hi:i<n):∀k,it f k i<n
 |0=>hi
 |k+1=>P.lt _ (P.it_lt hi k)
theorem Pm.it_inj(P:Pm n f){i j:Nat}(hi:i<n)(a:j<n):∀k,it f k i=it f k j->i=j
 |0,h=>h
 |k+1,h=>P.it_inj hi a k (P.inj _ _ (P.it_lt hi k) (P.it_lt a k) h)
def ui(f:Nat->Nat)(n i:Nat):Nat:=((List.range n).find? (λm=>it f (m+1) i==i)).getD 0+1
theorem Pm.per_spec(P:Pm n f){i:Nat}(hi:i<n):it f (ui f n i) i=i/\1<=ui f n i/\ui f n i<=n/\∀k,1<=k->k<ui f n i->it f k i≠i:=by
 obtain⟨a,b,o,p,h⟩:=ac3 n (λk=>it f k i) (λk _=>P.it_lt hi k);have q:it f (b-a) i=i:=by
  have d:it f b i=it f a (it f (b-a) i):=(by rw[<-ve];grind);have c:it f a i=it f b i:=h;rw[d]at c;exact(P.it_inj hi (P.it_lt hi _) a c).symm
 cases e:(List.range n).find? (λm=>it f (m+1) i==i)with
 |none=>
  have:=sJ.1 e (b-a-1) (gC.2 Oa)
  grind
 |some m=>
  obtain⟨d,c,g⟩:=List.find?_range_eq_some.1 e;have j:ui f n i=m+1:=(by unfold ui;grind);rw[j];refine⟨by grind,by omega,by grind,λk r s l=> ?_⟩;have:=g (k-1) Oa
  grind
theorem Pm.it_mul(P:Pm n f){i:Nat}(hi:i<n):∀k,it f (k*ui f n i) i=i
 |0=>by simp[it]
 |k+1=>by rw[Gg,ve,(P.per_spec hi).1,P.it_mul hi k]
theorem Pm.it_mod(P:Pm n f){i:Nat}(hi:i<n)(k:Nat):it f k i=it f (k%ui f n i) i:=by
 have h:=Nat.mod_add_div k (ui f n i)
 conv=>lhs;rw[<-h,ka,ve,P.it_mul hi]
theorem Pm.it_unlike(P:Pm n f){i a b:Nat}(hi:i<n)(e:b<ui f n i)(d:a<b):it f a i≠it f b i:=by
 intro h;have c:it f b i=it f a (it f (b-a) i):=by rw[<-ve];grind
 rw[c]at h;exact(P.per_spec hi).2.2.2 (b-a) Oa Oa (P.it_inj hi (P.it_lt hi _) a h).symm
def na(f:Nat->Nat)(i x:Nat):Prop:=∃k,x=it f k i
theorem na.trans{i j x:Nat}(h:na f i j)(g:na f j x):na f i x:=by
 obtain⟨a,rfl⟩:=h;obtain⟨b,rfl⟩:=g;exact⟨b+a,(ve f a i b).symm⟩
theorem Pm.reach_symm(P:Pm n f){i x:Nat}(hi:i<n)(h:na f i x):na f x i:=by
 obtain⟨k,rfl⟩:=h;have a:=(P.per_spec hi).2.1;refine⟨k*ui f n i-k,?_⟩;rw[<-ve,Nat.sub_add_cancel (k9 k a),P.it_mul hi]
theorem Pm.reach_lt(P:Pm n f){i x:Nat}(hi:i<n)(h:na f i x):x<n:=by
 obtain⟨k,rfl⟩:=h;exact P.it_lt hi k
theorem Pm.reach_small(P:Pm n f){i x:Nat}(hi:i<n)(h:na f i x):∃k,k<ui f n i/\x=it f k i:=by
 obtain⟨k,rfl⟩:=h;exact⟨k%ui f n i,iD _ (P.per_spec hi).2.1,P.it_mod hi k⟩
def xO(f:Nat->Nat)(m i:Nat):gA:=(List.range m).map λk=>it f k i
theorem rY(f:Nat->Nat)(m i:Nat):(xO f m i).length=m:=by simp[xO]
theorem IJ(f:Nat->Nat)(m i:Nat):xO f (m+1) i=xO f m i++[it f m i]:=by simp[xO,jc]
def tq(f:Nat->Nat)(n i:Nat):Bool:=(List.range i).all λj=> !(xO f (ui f n j) j).contains i
theorem Pm.mem_orb(P:Pm n f){i x:Nat}(hi:i<n):x∈xO f (ui f n i) i↔na f i x:=by
 simp only[xO,gK,gC];constructor
 ·rintro⟨k,_,rfl⟩;exact⟨k,rfl⟩
 ·intro h;obtain⟨k,a,rfl⟩:=P.reach_small hi h
  grind
theorem Pm.lead_iff(P:Pm n f){i:Nat}(hi:i<n):tq f n i=true↔∀j,j<i->¬na f j i:=by
 simp only[tq,gF,gC,pE,List.contains_eq_mem,kw];constructor
 ·exact λh j a b=>h j a ((P.mem_orb Oa).2 b)
 ·exact λh j a b=>h j a ((P.mem_orb Oa).1 b)
theorem Pm.lead_not(P:Pm n f){i:Nat}(hi:i<n)(h:tq f n i=false):∃j,j<i/\na f j i:=
 gx λb=>by
  have:=(P.lead_iff hi).2 λj a c=>b ⟨j,a,c⟩
  grind
def mY(f:Nat->Nat)(n k:Nat):kl:=((List.range k).filter (tq f n)).map λi=>xO f (ui f n i) i
theorem CG(f:Nat->Nat)(n k:Nat):mY f n (k+1)=mY f n k++(if tq f n k then[xO f (ui f n k) k]else[]):=by
 grind [mY,List.range_succ]
def kQ(g:Nat->Nat):Nat->Nat
 |0=>0
 |k+1=>kQ g k+g k
theorem lB{g h:Nat->Nat}:∀k,(∀i,i<k->g i=h i)->kQ g k=kQ h k
 |0,_=>rfl
 |k+1,e=>by simp only[kQ];rw[lB k (λi a=>e i Oa),e k Oa]
theorem Jm(g h:Nat->Nat):∀k,kQ (λi=>g i+h i) k=kQ g k+kQ h k
 |0=>rfl
 |k+1=>by simp only[kQ];rw[Jm g h k];omega
theorem uq:∀k,kQ (λ_=>0) k=0
 |0=>rfl
 |k+1=>by simp only[kQ];rw[uq k]
theorem Ek(g:Nat->Nat->Nat)(m:Nat):∀k,kQ (λi=>kQ (λj=>g i j) m) k=kQ (λj=>kQ (λi=>g i j) k) m
 |0=>by simp only[kQ];rw[uq]
 |k+1=>by
  simp only[kQ];rw[Ek g m k,<-Jm]
theorem Jo{k a:Nat}(h:a<k)(g:Nat->Nat):kQ (λi=>if i=a then g i else 0) k=g a:=by
 induction k with
 |zero=>omega
 |succ k c=>
  simp only[kQ];by_cases e:k=a
  ·subst e;rw[lB k (h:=λ_=>0) (λi b=>gh Oa),uq,gl rfl];omega
  grind
theorem Pm.orb_lt(P:Pm n f){i:Nat}(hi:i<n):∀x∈xO f (ui f n i) i,x<n:=λx a=>P.reach_lt hi ((P.mem_orb hi).1 a)
end
end
def XA:Nat->Nat->Nat->Int->Option Int
 |0,_,_,_=>none
 |f+1,p,d,o=>if d<=1 then some o else if d%p≠0 then XA f (p+1) d o else if d/p%p=0 then some 0 else XA f (p+1) (d/p) (-o)
def AN:Nat->Nat->Nat->Int->Option Int
 |0,_,_,_=>none
 |f+1,p,n,m=>if n<p then some m else if n%p≠0 then AN f (p+1) n m else if n/p%p=0 then some 0 else AN f (p+1) (n/p) (-m)
def mu(d:Nat):Int:=(XA 60 2 d 1).getD 0
theorem Fs:∀d,d<60->XA 60 2 (d+1) 1=some (mu (d+1))/\AN 60 2 (d+1) 1=some (mu (d+1))/\-1<=mu (d+1)/\mu (d+1)<=1:=λd h=>
 jy (nI (f:=λd=>decide (XA 60 2 (d+1) 1=some (mu (d+1))/\AN 60 2 (d+1) 1=some (mu (d+1))/\-1<=mu (d+1)/\mu (d+1)<=1)) (n:=60) OH d h)
theorem amJ{d:Nat}(a:1<=d)(b:d<=60):XA 60 2 d 1=some (mu d):=by
 have:=(Fs (d-1) Oa).1
 grind
theorem alp{d:Nat}(a:1<=d)(b:d<=60):AN 60 2 d 1=some (mu d):=by
 have:=(Fs (d-1) Oa).2.1
 grind
theorem Vh{d:Nat}(a:1<=d)(b:d<=60): -1<=mu d/\mu d<=1:=by
 have:=(Fs (d-1) Oa).2.2
 grind
def Yv(k n:Nat):Nat->Int
 |0=>0
 |j+1=>Yv k n j+if n%(j+1)=0 then mu (j+1)*((k^(n/(j+1)):Nat):Int)else 0
def mx(k n:Nat):Nat->Int
 |0=>0
 |j+1=>mx k n j+if n%(j+1)=0 then mu (n/(j+1))*((k^(j+1):Nat):Int)else 0
theorem wG{k n d:Nat}(b:2<=d)(c:1<=k)(h:k^n<=1000000000000000000):k^(n/d)<=1000000000:=by
 have e:k^(n/d)*k^(n/d)<=k^n:=by
  rw[<-Nat.pow_add];refine gN c ?_;have:=By n d;have f:n/d*2<=n/d*d:=iI _ b;exact Oa
 rcases jh 1000000000 (k^(n/d))with a|a
 ·exfalso;have:1000000001*1000000001<=k^(n/d)*k^(n/d):=gE a a;exact Oa
 ·exact a
theorem xM{m:Int}{p b:Nat}(a: -1<=m)(c:m<=1)(d:p<=b): -(b:Int)<=m*p/\m*(p:Int)<=b:=by
 have:m= -1\/m=0\/m=1:=Oa
 grind
theorem ag6{k n:Nat}(b:1<=k)(e:n<=60)(h:k^n<=1000000000000000000):∀j,j<=n->-1000000000000000000-(j:Int)*1000000000<=Yv k n j/\Yv k n j<=1000000000000000000+(j:Int)*1000000000/\(j=0->Yv k n j=0)
 |0,_=>by simp[Yv]
 |j+1,f=>by
  have g:=ag6 b e h j Oa;simp only[Yv];have a:=Vh (d:=j+1) Oa Oa;split
  ·by_cases c:j=0
   ·have:=xM (p:=k^(n/(j+1))) a.1 a.2 (by subst c;simpa using h);exact Oa
   ·have:=xM (p:=k^(n/(j+1))) a.1 a.2 (wG Oa b h);exact Oa
  ·exact Oa
theorem zE{k n:Nat}(c:1<=k)(i:n<=60)(h:k^n<=1000000000000000000):∀j,j<=n->-1000000000000000000-(j:Int)*1000000000<=mx k n j/\mx k n j<=1000000000000000000+(j:Int)*1000000000/\(j<n->-(j:Int)*1000000000<=mx k n j/\mx k n j<=(j:Int)*1000000000)
 |0,_=>by simp[mx]
 |j+1,r=>by
  have q:=zE c i h j Oa;have t:=q.2.2 Oa;simp only[mx];split
  ·rename_i f;have o:1<=n/(j+1):=by
    rw[qo Oa];omega
   have s:n/(j+1)<=n:=jg _ _;have a:=Vh (d:=n/(j+1)) o Oa;by_cases e:j+1=n
   ·have:=xM (p:=k^(j+1)) a.1 a.2 (by rw[e];exact h);exact Oa
   ·have g:2<=n/(j+1):=by
     grind [Nat.div_add_mod]
    have l:j+1=n/(n/(j+1)):=by
     have b:=jN n (j+1);rw[f]at b;generalize n/(j+1)=v at*;rw[kp]at b
     grind [Nat.mul_div_cancel]
    have:=xM (p:=k^(j+1)) a.1 a.2 (by rw[l];exact wG g c h);exact Oa
  ·exact Oa
def ev(k:Nat):List (Int×Nat)->Int
 |[]=>0
 |p::l=>p.1*((k^p.2:Nat):Int)+ev k l
def co:List (Int×Nat)->Nat->Int
 |[],_=>0
 |p::l,e=>(if p.2=e then p.1 else 0)+co l e
def L5(k:Nat)(f:Nat->Int):Nat->Int
 |0=>0
 |m+1=>L5 k f m+f m*((k^m:Nat):Int)
theorem TN(k:Nat)(f g:Nat->Int):∀m,L5 k (λe=>f e+g e) m=L5 k f m+L5 k g m
 |0=>by simp[L5]
 |m+1=>by simp only[L5];rw[TN k f g m,Int.add_mul];omega
theorem TO(k:Nat)(a:Nat)(c:Int):∀m,L5 k (λe=>if a=e then c else 0) m=if a<m then c*((k^a:Nat):Int)else 0
 |0=>by simp[L5]
 |m+1=>by
  simp only[L5];rw[TO k a c m]
  grind
theorem aaS(k m:Nat):∀(l:List (Int×Nat)),l.all (λp=>decide (p.2<m))=true->ev k l=L5 k (co l) m
 |[],_=>by
  have:∀m,L5 k (co []) m=0:=λm=>by
   induction m with
   |zero=>rfl
   |succ m a=>grind [L5,co]
  rw[this];rfl
 |p::l,h=>by
  simp only[List.all_cons,ia,iK]at h;have e:co (p::l)=λe=>(if p.2=e then p.1 else 0)+co l e:=rfl;rw[e,TN,TO,gl h.1,<-aaS k m l h.2];rfl
theorem CK(k:Nat)(f g:Nat->Int):∀m,(∀e,e<m->f e=g e)->L5 k f m=L5 k g m
 |0,_=>rfl
 |m+1,h=>by simp only[L5];rw[CK k f g m (λe a=>h e Oa),h m Oa]
def adv(a b:List (Int×Nat)):Bool:=a.all (λp=>decide (p.2<61))&&b.all (λp=>decide (p.2<61))&&zO (λe=>decide (co a e=co b e)) 61
theorem afD(k:Nat){a b:List (Int×Nat)}(h:adv a b=true):ev k a=ev k b:=by
 simp only[adv,ia]at h;rw[aaS k 61 a h.1.1,aaS k 61 b h.1.2];exact CK k _ _ 61 λe c=>jy (nI h.2 e c)
theorem E2(k:Nat):∀(a b:List (Int×Nat)),ev k (a++b)=ev k a+ev k b
 |[],b=>by simp[ev]
 |p::a,b=>by simp only[jD,ev];rw[E2 k a b];omega
def oI(k n:Nat):Nat->Nat
 |0=>0
 |t+1=>oI k n t+k^Nat.gcd n t
def VV(n:Nat):Nat->List (Int×Nat)
 |0=>[]
 |t+1=>VV n t++[(1,Nat.gcd n t)]
theorem VW(k n:Nat):∀t,ev k (VV n t)=(oI k n t:Int)
 |0=>rfl
 |t+1=>by simp only[VV,oI];rw[E2,VW k n t];simp[ev]
def ag7(n:Nat):Nat->List (Int×Nat)
 |0=>[]
 |j+1=>ag7 n j++if n%(j+1)=0 then[(mu (n/(j+1)),j+1)]else[]
theorem adU(k n:Nat):∀j,ev k (ag7 n j)=mx k n j
 |0=>rfl
 |j+1=>by
  simp only[ag7,mx];rw[E2,adU k n j]
  grind [ev]
theorem aaT(k:Nat)(c:Int):∀(l:List (Int×Nat)),ev k (l.map λp=>(c*p.1,p.2))=c*ev k l
 |[]=>by simp[ev]
 |p::l=>by simp only[jG,ev];rw[aaT k c l,akm,BJ]
def F3(n:Nat):Nat->List (Int×Nat)
 |0=>[]
 |d+1=>F3 n d++if n%(d+1)=0 then(ag7 (d+1) (d+1)).map (λp=>(((n/(d+1):Nat):Int)*p.1,p.2))else[]
def vx(k n:Nat):Nat->Int
 |0=>0
 |d+1=>vx k n d+if n%(d+1)=0 then((n/(d+1):Nat):Int)*mx k (d+1) (d+1)else 0
theorem Jz(k n:Nat):∀d,ev k (F3 n d)=vx k n d
 |0=>rfl
 |d+1=>by
  simp only[F3,vx];rw[E2,Jz k n d];split
  ·rw[aaT,adU]
  ·simp[ev]
theorem YR:zO (λn=>adv (VV n n) (F3 n n)) 61=true:=OH
theorem RY(k n:Nat)(h:n<61):(oI k n n:Int)=vx k n n:=by
 rw[<-VW,<-Jz];exact afD k (nI YR n h)
def qX(k n:Nat):Nat->Int
 |0=>0
 |d+1=>qX k n d+if n%(d+1)=0 then(mx k (d+1) (d+1)).tdiv ((d+1:Nat):Int)else 0
theorem FE(k m e:Nat):((k^e:Nat):Int)%m=(((k%m)^e:Nat):Int)%m:=by
 rw[<-JF,<-JF,Nat.pow_mod]
theorem Jl(k m d:Nat):∀j,mx k d j%(m:Int)=mx (k%m) d j%(m:Int)
 |0=>rfl
 |j+1=>by
  simp only[mx];rw[Int.add_emod,Jl k m d j]
  grind [Int.add_emod,Int.mul_emod,FE]
theorem afz:zO (λd=>zO (λr=>decide (mx r (d+1) (d+1)%((d+1:Nat):Int)=0)) (d+1)) 60=true:=OH
theorem adT(k:Nat){d:Nat}(a:1<=d)(b:d<61):mx k d d%(d:Int)=0:=by
 rw[Jl];have:=jy (nI (nI afz (d-1) Oa) (k%d) (by have:=iD k (show 0<d by omega);omega))
 grind
theorem RO(k:Nat){d:Nat}(a:1<=d)(b:d<61):mx k d d=(d:Int)*(mx k d d).tdiv (d:Int):=by
 have h:=adT k a b;have c:=aeG h;rw[Int.mul_tdiv_cancel' c]
theorem zW(k n:Nat)(a:n<61):∀j,j<=n->(n:Int)*qX k n j=vx k n j
 |0,_=>by simp[qX,vx]
 |d+1,e=>by
  simp only[qX,vx];rw[akm,zW k n a d Oa];split
  ·rename_i h;have c:=RO k (d:=d+1) Oa Oa;have b:n=(n/(d+1))*(d+1):=by
    have:=jN n (d+1)
    grind
   generalize (mx k (d+1) (d+1)).tdiv ((d+1:Nat):Int)=q at*;rw[c,<-BJ,<-gI,<-b]
  ·exact On
theorem YK(k n:Nat)(a:n<61):(oI k n n:Int)=n*qX k n n:=by
 rw[RY k n a,zW k n a n (fZ _)]
theorem abf{n t:Nat}(d:1<=t)(e:t<n):Nat.gcd n t<=n/2:=by
 have b:=JI n t;have i:=Nat.gcd_le_right n (show 0<t by omega);obtain⟨c,f⟩:=b;generalize Nat.gcd n t=g at*;have a:2<=c:=by
  rcases jh c 2 with h|h
  ·exfalso;have:c=0\/c=1:=Oa
   grind
  ·exact h
 have:g*2<=g*c:=iI _ a;exact Oa
theorem zG{k n:Nat}(a:1<=k)(h:k^n<=1000000000000000000):∀t,t<=n->oI k n t<=1000000000000000000+t*1000000000
 |0,_=>by simp[oI]
 |t+1,f=>by
  have g:=zG a h t Oa;simp only[oI];rcases jz t with b|b
  ·grind [oI]
  ·have c:=wG (k:=k) (n:=n) (d:=2) Oa a h;have e:k^Nat.gcd n t<=k^(n/2):=gN a (abf b Oa);exact Oa
theorem uX{k n:Nat}(b:2<=k)(h:k^n<=1000000000000000000):n<60:=by
 rcases jh n 60 with a|a
 ·exact a
 ·exfalso;have c:2^n<=k^n:=oG b n;have d:2^60<=2^n:=gN Oc a;exact Oa
theorem vw{k d b:Nat}(a:1<=k)(f:d<61)(h:k^d<=b):∀j,j<=d->-((j*b:Nat):Int)<=mx k d j/\mx k d j<=((j*b:Nat):Int)
 |0,_=>by simp[mx]
 |j+1,g=>by
  have n:=vw a f h j Oa;simp only[mx];rw[qS,qU];split
  ·have i:1<=d/(j+1):=(by rw[qo Oa];omega);have l:d/(j+1)<=d:=jg _ _;have c:=Vh (d:=d/(j+1)) i Oa;have e:k^(j+1)<=k^d:=gN a g;have:=xM (p:=k^(j+1)) c.1 c.2 (gt e h);exact Oa
  ·exact Oa
theorem VN{s d b:Int}(f:1<=d)(c: -(d*b)<=s)(e:s<=d*b)(a:s=d*s.tdiv d): -b<=s.tdiv d/\s.tdiv d<=b:=by
 generalize s.tdiv d=q at*;subst a;constructor
 ·rcases ahm q (-b)with h|h
  ·exfalso;have:d*q<d* -b:=Y0 h Oa
   grind
  ·exact h
 ·rcases ahm b q with h|h
  ·exfalso;have:d*b<d*q:=Y0 h Oa;exact Oa
  ·exact h
theorem aaM{n d:Nat}(e:1<=d)(f:d<n)(h:n%d=0):∃q,2<=q/\d=n/q:=by
 refine⟨n/d,?_,?_⟩
 ·rcases jh (n/d) 2 with a|a
  ·exfalso;have b:=jN n d;rw[h]at b;generalize n/d=q at*;have:q=0\/q=1:=Oa
   grind
  ·exact a
 ·have c:=jN n d;rw[h,kp]at c
  grind [Nat.mul_div_cancel]
theorem VO{k n d:Nat}(f:1<=k)(j:n<61)(h:k^n<=1000000000000000000)(b:1<=d)(c:d<n)(e:n%d=0): -1000000000<=(mx k d d).tdiv (d:Int)/\(mx k d d).tdiv (d:Int)<=1000000000:=by
 obtain⟨q,l,i⟩:=aaM b c e;have g:k^d<=1000000000:=by grind [wG]
 have a:=vw f (show d<61 by omega) g d (fZ _);rw[gI]at a;exact VN Oa a.1 a.2 (RO k b Oa)
theorem Tl{k n:Nat}(a:1<=k)(b:n<61)(h:k^n<=1000000000000000000):∀j,j<n->-((j:Int)*1000000000)<=qX k n j/\qX k n j<=(j:Int)*1000000000
 |0,_=>by simp[qX]
 |d+1,e=>by
  have f:=Tl a b h d Oa;simp only[qX];split
  ·rename_i c;have:=VO a b h (d:=d+1) Oa e c;exact Oa
  ·exact Oa
theorem af4{k n:Nat}(d:1<=k)(c:1<=n)(b:n<61)(h:k^n<=1000000000000000000): -1000000000000000000<=(mx k n n).tdiv (n:Int)/\(mx k n n).tdiv (n:Int)<=1000000000000000000:=by
 have a:=vw d b h n (fZ _);rw[gI]at a;exact VN Oa a.1 a.2 (RO k c b)
theorem ain{k n d:Nat}(b:1<=k)(c:n<61)(h:k^n<=1000000000000000000)(a:1<=d)(g:d<=n)(f:n%d=0): -1000000000000000000<=(mx k d d).tdiv (d:Int)/\(mx k d d).tdiv (d:Int)<=1000000000000000000:=by
 by_cases e:d=n
 ·subst e;exact af4 b a c h
 ·have:=VO b c h a Oa f;exact Oa
def m0(n:Nat):Bool:=decide (2<=n/\n<=100000)&&zO (λd=>decide (d<2)||decide (n<d*d)||decide (n%d≠0)) 317
theorem Tb{f:Nat->Bool}:∀{n:Nat},(∀x,x<n->f x=true)->zO f n=true
 |0,_=>rfl
 |n+1,h=>by simp only[zO];rw[h n Oa,Tb λx a=>h x Oa];rfl
theorem ac9{n d:Nat}(e:2<=d)(f:d*d<=n)(g:n%d=0):m0 n=false:=by
 rcases jh 100000 n with h|h
 ·grind [m0]
 ·have c:d<317:=by
   rcases jh d 317 with a|a
   ·exact a
   ·have:=gE a a;exact Oa
  cases b:m0 n with
  |false=>rfl
  |true=>
   simp only[m0,ia]at b;have:=nI b.2 d c
   grind
theorem XS{n d:Nat}(a:2<=n)(b:n<=100000)(h:n<d*d)(g:∀e,2<=e->e<d->n%e≠0):m0 n=true:=by
 simp only[m0,ia,iK];refine⟨⟨a,b⟩,Tb λe _=> ?_⟩;simp only[kD,iK];by_cases c:e<2
 ·exact Oa
 ·by_cases f:e<d
  ·grind
  ·left;right;have:=gE (show d<=e by omega) (show d<=e by omega);exact Oa
theorem ac8{n:Nat}(h:n<2\/100000<n):m0 n=false:=by
 grind [m0]
def inv(f:Nat->Nat)(N:Nat):Nat:=kQ (λj=>kQ (λi=>if f j<f i then 1 else 0) j) N
theorem Bi(g:Nat->Nat){j:Nat}:∀N,j<=N->kQ (λi=>if i<j then g i else 0) N=kQ g j
 |0,h=>QJ
 |N+1,h=>by
  by_cases e:j=N+1
  ·subst e;exact lB _ λi a=>gl a
  ·simp only[kQ];rw[Bi g N Oa,gh Oa];omega
theorem Pm.surj{N:Nat}{g:Nat->Nat}(P:Pm N g){x:Nat}(a:x<N):∃i,i<N/\g i=x:=by
 have h:=P.per_spec a;refine⟨it g (ui g N x-1) x,P.it_lt a _,?_⟩;have:g (it g (ui g N x-1) x)=it g (ui g N x-1+1) x:=rfl
 grind
theorem Yx{N:Nat}{g:Nat->Nat}(P:Pm N g)(h:Nat->Nat):kQ (λi=>h (g i)) N=kQ h N:=by
 have f:kQ (λi=>h (g i)) N=kQ (λi=>kQ (λx=>if x=g i then h x else 0) N) N:=lB N λi b=>(Jo (P.lt i b) h).symm;rw[f,Ek];refine lB N λx l=> ?_;obtain⟨a,c,k⟩:=P.surj l;have j:kQ (λi=>if x=g i then h x else 0) N=kQ (λi=>if i=a then h x else 0) N:=lB N λi b=>by
  by_cases e:i=a
  ·grind
  ·rw[gh e,gh];intro d;exact e (P.inj i a b c (by rw[k,d]))
 rw[j,Jo c]
def akb(f:Nat->Nat)(x y:Nat):Nat:=if(x<y/\f y<f x)\/(y<x/\f x<f y)then 1 else 0
theorem VM(p:Nat):∀n,kQ (λj=>if p<j then 1 else 0) n=n-(p+1)
 |0=>by simp[kQ]
 |n+1=>by
  simp only[kQ];rw[VM p n]
  grind
def lL:Nat->Nat
 |0=>1
 |n+1=>(n+1)*lL n
def T6(f:Nat->Nat)(N i:Nat):Nat:=kQ (λm=>if i<m/\f m<f i then 1 else 0) N
def lj(f:Nat->Nat)(i x:Nat):Bool:=(List.range i).any λj=>f j==x
def mr(f:Nat->Nat)(N i:Nat):Nat:=kQ (λx=>if x<f i/\lj f i x=false then 1 else 0) N
theorem Xm{f:Nat->Nat}{N i:Nat}(P:Pm N f)(hi:i<N):mr f N i=T6 f N i:=by
 unfold mr T6;rw[<-Yx P (λx=>if x<f i/\lj f i x=false then 1 else 0)];refine lB N λm a=> ?_;have b:lj f i (f m)=decide (m<i):=by
  rw[lh,iK];simp only[lj,iG,gC,kz];constructor
  ·rintro⟨j,c,e⟩;have:=P.inj j m Oa a e;exact Oa
  grind
 grind
def lK(f:Nat->Nat)(N:Nat):Nat->Nat
 |0=>0
 |i+1=>lK f N i+mr f N i*lL (N-1-i)
theorem T7(f:Nat->Nat)(N i:Nat):T6 f N i<=N/\mr f N i<=N:=by
 have h:∀(g:Nat->Nat),(∀i,g i<=1)->∀k,kQ g k<=k:=λg a k=>by
  induction k with
  |zero=>exact fZ _
  |succ k b=>grind [kQ]
 exact⟨h _ (λi=>by grind) N,h _ (λi=>by grind) N⟩
section
def sm(f:Nat->Int):Nat->Int
 |0=>0
 |j+1=>sm f j+f j
theorem qj{f g:Nat->Int}:∀n,(∀i,i<n->f i=g i)->sm f n=sm g n
 |0,_=>rfl
 |n+1,h=>by rw[sm,sm,qj n (λi a=>h i Oa),h n Oa]
theorem se{f:Nat->Int}:∀n,(∀i,i<n->f i=0)->sm f n=0
 |0,_=>rfl
 |n+1,h=>by rw[sm,se n (λi a=>h i Oa),h n Oa];rfl
theorem xY(f g:Nat->Int):∀n,sm (λi=>f i+g i) n=sm f n+sm g n
 |0=>rfl
 |n+1=>by simp only[sm];rw[xY f g n];omega
theorem vv(c:Int)(f:Nat->Int):∀n,sm (λi=>c*f i) n=c*sm f n
 |0=>by simp[sm]
 |n+1=>by simp only[sm];rw[vv c f n,akm]
theorem RC{p:Int}{f:Nat->Int}:∀n,(∀i,i<n->p∣f i)->p∣sm f n
 |0,_=>⟨0,by simp[sm]⟩
 |n+1,h=>nS (RC n (λi a=>h i Oa)) (h n Oa)
theorem qk{p:Int}{f g:Nat->Int}:∀n,(∀i,i<n->p∣f i-g i)->p∣sm f n-sm g n
 |0,_=>⟨0,by simp[sm]⟩
 |n+1,h=>by
  have a:=nS (qk n (λi b=>h i Oa)) (h n Oa)
  grind [sm]
theorem FR{f:Nat->Int}{n:Nat}:∀d,(∀i,n<=i->f i=0)->sm f (n+d)=sm f n
 |0,_=>rfl
 |d+1,h=>by rw[<-BN,sm,FR d h,h (n+d) Oa];omega
theorem VI(f:Nat->Nat->Int):∀a b,sm (λi=>sm (λj=>f i j) b) a=sm (λj=>sm (λi=>f i j) a) b
 |0,b=>(se b (λ_ _=>rfl)).symm
 |a+1,b=>by simp only[sm];rw[VI f a b,<-xY]
theorem Bg{f:Nat->Int}{g:Nat}(h:∀i,i<g->f i=0):∀n,sm f (g+n)=sm (λi=>f (g+i)) n
 |0=>se g h
 |n+1=>by rw[<-BN,sm,Bg h n,sm]
theorem Bf(F:Nat->Int):∀m,sm F (1+m)=F 0+sm (λj=>F (1+j)) m
 |0=>by simp[sm]
 |m+1=>by rw[<-BN,sm,Bf F m,sm];omega
def lq(s C:Nat->Int)(L m:Nat):Int:=sm (λi=>C i*s (m-i)) (L+1)
def JD(p:Int)(s C:Nat->Int)(L n:Nat):Prop:=∀m,L<=m->m<n->p∣lq s C L m
theorem acs{p:Int}{s C a:Nat->Int}{L b n:Nat}(f:JD p s C L n)(g:¬p∣lq s C L n)(h:JD p s a b (n+1))(e:a 0=1):n+1<=L+b:=by
 refine gx λo=>g ?_;have l:=VI (λi j=>C i*(a j*s (n-i-j))) (L+1) (b+1)
 have c:p∣sm (λi=>sm (λj=>C i*(a j*s (n-i-j))) (b+1)) (L+1):=by
  refine RC _ λi q=> ?_;rw[vv];exact iY (h (n-i) Oa Oa)
 rw[l]at c
 have d:∀j,sm (λi=>C i*(a j*s (n-i-j))) (L+1)=a j*lq s C L (n-j):=λj=>by
  unfold lq
  grind [vv,qj]
 rw[qj _ (λj k=>d j),show b+1=1+b by omega,Bf,ahq,e,yP]at c;refine(Int.dvd_add_left (RC _ λj k=> ?_)).1 c;exact iY (f (n-(1+j)) Oa Oa)
structure BM(p:Int)(s:Nat->Int)(n:Nat)(C B:Nat->Int)(L g:Nat)(b:Int):Prop where
 c0:C 0=1
 cz:∀i,L<i->C i=0
 ln:L<=n
 gen:JD p s C L n
 mini:∀C' L',C' 0=1->JD p s C' L' n->L<=L'
 old:(L=0/\g=n+1/\∀i,0<i->B i=0)\/∃nB LB,nB<n/\g+nB=n/\L+LB=nB+1/\(∀i,LB<i->B i=0)/\JD p s B LB nB/\p∣lq s B LB nB-b
theorem BM.start(p:Int)(s C B:Nat->Int)(a:C 0=1)(d:∀i,0<i->C i=0)(c:∀i,0<i->B i=0)(b:Int):BM p s 0 C B 0 1 b:=
 ⟨a,d,fZ _,λm _ h=>by omega,λ_ _ _ _=>ge _,.inl ⟨rfl,rfl,c⟩⟩
section
variable {p:Int} {s C B:Nat->Int} {n L g:Nat} {b:Int}
theorem JD.mono{m:Nat}(h:JD p s C L n)(c:m<=n):JD p s C L m:=λi a b=>h i a Oa
theorem BM.same(H:BM p s n C B L g b)(l:p∣lq s C L n):BM p s (n+1) C B L (g+1) b:=by
 refine⟨H.c0,H.cz,by have:=H.ln;omega,λm a c=> ?_,λd e f j=>H.mini d e f (j.mono Oa),?_⟩
 ·rcases jh m n with h|h
  ·exact H.gen m a h
  grind
 ·rcases H.old with⟨a,c,i⟩|⟨o,k,a,c,i⟩
  ·grind
  grind
theorem BM.g1(H:BM p s n C B L g b):1<=g:=by
 rcases H.old with⟨a,c,d⟩|⟨f,e,a,c,d⟩<;>omega
def Vn(p t:Int)(C B:Nat->Int)(g size i:Nat):Int:=if g<=i/\i<size then(C i+(p-t)*B (i-g))%p else C i
def oN(L n:Nat):Nat:=if 2*L<=n then n+1-L else L
theorem BM.far(H:BM p s n C B L g b){i:Nat}(hi:oN L n<i)(h:g<=i):B (i-g)=0:=by
 unfold oN at hi;rcases H.old with⟨a,c,d⟩|⟨j,e,a,c,d,f,_⟩
 ·grind
 grind
theorem BM.nx0(H:BM p s n C B L g b)(t:Int)(size:Nat):Vn p t C B g size 0=1:=by
 unfold Vn;rw[gh (by have:=H.g1;omega),H.c0]
theorem BM.nxz(H:BM p s n C B L g b)(t:Int)(size:Nat){i:Nat}(hi:oN L n<i):Vn p t C B g size i=0:=by
 have a:C i=0:=H.cz i (by unfold oN at hi;grind);unfold Vn;split
 ·rename_i h;rw[a,H.far hi h.1];exact On
 ·exact a
theorem BM.nxd(H:BM p s n C B L g b)(t:Int){size:Nat}(c:n+1<size)(i:Nat):p∣Vn p t C B g size i-(C i-t*(if g<=i then B (i-g)else 0)):=by
 unfold Vn;by_cases h:g<=i
 ·by_cases a:i<size
  ·rw[gl ⟨h,a⟩,gl h];have e:(C i+(p-t)*B (i-g))%p=C i+(p-t)*B (i-g)-p*((C i+(p-t)*B (i-g))/p):=by
    rw[ahl]
   rw[e,J3];refine⟨B (i-g)-(C i+(p*B (i-g)-t*B (i-g)))/p,?_⟩
   grind
  ·rw[gh Oa,gl h,H.far (by unfold oN;have:=H.ln;grind) h];exact OK
 ·rw[gh Oa,gh h];exact OK
theorem BM.nxg(H:BM p s n C B L g b){t:Int}{size:Nat}(z:n+1<size)(A:p∣t*b-lq s C L n):JD p s (Vn p t C B g size) (oN L n) (n+1):=by
 intro m D E;have G:L<=oN L n:=DE
 have d:p∣lq s (Vn p t C B g size) (oN L n) m-(sm (λi=>C i*s (m-i)) (oN L n+1)-t*sm (λi=>(if g<=i then B (i-g)else 0)*s (m-i)) (oN L n+1)):=by
  have c:=qk (p:=p) (f:=λi=>Vn p t C B g size i*s (m-i)) (g:=λi=>C i*s (m-i)+(-t)*((if g<=i then B (i-g)else 0)*s (m-i))) (oN L n+1) (λi _=>by
   have j:p∣(Vn p t C B g size i-(C i-t*(if g<=i then B (i-g)else 0)))*s (m-i):=k5 (H.nxd t z i)
   grind)
  rw[xY,vv,Int.neg_mul]at c;rw[show sm (λi=>C i*s (m-i)) (oN L n+1)-t*sm (λi=>(if g<=i then B (i-g)else 0)*s (m-i)) (oN L n+1)=sm (λi=>C i*s (m-i)) (oN L n+1)+ -(t*sm (λi=>(if g<=i then B (i-g)else 0)*s (m-i)) (oN L n+1))from Ct];exact c
 have o:sm (λi=>C i*s (m-i)) (oN L n+1)=lq s C L m:=by
  rw[show oN L n+1=L+1+(oN L n-L)by omega];exact FR _ λi l=>by rw[H.cz i Oa,mP]
 rw[o]at d;rcases H.old with⟨c,j,w⟩|⟨e,a,c,j,w,F,x,y⟩
 ·
  have:oN L n=n+1:=DE;exact Oa
 ·have I:g+a<=oN L n:=(by unfold oN;grind);have q:sm (λi=>(if g<=i then B (i-g)else 0)*s (m-i)) (oN L n+1)=lq s B a (m-g):=by
   rw[show oN L n+1=g+(a+1+(oN L n-g-a))by omega,Bg (λi l=>by grind)];rw[qj (g:=λi=>B i*s (m-g-i)) _ (λi _=>by grind)];exact FR _ λi l=>by grind
  rw[q]at d;have r:p∣lq s C L m-t*lq s B a (m-g):=by
   rcases jh m n with h|h
   ·exact lA (H.gen m Oa h) (iY (x (m-g) Oa Oa))
   ·obtain rfl:m=n:=(by omega);rw[show m-g=e by omega];have k:=iY (b:=t) y;rw[Int.mul_sub]at k;have v:=nS k A;rw[show t*lq s B a e-t*b+(t*b-lq s C L m)= -(lq s C L m-t*lq s B a e)by omega]at v;exact OK
  have:=nS d r
  grind
theorem BM.grow(H:BM p s n C B L g b){t d:Int}{size:Nat}(i:n+1<size)(j:p∣t*b-lq s C L n)(c:¬p∣lq s C L n)(e:p∣lq s C L n-d)(o:2*L<=n):BM p s (n+1) (Vn p t C B g size) C (n+1-L) 1 d:=by
 have h:oN L n=n+1-L:=DE;refine⟨H.nx0 t size,λr q=>H.nxz t size Oa,by omega,by rw[<-h];exact H.nxg i j,λk l a f=> ?_,.inr ⟨n,L,by omega,by omega,by omega,H.cz,H.gen,e⟩⟩;have:=acs H.gen c f a;exact Oa
theorem BM.keep(H:BM p s n C B L g b){t:Int}{size:Nat}(j:n+1<size)(k:p∣t*b-lq s C L n)(o:¬2*L<=n):BM p s (n+1) (Vn p t C B g size) B L (g+1) b:=by
 have r:oN L n=L:=DE;refine⟨H.nx0 t size,λv q=>H.nxz t size Oa,by have:=H.ln;omega,?_,λa c d i=>H.mini a c d (i.mono Oa),?_⟩
 ·have:=H.nxg j k
  grind
 ·rcases H.old with⟨e,f,h⟩|⟨w,l,e,f,h⟩
  ·exact Oa
  grind
end
end
theorem ai1(taps l:gP):∀j,ym taps l j=sm (λj=>taps.getD j 0*l.getD (l.length-1-j) 0) j
 |0=>rfl
 |j+1=>by rw[ym,sm,ai1 taps l j]
theorem RD(f:Nat->Int):∀n,sm (λi=> -f i) n= -sm f n
 |0=>rfl
 |n+1=>by simp only[sm];rw[RD f n];omega
def Lv(p:Int)(C:Nat->Int)(L:Nat):gP:=(List.range L).map λj=>(p-C (j+1))%p
theorem ae4{p:Int}{C:Nat->Int}{L j:Nat}(h:j<L):(Lv p C L).getD j 0=(p-C (j+1))%p:=by
 rw[gc,Lv,gY,i7 h];rfl
theorem y9(p:Int)(C:Nat->Int)(L:Nat):(Lv p C L).length=L:=by simp[Lv]
theorem Z8{p:Int}(hp:0<p)(C:Nat->Int)(L:Nat):∀x∈Lv p C L,0<=x/\x<p:=by
 intro x a;obtain⟨j,_,rfl⟩:=gK.1 a;exact Pk
section
theorem te{p a b:Int}(h:p∣a)(e:a=b):p∣b:=e▸h
def o7(A x:Nat->Int)(n:Nat):Int:=sm (λj=>A j*x j) n-A n
def Li(p:Int)(R n:Nat)(M:Nat->Nat->Int)(x:Nat->Int):Prop:=∀i,i<R->p∣o7 (M i) x n
theorem VB{p k l:Int}{A B C x:Nat->Int}{n:Nat}(h:∀j,j<=n->p∣A j-(k*B j+l*C j)):p∣o7 A x n-(k*o7 B x n+l*o7 C x n):=by
 have a:=qk (p:=p) (f:=λj=>A j*x j) (g:=λj=>k*(B j*x j)+l*(C j*x j)) n (λj d=>by
  have:=k5 (c:=x j) (h j Oa)
  grind)
 rw[xY,vv,vv]at a;have b:=lA a (h n (fZ _))
 grind [o7]
theorem F0S{f:Nat->Int}{k:Nat}:∀n,k<n->(∀i,i<n->i≠k->f i=0)->sm f n=f k
 |0,h,_=>Oa
 |n+1,h,a=>by
  rw[sm];by_cases e:k=n
  ·grind [se]
  ·rw[F0S n Oa (λi c b=>a i Oa b),a n Oa Oa];exact Oa
def El(a w i:Nat):Nat:=if i=a then w else if i=w then a else i
theorem FW(a w i:Nat):El a w (El a w i)=i:=by grind [El]
theorem si{a w i R:Nat}(b:a<R)(c:w<R)(hi:i<R):El a w i<R:=by grind [El]
def swM(M:Nat->Nat->Int)(a w i j:Nat):Int:=M (El a w i) j
def Be(p:Int)(M:Nat->Nat->Int)(a:Nat)(v:Int)(u x y:Nat):Int:=if x=a/\y<u then(M a y*v)%p else M x y
def WS(p:Int)(M:Nat->Nat->Int)(a:Nat)(f:Int)(i u x y:Nat):Int:=if x=i/\y<u then(M i y-f*M a y)%p else M x y
def uC(p:Int)(M:Nat->Nat->Int)(a c i x y:Nat):Int:=if x<i/\x≠a then(M x y-M x c*M a y)%p else M x y
def upN(e:Nat->Nat)(a c t:Nat):Nat:=if t=a then c else e t
structure oy(p:Int)(R n:Nat)(M0 M:Nat->Nat->Int)(c a:Nat)(e:Nat->Nat):Prop where
 en:∀i,i<R->∀j,j<=n->0<=M i j/\M i j<p
 so:∀x,Li p R n M0 x↔Li p R n M x
 cn:c<=n
 ac:a<=c
 aR:a<=R
 pv:∀t,t<a->e t<c
 un:∀t,t<a->∀i,i<R->M i (e t)=if i=t then 1 else 0
 ze:∀i,a<=i->i<R->∀j,j<c->M i j=0
 fr:(a=c/\∀t,t<a->e t=t)\/∃d,d<c/\∀t,t<a->e t≠d
theorem oy.start{p:Int}{R n:Nat}{M:Nat->Nat->Int}(h:∀i,i<R->∀j,j<=n->0<=M i j/\M i j<p)(e:Nat->Nat):oy p R n M M 0 0 e:=
 ⟨h,λ_=>Iff.rfl,ge _,fZ _,ge _,λt h=>by omega,λt h=>by omega,λi _ _ j h=>by omega,.inl ⟨rfl,λt h=>by omega⟩⟩
section
variable {p:Int} {R n:Nat} {M0 M:Nat->Nat->Int} {c a:Nat} {e:Nat->Nat}
theorem oy.skip(H:oy p R n M0 M c a e)(g:c<n)(h:∀i,a<=i->i<R->M i c=0):oy p R n M0 M (c+1) a e where
 en:=H.en
 so:=H.so
 cn:=Oa
 ac:=by have:=H.ac;omega
 aR:=H.aR
 pv:=λt b=>by have:=H.pv t b;omega
 un:=H.un
 ze:=λi d f j k=>by
  by_cases e:j=c
  ·grind
  ·exact H.ze i d f j Oa
 fr:= .inr ⟨c,by omega,λt b e=>by have:=H.pv t b;omega⟩
theorem oy.swap(H:oy p R n M0 M c a e){w:Nat}(o:a<=w)(d:w<R):oy p R n M0 (swM M a w) c a e where
 en:=λi b j f=>H.en _ (si Oa d b) j f
 so:=λx=>(H.so x).trans ⟨λh i b=>h (El a w i) (si Oa d b),λh i b=>by
  have:=h (El a w i) (si Oa d b);unfold swM at this;rw[FW]at this
  exact this⟩
 cn:=H.cn
 ac:=H.ac
 aR:=H.aR
 pv:=H.pv
 un:=λt l i b=>by
  have g:=H.un t l (El a w i) (si Oa d b);show M (El a w i) (e t)=_;rw[g];unfold El
  grind
 ze:=λi g k j f=>H.ze _ (by unfold El;grind) (si Oa d k) j f
 fr:=H.fr
theorem rH(p x:Int):p∣x%p-x:=⟨-(x/p),by rw[ahl,Int.mul_neg];omega⟩
theorem oy.scale(H:oy p R n M0 M c a e)(hp:0<p)(q:a<R){v:Int}(w:p∣M a c*v-1):oy p R n M0 (Be p M a v (n+1)) c a e where
 en:=λi d k j=>by
  unfold Be;split
  ·exact Pk
  ·exact H.en i d k j
 so:=λx=>(H.so x).trans (by
  have o:p∣o7 (Be p M a v (n+1) a) x n-(v*o7 (M a) x n+0*o7 (M a) x n):=VB λk j=>by
   unfold Be;rw[gl ⟨rfl,by omega⟩,mP,Int.add_zero,Ga v];exact rH _ _
  rw[mP,Int.add_zero]at o;have r:∀i,i≠a->o7 (Be p M a v (n+1) i) x n=o7 (M i) x n:=λi d=>by
   unfold Be;exact OK
  constructor
  ·intro h i d;by_cases e:i=a
   ·subst e;have:=nS o (iY (b:=v) (h i d))
    grind
   ·rw[r i e];exact h i d
  ·intro h i d;by_cases e:i=a
   ·subst e;have f:=lA (h i d) o;rw[show o7 (Be p M i v (n+1) i) x n-(o7 (Be p M i v (n+1) i) x n-v*o7 (M i) x n)=v*o7 (M i) x n by omega]at f;have g:=iY (b:=M i c) f;have l:=k5 (c:=o7 (M i) x n) w;rw[J3,yP,BJ]at l;have y:=lA g l
    grind
   ·rw[<-r i e];exact h i d)
 cn:=H.cn
 ac:=H.ac
 aR:=H.aR
 pv:=H.pv
 un:=λt s i d=>by
  have f:=H.un t s i d;have g:=H.un t s a q;rw[gh Oa]at g;unfold Be;split
  ·exact OK
  ·exact f
 ze:=λi f g k j=>by
  unfold Be;split
  ·rename_i l;rw[H.ze a (fZ _) q k j,mP,Int.zero_emod]
  ·exact H.ze i f g k j
 fr:=H.fr
theorem oy.elim(H:oy p R n M0 M c a e)(hp:0<p)(k:a<R)(E:c<n)(D:M a c=1):oy p R n M0 (uC p M a c R) (c+1) (a+1) (upN e a c) where
 en:=λi d j l=>by
  unfold uC;split
  ·exact Pk
  ·exact H.en i d j l
 so:=λx=>(H.so x).trans (by
  have s:o7 (uC p M a c R a) x n=o7 (M a) x n:=by
   unfold uC
   grind
  have y:∀i,i<R->i≠a->p∣o7 (uC p M a c R i) x n-(1*o7 (M i) x n+(-(M i c))*o7 (M a) x n):=λi d A=>VB λj l=>by
   unfold uC;rw[gl ⟨d,A⟩,yP,Int.neg_mul,<-Ct];exact rH _ _
  constructor
  ·intro h i d;by_cases e:i=a
   ·subst e;rw[s];exact h i d
   ·have:=nS (y i d e) (nS (iY (b:=1) (h i d)) (iY (b:= -(M i c)) (h a k)))
    grind
  ·intro h i d;have g:=h a k;rw[s]at g;by_cases e:i=a
   ·grind
   ·have f:=lA (lA (h i d) (y i d e)) (iY (b:= -(M i c)) g)
    grind)
 cn:=Oa
 ac:=by have:=H.ac;omega
 aR:=Oa
 pv:=λt o=>by
  unfold upN;split
  ·exact Oa
  ·have:=H.pv t Oa;omega
 un:=λt o i d=>by
  unfold upN;by_cases v:t=a
  ·subst v;rw[gl rfl];unfold uC;exact OK
  ·rw[gh v];have q:=H.un t Oa i d;have r:=H.un t Oa a k;rw[gh Oa]at r;unfold uC;split
   ·have f:=H.en i d (e t) (by have:=H.pv t Oa;omega);rw[r,Gb,ahn,F9 f.1 f.2,q]
   ·exact q
 ze:=λi C w j l=>by
  unfold uC;rw[gl ⟨w,by omega⟩];by_cases B:j=c
  ·exact OK
  ·rw[H.ze i Oa w j Oa,H.ze a (fZ _) k j Oa,Gb,Int.sub_self,Int.zero_emod]
 fr:=by
  rcases H.fr with⟨g,f⟩|⟨z,g,f⟩
  ·left;refine⟨by omega,λt o=> ?_⟩;unfold upN
   grind
  ·right;refine⟨z,by omega,λt o=> ?_⟩;unfold upN
   grind
end
def S4(p:Int)(R n:Nat)(M:Nat->Nat->Int)(t:Int)(u:gP):Prop:=
 (t=0/\u=[]/\∀x,¬Li p R n M x)\/
 (t=2/\u=[]/\∃x y,Li p R n M x/\Li p R n M y/\∃j,j<n/\¬p∣x j-y j)\/
 (t=1/\n<=R/\u.length=n/\(∀x∈u,0<=x/\x<p)/\Li p R n M (λj=>u.getD j 0))
section
variable {p:Int} {R n:Nat} {M0 M:Nat->Nat->Int} {a:Nat} {e:Nat->Nat}
theorem oy.none(H:oy p R n M0 M n a e){i:Nat}(d:a<=i)(b:i<R)(k:M i n≠0):∀x,¬Li p R n M0 x:=by
 intro x h;have c:=(H.so x).1 h i b;unfold o7 at c;rw[se n (λj g=>by rw[H.ze i d b j g,mP]),Int.zero_sub]at c;have f:=(yO).1 c;have l:=H.en i b n (fZ _);have:=aeh Oa f;exact Oa
theorem oy.inj(H:oy p R n M0 M n a e){t s:Nat}(c:t<a)(b:s<a)(g:e t=e s):t=s:=by
 have d:=H.un t c t (by have:=H.aR;omega);have f:=H.un s b t (by have:=H.aR;omega)
 grind
open Classical in
noncomputable def pk(a:Nat)(e:Nat->Nat)(b:Nat->Int)(j:Nat):Int:=if h:∃t,t<a/\e t=j then b (Classical.choose h)else 0
theorem oy.pk_at(H:oy p R n M0 M n a e)(b:Nat->Int){t:Nat}(c:t<a):pk a e b (e t)=b t:=by
 have h:∃s,s<a/\e s=e t:=⟨t,c,rfl⟩;unfold pk;rw[dif_pos h];have:=kh h;rw[H.inj this.1 c this.2]
theorem ac5{a:Nat}{e:Nat->Nat}{b:Nat->Int}{j:Nat}(h:∀t,t<a->e t≠j):pk a e b j=0:=by
 unfold pk
 grind
theorem oy.pk_sm(H:oy p R n M0 M n a e)(b:Nat->Int){i:Nat}(hi:i<a):sm (λj=>M i j*pk a e b j) n=b i:=by
 have g:=H.aR;rw[F0S (k:=e i) n (H.pv i hi) (λj l f=> ?_),H.un i hi i Oa,gl rfl,H.pk_at b hi,yP];by_cases h:∃t,t<a/\e t=j
 ·obtain⟨t,c,rfl⟩:=h;rw[H.un t c i Oa,gh (λh=>f (by rw[h])),mP]
 ·rw[ac5 (λt c d=>h ⟨t,c,d⟩),Gb]
theorem oy.two(H:oy p R n M0 M n a e)(B:1<p)(o:∀i,a<=i->i<R->M i n=0)(v:a<n):∃x y,Li p R n M0 x/\Li p R n M0 y/\∃j,j<n/\¬p∣x j-y j:=by
 obtain⟨d,c,f⟩:∃d,d<n/\∀t,t<a->e t≠d:=by
  rcases H.fr with⟨h,_⟩|h
  ·exact Oa
  ·exact h
 have g:∀z:Nat->Int,(∀i,i<a->sm (λj=>M i j*z j) n=M i n)->Li p R n M0 z:=λz C=>(H.so z).2 λi b=>by
  unfold o7;by_cases w:i<a
  ·exact OK
  ·rw[se n (λj r=>by rw[H.ze i Oa b j r,mP]),o i Oa b];exact Int.dvd_zero _
 refine⟨pk a e (λi=>M i n),λj=>pk a e (λi=>M i n-M i d) j+if j=d then 1 else 0,g _ λi b=>H.pk_sm _ b,g _ λi b=> ?_,d,c,?_⟩
 ·have l:sm (λj=>M i j*(pk a e (λi=>M i n-M i d) j+if j=d then 1 else 0)) n=sm (λj=>M i j*pk a e (λi=>M i n-M i d) j) n+sm (λj=>M i j*if j=d then 1 else 0) n:=by
   rw[<-xY]
   grind
  rw[l,H.pk_sm _ b,F0S (k:=d) n c (λj _ A=>by grind),gl rfl,Int.mul_one];exact Oa
 ·show¬p∣pk a e _ d-(pk a e _ d+if d=d then 1 else 0);rw[ac5 f,ac5 f,gl rfl];intro h;have q:=(yO).1 (show p∣-(1:Int)by grind);have s:=aeh Oa q;exact Oa
theorem oy.one(H:oy p R n M0 M n a e)(L:¬a<n):n<=R/\Li p R n M0 (λj=>M j n)\/∃i,a<=i/\i<R/\M i n≠0:=by
 have N:=H.ac;have K:=H.aR;by_cases G:∃i,a<=i/\i<R/\M i n≠0
 ·grind
 ·refine .inl ⟨by omega,(H.so _).2 λi b=> ?_⟩;obtain⟨r,B⟩:a=n/\∀t,t<a->e t=t:=by
   rcases H.fr with A|⟨d,r,B⟩
   ·exact A
   ·
    exfalso;have J:∀k (f:Nat->Nat),(∀t,t<k->f t<k)->(∀t s,t<k->s<k->f t=f s->t=s)->∀d,d<k->∃t,t<k/\f t=d:=by
     intro k
     induction k with
     |zero=>omega
     |succ k q=>
      intro f Q b d O
      let g:=λt=>if f t=k then f k else f t
      by_cases S:f k=k
      ·by_cases D:d=k
       ·grind
       ·have l:∀t,t<k->f t<k:=λt c=>by
         grind
        obtain⟨t,c,o⟩:=q f l (λt s h C x=>b t s Oa Oa x) d Oa
        grind
      ·have E:f k<k:=(by grind);have l:∀t,t<k->g t<k:=λt c=>by
        grind
       have y:∀t s,t<k->s<k->g t=g s->t=s:=λt s h C x=>by
        by_cases c1:f t=k<;>by_cases c2:f s=k
        ·grind
        ·grind
        ·grind
        grind
       by_cases D:d=f k
       ·grind
       ·by_cases P:d=k
        ·
         obtain⟨t,c,o⟩:=q g l y (f k) E
         grind
        ·obtain⟨t,c,o⟩:=q g l y d Oa;by_cases c1:f t=k
         ·grind
         grind
    obtain⟨t,c,o⟩:=J n e (λt c=>H.pv t Oa) (λt s v w h=>H.inj Oa Oa h) d r
    grind
  have I:∀i,a<=i->i<R->M i n=0:=λi v w=>gx λh=>G ⟨i,v,w,h⟩;unfold o7;by_cases F:i<a
  ·rw[F0S (k:=i) n Oa (λj z T=> ?_)]
   ·have:=H.un i F i b;exact OK
   ·have:=H.un j Oa i b
    grind
  ·rw[se n (λj z=>by rw[H.ze i Oa b j z,mP]),I i Oa b];exact Int.dvd_zero _
end
end
end Go.Proofs.YtnnaadmegeeinaaGreatDoor
namespace Go.Proofs.YtnnaadmegeeinaaGreatDoor.Lex
open Tryz Go.Proofs.Tryz
def ahead:gP->gP->Bool
 |[],[]=>false
 |[],_::_=>true
 |_::_,[]=>false
 |x::l,y::m=>if x=y then ahead l m else decide (x<y)
theorem vL:∀l,ahead l l=false
 |[]=>rfl
 |x::l=>by simp[ahead,vL l]
theorem ahead_trans:∀{a b c:gP},ahead a b=true->ahead b c=true->ahead a c=true
 |[],[],_,h,_=>Oa
 |[],_::_,[],_,h=>by simp[ahead]at h
 |[],_::_,_::_,_,_=>rfl
 |_::_,[],_,h,_=>by simp[ahead]at h
 |_::_,_::_,[],_,h=>by simp[ahead]at h
 |x::a,y::b,z::c,h,k=>by
  simp only[ahead]at h k⊢;by_cases d:x=y
  ·by_cases e:y=z
   ·rw[gl d]at h;rw[gl e]at k;rw[gl (d.trans e)];exact ahead_trans h k
   grind
  grind
theorem ahead_asymm{a b:gP}(h:ahead a b=true):ahead b a=false:=by
 grind [ahead_trans,vL]
theorem ahead_total{a b:gP}(h:a≠b):ahead a b=true\/ahead b a=true:=by
 induction a generalizing b with
 |nil=>cases b with
  |nil=>grind
  |cons=>exact .inl rfl
 |cons x a c=>cases b with
  |nil=>exact .inr rfl
  |cons y b=>
   simp only[ahead]
   grind
theorem als{a b p s:gP}(h:a++b=p++s):(∃x,a=p++x/\s=x++b)\/(∃c,p=a++c/\b=c++s):=by
 grind [List.append_eq_append_iff]
end Go.Proofs.YtnnaadmegeeinaaGreatDoor.Lex
namespace Go.Proofs.YtnnaadmegeeinaaGreatDoor
open Tryz Go.Proofs.Tryz
open Go.RowKit
def mj:Nat->(Nat->Bool)->Nat
 |0,_=>0
 |n+1,p=>mj n p+if p n then 1 else 0
theorem mD:∀{n:Nat}{p q:Nat->Bool},(∀i,i<n->p i=true->q i=true)->mj n p<=mj n q
 |0,_,_,_=>fZ _
 |n+1,p,q,h=>by
  have a:=mD (n:=n) (p:=p) (q:=q) λi b=>h i Oa
  grind [mj]
theorem uU:∀(n:Nat)(p q:Nat->Bool),mj n (λi=>p i||q i)+mj n (λi=>p i&&q i)=mj n p+mj n q
 |0,_,_=>rfl
 |n+1,p,q=>by
  have h:=uU n p q
  grind [mj]
theorem EO:∀(n:Nat)(p:Nat->Bool),mj n (λi=> !p i)+mj n p=n
 |0,_=>rfl
 |n+1,p=>by
  have h:=EO n p
  grind [mj]
theorem qy:∀{n a:Nat},a<n->mj n (λi=>decide (i=a))=1
 |n+1,a,h=>by
  unfold mj;by_cases e:n=a
  ·subst e;have:∀m,m<=n->mj m (λi=>decide (i=n))=0:=λm=>by
    induction m with
    |zero=>intro _;rfl
    |succ m b=>grind [mj]
   grind
  ·rw[qy (n:=n) (a:=a) Oa];simp[e]
theorem LC{n:Nat}{p:Nat->Bool}{a:Nat}(h:∀i,i<n->p i=true->i=a):mj n p<=1:=by
 by_cases d:a<n
 ·rw[<-qy d];exact mD λi b c=>gy (h i b c)
 ·have:mj n p<=mj n (λ_=>false):=mD λi b c=>absurd (h i b c) Oa;have e:∀m,mj m (λ_=>false)=0:=λm=>MR
  grind
theorem xi:∀{n:Nat}{p:Nat->Bool},1<=mj n p->∃i,i<n/\p i=true
 |0,_,h=>absurd h (Nat.not_succ_le_zero 0)
 |n+1,p,h=>by
  by_cases c:p n=true
  ·grind
  ·have:1<=mj n p:=(by grind [mj]);obtain⟨i,b,a⟩:=xi this
   grind
theorem aas{n:Nat}{p q:Nat->Bool}(h:∀i,i<n->p i=true->q i=true){a:Nat}(c:a<n)(l:q a=true)(k:p a=false):mj n p<mj n q:=by
 have b:=uU n p (λi=>decide (i=a));rw[qy c]at b;have f:mj n (λi=>p i||decide (i=a))<=mj n q:=mD λi e j=>by
  grind
 have g:mj n (λi=>p i&&decide (i=a))=0:=by
  have:¬1<=mj n (λi=>p i&&decide (i=a)):=λd=>by
   obtain⟨i,_,e⟩:=xi d
   grind
  exact Oa
 exact Oa
def JQ(n:Nat)(A:Nat->Nat->Bool)(P:Nat->Bool)(c:Nat):Bool:=(List.range n).any λj=>P j&&A j c
theorem oQ{n:Nat}{A:Nat->Nat->Bool}{P:Nat->Bool}{c:Nat}:JQ n A P c=true↔∃j,j<n/\P j=true/\A j c=true:=by
 simp[JQ,iG]
def sR(n:Nat)(A:Nat->Nat->Bool):Prop:=∀P:Nat->Bool,mj n P<=mj n (JQ n A P)
def nj(A:Nat->Nat->Bool)(i x j c:Nat):Bool:=A j c&& !(decide (j=i)&&decide (c=x))
theorem amt{n:Nat}{A:Nat->Nat->Bool}(H:sR n A){i x y:Nat}(hi:i<n)(I:x≠y):sR n (nj A i x)\/sR n (nj A i y):=by
 refine gx λe=> ?_;have p:¬sR n (nj A i x):=λh=>e (.inl h);have q:¬sR n (nj A i y):=λh=>e (.inr h);obtain⟨P,k⟩:=akj.1 p;obtain⟨Q,l⟩:=akj.1 q;have f:∀(z:Nat)(R:Nat->Bool),¬mj n R<=mj n (JQ n (nj A i z) R)->R i=true:=λz R o=>by
  cases G:R i with
  |true=>rfl
  |false=>
   refine absurd (gt (H R) (mD λc _ b=> ?_)) o
   grind [oQ,nj]
 have D:=f x P k;have E:=f y Q l;have B:=uU n (JQ n (nj A i x) P) (JQ n (nj A i y) Q);have C:=uU n P Q;have s:=H λj=>P j||Q j;have t:=H λj=>(P j&&Q j)&& !decide (j=i);have v:mj n (JQ n A λj=>P j||Q j)<=mj n (λc=>JQ n (nj A i x) P c||JQ n (nj A i y) Q c):=mD λc _ b=>by
  obtain⟨j,r,a,d⟩:=oQ.1 b;rw[kD];by_cases F:j=i
  ·grind [oQ,nj]
  ·rcases kD _ _▸a with g|g
   ·grind [oQ,nj]
   grind [oQ,nj]
 have w:mj n (JQ n A λj=>(P j&&Q j)&& !decide (j=i))<=mj n (λc=>JQ n (nj A i x) P c&&JQ n (nj A i y) Q c):=mD λc _ b=>by
  obtain⟨j,r,a,d⟩:=oQ.1 b;simp only[ia,pE,kw]at a;rw[ia]
  grind [oQ,nj]
 have c2:mj n (λj=>P j&&Q j)<=mj n (λj=>(P j&&Q j)&& !decide (j=i))+1:=by
  have a:=uU n (λj=>(P j&&Q j)&& !decide (j=i)) (λj=>decide (j=i));rw[qy hi]at a;have d:mj n (λj=>P j&&Q j)<=mj n (λj=>((P j&&Q j)&& !decide (j=i))||decide (j=i)):=mD λj _ h=>by
   grind
  exact Oa
 exact Oa
theorem adC{n i:Nat}(hi:i<n):∀(s:Nat)(A:Nat->Nat->Bool),mj n (A i)<=s->sR n A->∃A',sR n A'/\(∀j c,A' j c=true->A j c=true)/\(∀x y,x<n->y<n->A' i x=true->A' i y=true->x=y)
 |s,A,r,H=>by
  by_cases h:∃x y,x<n/\y<n/\A i x=true/\A i y=true/\x≠y
  ·obtain⟨x,y,e,f,b,d,p⟩:=h;have g:∀z,z<n->A i z=true->mj n (nj A i z i)<mj n (A i):=λz q k=>aas (a:=z) (λc _ l=>by grind [nj]) q k (by simp[nj])
   match s with
   |0=>grind
   |s+1=>
    have v:=g x e b;have w:=g y f d;have t:∀z j c,nj A i z j c=true->A j c=true:=(λz j c l=>by grind [nj]);rcases amt H hi p with H1|H1
    ·exact QX
    ·exact QX
  ·refine⟨A,H,λ_ _ h=>h,λx y e f b d=>gx λo=>h ⟨x,y,e,f,b,d,o⟩⟩
theorem VF{n:Nat}{A:Nat->Nat->Bool}(H:sR n A):∀k,k<=n->∃a,sR n a/\(∀j c,a j c=true->A j c=true)/\(∀i,i<k->∀x y,x<n->y<n->a i x=true->a i y=true->x=y)
 |0,_=>⟨A,H,λ_ _ h=>h,λi d=>absurd d Oa⟩
 |k+1,q=>by
  obtain⟨a,b,o,p⟩:=VF H k Oa;obtain⟨e,f,g,l⟩:=adC (show k<n by omega) _ a (fZ _) b
  grind
theorem lM{n:Nat}{A:Nat->Nat->Bool}(H:sR n A):∃f:Nat->Nat,(∀j,j<n->f j<n/\A j (f j)=true)/\∀i j,i<n->j<n->f i=f j->i=j:=by
 obtain⟨o,p,x,y⟩:=VF H n (fZ _);have d:∀j,∃c,j<n->c<n/\o j c=true:=λj=>by
  by_cases b:j<n
  ·have e:=p λi=>decide (i=j);rw[qy b]at e;obtain⟨c,h,g⟩:=xi e;obtain⟨i,l,r,s⟩:=oQ.1 g
   grind
  ·exact⟨0,λq=>absurd q b⟩
 refine⟨λj=>Classical.choose (d j),λj b=> ?_,λi j l b w=> ?_⟩
 ·grind
 ·refine gx λC=> ?_;have D:=kh (d i) l;have E:=kh (d j) b;have e:=p λk=>decide (k=i)||decide (k=j);have g:=uU n (λk=>decide (k=i)) (λk=>decide (k=j));rw[qy l,qy b]at g;have r:¬1<=mj n (λk=>decide (k=i)&&decide (k=j)):=λh=>by
   obtain⟨k,_,v⟩:=xi h
   grind
  have s:mj n (JQ n o λk=>decide (k=i)||decide (k=j))<=1:=LC (a:=Classical.choose (d i)) λc h t=>by
   obtain⟨k,v,z,B⟩:=oQ.1 t
   grind
  exact Oa
def sg:Nat->(Nat->Nat)->Nat
 |0,_=>0
 |n+1,f=>sg n f+f n
theorem Ej{f g:Nat->Nat}:∀{n:Nat},(∀i,i<n->f i<=g i)->sg n f<=sg n g
 |0,_=>fZ _
 |n+1,h=>by
  have a:=Ej (f:=f) (g:=g) (n:=n) λi b=>h i Oa
  grind [sg]
theorem Jk(f g:Nat->Nat):∀n,sg n (λi=>f i+g i)=sg n f+sg n g
 |0=>rfl
 |n+1=>by unfold sg;rw[Jk f g n];grind
theorem zF(d:Nat)(p:Nat->Bool):∀n,sg n (λi=>if p i then d else 0)=d*mj n p
 |0=>rfl
 |n+1=>by
  unfold sg mj;rw[zF d p n,yV]
  grind
theorem ahU(B:Nat->Nat->Bool)(m:Nat):∀n,sg n (λj=>mj m (B j))=sg m (λc=>mj n λj=>B j c)
 |0=>by
  have:∀m,sg m (λc=>mj 0 λj=>B j c)=0:=λm=>by
   induction m with
   |zero=>rfl
   |succ m b=>unfold sg;rw[b];rfl
  rw[this];rfl
 |n+1=>by
  have a:(λc=>mj (n+1) λj=>B j c)=λc=>(mj n λj=>B j c)+if B n c then 1 else 0:=rfl;rw[a,Jk,zF,qU,<-ahU B m n];rfl
theorem Nl{n d:Nat}{A:Nat->Nat->Bool}(p:1<=d)(o:∀j,j<n->mj n (A j)=d)(b:∀c,c<n->mj n (λj=>A j c)=d):sR n A:=by
 intro P;have a:d*mj n P=sg n (λj=>mj n λc=>P j&&A j c):=by
  rw[<-zF d P];have:∀k,k<=n->sg k (λi=>if P i then d else 0)=sg k (λj=>mj n λc=>P j&&A j c):=λk=>by
   induction k with
   |zero=>intro _;rfl
   |succ k ih=>
    intro r;unfold sg;rw[ih Oa];congr 1;show(if P k=true then d else 0)=mj n λc=>P k&&A k c;cases t:P k with
    |true=>grind
    |false=>
     have:∀m,mj m (λc=>false&&A k c)=0:=λm=>MR
     grind
  grind
 have h:sg n (λc=>mj n λj=>P j&&A j c)<=d*mj n (JQ n A P):=by
  rw[<-zF d (JQ n A P)];refine Ej λc g=> ?_;split
  ·rw[<-b c g];exact mD λj _ l=>by grind
  ·rename_i s;have:¬1<=mj n (λj=>P j&&A j c):=λe=>by
    obtain⟨j,q,f⟩:=xi e;simp only[ia]at f
    grind [oQ]
   exact Oa
 rw[ahU]at a;exact Nat.le_of_mul_le_mul_left (show d*mj n P<=d*mj n (JQ n A P)by omega) Oa
theorem zc{n:Nat}{g:Nat->Nat}:∀{R:Nat},(∀r,r<R->g r<n)->(∀a b,a<R->b<R->g a=g b->a=b)->mj n (λc=>(List.range R).any λr=>decide (g r=c))=R
 |0,_,_=>by
  have:∀m,mj m (λc=>(List.range 0).any λr=>decide (g r=c))=0:=λm=>MR
  grind
 |R+1,d,h=>by
  have ih:=zc (n:=n) (g:=g) (R:=R) (λr p=>d r Oa) λa b l o=>h a b Oa Oa;have e:=uU n (λc=>(List.range R).any λr=>decide (g r=c)) (λc=>decide (c=g R));rw[qy (d R Oa),ih]at e;have i:(λc=>(List.range (R+1)).any λr=>decide (g r=c))=λc=>((List.range R).any λr=>decide (g r=c))||decide (c=g R):=by
   grind
  have j:¬1<=mj n (λc=>((List.range R).any λr=>decide (g r=c))&&decide (c=g R)):=λf=>by
   obtain⟨c,_,k⟩:=xi f
   grind
  grind
def tM(x:Int)(l:gP):gP:=(l.reverse.dropWhile (·==x)).reverse
theorem YJ(x:Int)(l:gP):tM x (l++[x])=tM x l:=by simp[tM]
theorem YI(x y:Int)(l:gP)(h:y≠x):tM x (l++[y])=l++[y]:=by simp[tM,h]
def GU(l:gP):gP:=match l.reverse with|[]=>[]|x::r=>(((x+1)::r)).reverse
theorem Cz(l:gP)(x:Int):GU (l++[x])=l++[x+1]:=by simp[GU]
def mq(l:gP)(m:Nat):gP:=(List.range m).map λi=>l.getD (i%l.length) 0
theorem N4(l:gP)(m:Nat):mq l (m+1)=mq l m++[l.getD (m%l.length) 0]:=by simp[mq,jc]
theorem xU(l:gP)(m:Nat):(mq l m).length=m:=by simp[mq]
def ro(k:Int)(l:gP)(m:Nat):gP:=GU (tM (k-1) (mq l m))
def vP(k:Int)(n:Nat):Nat->gP->gP->Option gP
 |0,_,_=>none
 |f+1,w,a=>if w.length=0 then some a else vP k n f (ro k w n) (if n%w.length=0 then a++w else a)
def vj(k all code seen:Nat):Nat->Nat->Option Nat
 |0,_=>none
 |f+1,x=>if x<k then(if seen.testBit ((code*k+x)%all)then vj k all code seen f (x+1)else some x)else none
def mF(k all:Nat):Nat->Nat->Nat->gP->gP
 |0,_,_,b=>b
 |f+1,a,seen,b=>match vj k all a seen (k+1) 0 with
  |some x=>mF k all f ((a*k+x)%all) (seen|||2^((a*k+x)%all)) ((x:Int)::b)
  |none=>mF k all f a seen b
def nM(k n:Nat):gP:=(mF k (k^n) (k^n) (k^n-1) 0 []).reverse
def xe:gP->gP->Option gP
 |[],g=>some g
 |x::l,y::g=>if x=y then xe l g else none
 |_::_,[]=>none
theorem x9:∀{l g r:gP},xe l g=some r->g=l++r
 |[],g,r,h=>by grind [xe]
 |x::l,y::g,r,h=>by
  simp only[xe]at h;split at h
  ·rename_i e;rw[e,x9 h];rfl
  ·exact Sb
 |_::_,[],_,h=>by simp[xe]at h
def zT(k:Int)(n:Nat):Nat->gP->gP->Bool
 |0,_,_=>false
 |f+1,w,g=>match w with
  |[]=>g.isEmpty
  |x::w=>if n%(x::w).length=0 then(match xe (x::w) g with|some r=>zT k n f (ro k (x::w) n) r|none=>false)else zT k n f (ro k (x::w) n) g
theorem uR{k:Int}{n:Nat}:∀{f:Nat}{w g out:gP},zT k n f w g=true->vP k n f w out=some (out++g)
 |0,_,_,_,h=>by simp[zT]at h
 |f+1,[],g,out,h=>by
  grind [zT,vP]
 |f+1,x::w,g,out,h=>by
  simp only[zT]at h;simp only[vP];rw[gh On];split at h
  ·rename_i a;rw[gl a];split at h
   ·rename_i r b;rw[uR h,x9 b,iN]
   ·exact Sb
  ·rename_i a;rw[gh a];exact uR h
def acY(k n:Nat):Bool:=decide (1<=k/\k<=10/\1<=n/\n<=12/\k^n<=4096)
def aad(k n:Nat):Bool:=zT k n 5000 [0] (nM k n)
def zU(k:Nat):Bool:=zO (λn=> !acY k n||aad k n) 13
theorem akP:zU 1=true:=OH
theorem akQ:zU 2=true:=OH
theorem akR:zU 3=true:=OH
theorem akS:zU 4=true:=OH
theorem akT:zU 5=true:=OH
theorem akU:zU 6=true:=OH
theorem akV:zU 7=true:=OH
theorem akW:zU 8=true:=OH
theorem akX:zU 9=true:=OH
theorem aiv:zU 10=true:=OH
theorem akY{k:Nat}(a:1<=k)(b:k<=10):zU k=true:=by
 have:k=1\/k=2\/k=3\/k=4\/k=5\/k=6\/k=7\/k=8\/k=9\/k=10:=Oa;rcases this with rfl|rfl|rfl|rfl|rfl|rfl|rfl|rfl|rfl|rfl
 ·exact akP
 ·exact akQ
 ·exact akR
 ·exact akS
 ·exact akT
 ·exact akU
 ·exact akV
 ·exact akW
 ·exact akX
 ·exact aiv
theorem aiw{k n:Nat}(a:1<=k)(b:k<=10)(c:1<=n)(d:n<=12)(e:k^n<=4096):vP k n 5000 [0] []=some (nM k n):=by
 have h:=nI (akY a b) n Oa;have f:acY k n=true:=gy ⟨a,b,c,d,e⟩;rw[f]at h;simp only[qJ,kS]at h;exact uR (out:=[]) h
end Go.Proofs.YtnnaadmegeeinaaGreatDoor
namespace Go.Proofs.YtnnaadmegeeinaaGreatDoor.runAnswers
open Tryz Go.Proofs.Tryz
open Go.RowKit
theorem jX{a b:Bool}(c:a=true)(d:b=true):(a&&b)=true:=by rw[c,d];rfl
theorem c0:(Rows.runAnswersRow.wf (OpenSpec.ofChange Rows.runAnswersSpec))=true:=Ob
theorem c1:(laidOutB prog)=true:=Ob
theorem c2:(mapsRowed prog)=true:=Ob
theorem c3:(f3.params.all (prog.readableRec ·))=true:=Ob
theorem c4:(namedTie prog Rows.runAnswersRow.named Rows.runAnswersSpec.vars)=true:=Ob
theorem c5:((Rows.runAnswersRow.stops==[]))=true:=Ob
theorem c6:((prog.stops==[]))=true:=Ob
theorem c7:((Rows.runAnswersRow.knobs==[]))=true:=Ob
theorem c8:((prog.stopKnobs==[]))=true:=Ob
theorem c9:((Rows.runAnswersRow.inPlace==prog.inPlace 3))=true:=Ob
theorem c10:((Rows.runAnswersRow.unfollowed==prog.unfollowed 3))=true:=Ob
theorem c11:((Rows.runAnswersRow.recurses==prog.recurses 3))=true:=Ob
theorem c12:((Rows.runAnswersRow.named==prog.varsNamed 3))=true:=Ob
theorem c13:((Rows.runAnswersRow.maps==(f3.params.toList++Rows.runAnswersSpec.plain.varTypes prog).any (prog.mapsRec ·)))=true:=Ob
theorem c14:((Rows.runAnswersRow.ifaces==(f3.params.toList++Rows.runAnswersSpec.plain.varTypes prog).any (prog.ifacesRec ·)))=true:=Ob
theorem c15:((Rows.runAnswersRow.mapsOut==prog.mapsAmong f3.resultTypes.toList))=true:=Ob
theorem c16:((Rows.runAnswersRow.loops==(f3.params.toList++Rows.runAnswersSpec.plain.varTypes prog).any (prog.loopsFrom ·)))=true:=Ob
theorem c17:((Rows.runAnswersRow.wideKeys==(f3.params.toList++Rows.runAnswersSpec.plain.varTypes prog++f3.resultTypes.toList).any (prog.wideKeysFrom ·)))=true:=Ob
theorem c18:(Rows.runAnswersSpec.vars.all (prog.varReadable ·))=true:=Ob
theorem c19:(f3.resultTypes.all (λt=>prog.readableRec t&&decide (t<prog.types.size)))=true:=Ob
theorem c20:((Rows.runAnswersRow.ifacesOut==f3.resultTypes.toList.any (prog.ifacesRec ·)))=true:=Ob
theorem c21:((Rows.runAnswersRow.loopsOut==f3.resultTypes.toList.any (prog.loopsFrom ·)))=true:=Ob
theorem c22:((Rows.runAnswersRow.plainKeys==prog.plainKeys))=true:=Ob
theorem c23:(Rows.runAnswersRow.shortTexts.isNone)=true:=Ob
theorem c24:(prog.stopsHeard)=true:=Ob
theorem c25:(prog.mayEnter)=true:=Ob
theorem c26:((Rows.runAnswersRow.lifted==prog.liftsFinal))=true:=Ob
theorem c27:((prog.make==some Rows.runAnswersRow.make))=true:=Ob
theorem c28:((Rows.runAnswersRow.kinds==(if Rows.runAnswersRow.domain.isEmpty then[]else f3.params.toList.map λt=>match prog.underlying t with|some (.int k)=>some k|_=>none)))=true:=Ob
theorem c29:((Rows.runAnswersRow.pinned==Rows.runAnswersRow.pinnedBy))=true:=Ob
theorem c30:((Rows.runAnswersRow.veiled==(f3.params.toList++Rows.runAnswersSpec.plain.varTypes prog++f3.resultTypes.toList).any (prog.veiledRec ·)))=true:=Ob
theorem c31:(Rows.runAnswersRow.veiledFits prog f3.params.toList (f3.params.toList++Rows.runAnswersSpec.plain.varTypes prog++f3.resultTypes.toList))=true:=Ob
theorem closed:joinedFacts prog 3 f3 Rows.runAnswersSpec Rows.runAnswersRow=true:=by
 unfold joinedFacts;exact jX (jX (jX (jX (jX (jX (jX (jX (jX (jX (jX (jX (jX (jX (jX (jX (jX (jX (jX (jX (jX (jX (jX (jX (jX (jX (jX (jX (jX (jX (jX c0 c1) c2) c3) c4) c5) c6) c7) c8) c9) c10) c11) c12) c13) c14) c15) c16) c17) c18) c19) c20) c21) c22) c23) c24) c25) c26) c27) c28) c29) c30) c31
theorem wrapper:f3.isWrapper prog Rows.runAnswersRow.wrapper Rows.runAnswersRow.mainSum:=by unfold Func.isWrapper;first|(rw[gl OH];kernel_rfl)|(rw[gh OH];exact⟨rfl,rfl⟩)
theorem named:prog.funcNamed "parterre/parterrelaw4.RunAnswers" =some 3:=Ob
theorem amp:f3.isInstance prog Rows.runAnswersRow.origin Rows.runAnswersRow.targs:=jy Ob
end Go.Proofs.YtnnaadmegeeinaaGreatDoor.runAnswers
namespace Go.Proofs.YtnnaadmegeeinaaGreatDoor
open Tryz Go.Proofs.Tryz
open Go.RowKit
section
open Go
def gJ(l:iF):ByteArray:=⟨l.toArray⟩
theorem kK(l:iF):(gJ l).data.toList=l:=rfl
theorem iw(l:iF):(gJ l).size=l.length:=by simp[gJ,ByteArray.size]
theorem aj7(s:ByteArray):gJ s.data.toList=s:=rfl
theorem lu(a b:iF):gJ a++gJ b=gJ (a++b):=by
 have c:(gJ a++gJ b).data=(gJ (a++b)).data:=by
  grind [ByteArray.data_append,gJ]
 exact ByteArray.ext c
theorem Ei(l:iF):(gJ l).toList.isEmpty=l.isEmpty:=by rw[jB,kK]
theorem xB{c:UInt8}:∀{a b:iF},c∉a->Lib.index (a++c::b) [c]=a.length
 |[],b,_=>by
  show(if[c].isPrefixOf (c::b)then(0:Int)else _)=0
  grind
 |x::a,b,h=>by
  have f:¬c=x:=λe=>h (by simp[e]);have g:=xB (a:=a) (b:=b) λd=>h (kW _ d);show(if[c].isPrefixOf (x::(a++c::b))then(0:Int)else if Lib.index (a++c::b) [c]== -1 then-1 else Lib.index (a++c::b) [c]+1)=_
  grind
theorem As{c:UInt8}:∀{a:iF},c∉a->Lib.index a [c]= -1
 |[],_=>rfl
 |x::a,h=>by
  have d:¬c=x:=λe=>h (by simp[e]);have f:=As (a:=a) λb=>h (kW _ b);show(if[c].isPrefixOf (x::a)then(0:Int)else if Lib.index a [c]== -1 then-1 else Lib.index a [c]+1)=_
  grind
theorem aiV{c:UInt8}{a b:iF}(h:c∉a):Lib.cut (a++c::b) [c]=(a,b,true):=by
 unfold Lib.cut;rw[xB h,gl Oa];exact OK
theorem agb{xs:List ByteArray}{ws:j9}(h:xs.map (·.data.toList)=ws):xs=ws.map gJ:=by
 rw[<-h,jL];symm;exact(jn λx _=>aj7 x).trans (J9 _)
theorem IP(a:ByteArray):∀(k:Nat)(s:ByteArray),∀x∈Lib.splitB a 0 k s,x.size<=s.size
 |0,s,x,h=>by
  rw[Lib.splitB_zero,jM]at h
  grind
 |k+1,s,x,h=>by
  unfold Lib.splitB at h;split at h
  ·grind
  ·rcases m9.1 h with rfl|h
   ·rw[ByteArray.size_extract];omega
   ·have:=IP a k _ x h
    grind [ByteArray.size_extract]
theorem AZ:∀k,k<100->(∀x∈Lib.decDigits k,48<=x.toNat/\x.toNat<=57)/\1<=(Lib.decDigits k).length/\(Lib.decDigits k).length<=2:=by
 intro k a;have b:∀d,d<10->(UInt8.ofNat (48+d)).toNat=48+d:=λd c=>Oo;by_cases h:k<10
 ·rw[ns h]
  grind
 ·rw[amf h a]
  grind
def inT(c:gA):iF:=Lib.join (c.map Lib.decDigits) [32]
def Hc(c:gA):iF:=40::(inT c++[41])
def nc(cs:kl):iF:=cs.flatMap Hc
def aij(cs:kl):iF:=if nc cs=[]then[40,41]else nc cs
def mg(f:Nat->Nat)(n k:Nat):kl:=(mY f n k).filter λc=>decide (2<=c.length)
def YS(f:Nat->Nat)(n:Nat):iF:=aij (mg f n n)
theorem uQ(cs:kl)(c:gA):nc (cs++[c])=nc cs++Hc c:=by simp[nc]
theorem vg(f:Nat->Nat)(n k:Nat):mg f n (k+1)=mg f n k++(if tq f n k=true/\2<=ui f n k then[xO f (ui f n k) k]else[]):=by
 unfold mg;rw[CG,o8];congr 1;by_cases h:tq f n k=true
 ·by_cases a:2<=ui f n k
  ·rw[gl h,gl ⟨h,a⟩,aeI (by simp[rY,a])];rfl
  ·rw[gl h,gh (λe=>a e.2),List.filter_cons_of_neg (by simp[rY,a])];rfl
 grind
theorem Xf(ws:j9)(w a:iF)(h:ws≠[]):Lib.join (ws++[w]) a=Lib.join ws a++a++w:=by
 cases ws with
 |nil=>grind
 |cons x r=>
  rw[jD,qK,qK];unfold Lib.joinTail;exact On
structure CS(n:Nat)(f:Nat->Nat)(cs:kl):Prop where
 lt:∀c∈cs,∀x∈c,x<n
 nd:cs.flatten.Nodup
 len:∀c∈cs,2<=c.length
 nx:∀c∈cs,∀t,t<c.length->c.getD ((t+1)%c.length) 0=f (c.getD t 0)
 fix:∀x,x<n->x∉cs.flatten->f x=x
theorem Nn{c:gA}(b:∀x∈c,x<100):(inT c).length<=3*c.length:=by
 unfold inT;cases c with
 |nil=>simp[wU]
 |cons x r=>
  rw[jG,qK];have f:=(AZ x (b x On)).2.2;have g:∀r:gA,(∀x∈r,x<100)->(Lib.joinTail [32] (r.map Lib.decDigits)).length<=3*r.length:=by
   intro r
   induction r with
   |nil=>intro _;simp[Lib.joinTail]
   |cons y r e=>
    intro h;have a:=e λz d=>h z (by simp[d]);have i:=(AZ y (h y On)).2.2;unfold Lib.joinTail at a⊢
    grind
  grind
end
end Go.Proofs.YtnnaadmegeeinaaGreatDoor
