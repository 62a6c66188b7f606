/-
  Part 4 of a proof: what it proves stands in the last text.
-/
import Derived.Test.YtnnaadmegeeinaaGreatDoorYc
set_option linter.all false
set_option maxHeartbeats 8000000
set_option maxRecDepth 100000
namespace Go.Proofs.YtnnaadmegeeinaaGreatDoor
open Tryz Go.Proofs.Tryz
open Go.RowKit
def gL:=@beq_eq_false_iff_ne
def gO:=@Int.ofNat_tmod
def ij:=@List.getElem?_cons_succ
def iS:=@Int.ofNat_tdiv
def jl:=@Prod.mk.inj
def jR:=@Nat.div_lt_iff_lt_mul
def jW:=@Int.eq_ofNat_of_zero_le
def my:=@Nat.one_le_pow
def pd:=@Nat.lt_of_le_of_lt
def pH:=@Nat.zero_mul
def qR:=@Int.le_refl
def wY:=@Nat.le_mul_of_pos_left
def yS:=@List.getElem?_append
def BK:=@Int.tdiv_nonpos_of_nonneg_of_nonpos
def BP:=@Nat.mul_assoc
def Gf:=@Nat.pow_zero
def R8:=@Int.natCast_add
def Y1:=@Int.tdiv_eq_ediv_of_nonneg
def Y5:=@Nat.testBit_two_pow_add_eq
def ahp:=@Nat.add_comm
theorem Mn{p:Prop}(h:p:=by exact⟨⟨_,rfl,HX.out.1⟩,HX.out.2⟩):p:=h
theorem My{p:Prop}(h:p:=by
 go_wp2;go_ret2
 exact⟨rfl,HB.out⟩):p:=h
theorem MW{p:Prop}(h:p:=by
 go_wp2;go_ret
 exact⟨rfl,HB.out⟩):p:=h
theorem Sr{p:Prop}(h:p:=by rw[cf.out];omega):p:=h
theorem SA{p:Prop}(h:p:=by
 have cI:=gb (cj.out rfl);go_wp2;go_roundw
 case rel=>exact⟨H+1,by go_num,by omega,cI,by grind⟩
 case measure=>exact gQ):p:=h
theorem SH{p:Prop}(h:p:=by
 go_wp2;go_region;go_wp2;go_roundw
 case rel=>exact⟨H+1,n+1,by go_num,by omega,HS,rfl⟩
 case measure=>exact gQ):p:=h
theorem SZ{p:Prop}(h:p:=by
 clear aD au aI aU ho aC;go_roundw
 case rel=>exact⟨H+1,by omega,by go_num,HX.out.1,HX.out.2⟩
 case measure=>exact gQ):p:=h
theorem UC{p:Prop}(h:p:=by
 go_wp2;go_round
 case rel=>exact⟨k+1,by omega,by go_num,be⟩
 case measure=>exact gQ):p:=h
theorem UT{p:Prop}(h:p:=by
 subst e2;clear d5 e9;go_wp2;go_ret2
 exact⟨rfl,aT.out⟩):p:=h
theorem Kq{p:Prop}(h:p:=by
 go_wp2;go_ret
 exact⟨by rw[<-HE.out];rfl,rfl⟩):p:=h
theorem K9{p:Prop}(h:p:=by
 subst e3;go_enter func263,ntmps263;go_wp2_with fail;refine HS.out.mono ?_;rintro e Z ⟨rfl,rfl⟩;go_wp2_with fail;refine HC.out.mono ?_;rintro e Z ⟨rfl,rfl⟩;go_wp2;go_ret2
 exact OK):p:=h
theorem Px{p:Prop}(h:p:=by
 obtain⟨e1,e2⟩:=d5.out;rw[gh hc]at e1;subst e1;rw[gl rfl]at e2;subst e2;clear d5
 exact My):p:=h
theorem Py{p:Prop}(h:p:=by
 obtain⟨e1,e2⟩:=d5.out;rw[gl hc]at e1;subst e1;rw[gh Oc]at e2;subst e2;clear d5
 exact My):p:=h
theorem Qv{p:Prop}(h:p:=by
 go_enter func265,ntmps265
 exact Of):p:=h
theorem QK{p:Prop}(h:p:=by
 go_wp2;go_ret2
 exact Mn):p:=h
theorem Ra{p:Prop}(h:p:=by
 go_enter func131,ntmps131
 exact KN):p:=h
theorem Rr{p:Prop}(h:p:=by
 go_wp2;go_ret2
 exact Mq):p:=h
theorem W6(v:Value)(l:gP)(x:Int)(w:World)(f:Sl w v l):
 Calls prog 284 #[v,.int .i64 x] w λe t=>(∃r:Int,e= .returned (.int .i64 r)/\decide (0<=r)=decide (x∈l))/\w=t:=by
 have b:=gb (λh=>Ir (l:=l) (x:=x) h);have c:=gb (λi p h=>Is (l:=l) (x:=x) (i:=i) p h);obtain⟨z,B,N,rfl,o,G,a⟩:=f.open;rw[o.out]at b c;clear f;generalize decide (x∈l)=D at*;go_enter func284,ntmps284;go_wp2;go_loop [8] (λi=>∃k:Nat,k<=N/\i= .int .i64 k/\Hid (∀j,j<k->l[j]?.getD 0≠x)) (λi=>N-(intOf i).toNat)
 case atStart=>exact⟨0,ge _,rfl,gb (λj q=>by omega)⟩
 case round=>
  obtain⟨k,F,rfl,hH⟩:=hrel;by_cases g:k<N
  ·obtain⟨A,H,rfl,C,d⟩:=a Oa;have E:=d k g;have bt:=gd (l[k]?.getD 0≠x->∀j,j<k+1->l[j]?.getD 0≠x) (λh j q=>PD);have n:=gb (c.out k g);clear d a hH;generalize l[k]?.getD 0=y at*;by_cases he:y=x
   ·subst he;have HE:=gb (n.out rfl);have s:(y==y)=true:=On;go_wp2;go_ret;exact⟨⟨_,rfl,by rw[HE.out];grind⟩,rfl⟩
   ·have s:(x==y)=false:=(by grind);exact Mg
  ·obtain rfl:k=N:=(by omega);have HE:=gb (b.out hH.out);clear a hH;go_wp2;go_ret;exact⟨⟨_,rfl,by rw[HE.out];rfl⟩,rfl⟩
theorem B3(v:Value)(l:gP)(x:Int)(w:World)(a:Sl w v l):
 Calls prog 250 #[v,.int .i64 x] w λe f=>e= .returned (.bool (decide (x∈l)))/\w=f:=by
 have c:=gb (W6 v l x w a);clear a;generalize decide (x∈l)=D at*;go_enter func250,ntmps250;go_wp2_with fail;refine c.out.mono ?_;rintro e g ⟨⟨r,rfl,b⟩,rfl⟩;have d:=gb b;clear b;go_wp2;go_ret;exact⟨by rw[<-d.out];rfl,rfl⟩
def tmN(a b:Nat):Nat:=if 0<a/\1000000000000000000/a<b then 1000000000000000001 else a*b
theorem ad0(a b:Nat):tmN a b<=1000000000000000001:=by
 unfold tmN;split
 ·exact Oa
 ·rename_i h;rcases jz a with rfl|f
  ·exact On
  ·have c:b<=1000000000000000000/a:=Oa;have d:=iI a c;have e:=Nat.mul_div_le 1000000000000000000 a;exact Oa
theorem YG(a b:Nat)(w:World)(k:a<=1000000000000000001)(n:b<=1000000000):
 Calls prog 265 #[.int .i64 a,.int .i64 b] w λg j=>g= .returned (.int .i64 (tmN a b))/\w=j:=by
 have f:=ad0 a b;by_cases d:0<a
 ·have l:(0:Int)<a:=(by omega);have p:¬(a:Int)=0:=Oa;have r:(1000000000000000000:Int).tdiv (a:Int)=((1000000000000000000/a:Nat):Int):=by
   grind
  have s:1000000000000000000/a<=1000000000000000000:=jg _ _;by_cases e:1000000000000000000/a<b
  ·have c:tmN a b=1000000000000000001:=gl ⟨d,e⟩;rw[c];generalize 1000000000000000000/a=q at*;have i:(q:Int)<b:=Oa;clear c f e d;exact Qv
  ·have c:tmN a b=a*b:=gh (λh=>e h.2);rw[c]at f⊢;have o:(a:Int)*b=((a*b:Nat):Int):=Oa;generalize a*b=m at*;generalize 1000000000000000000/a=q at*;have i:¬(q:Int)<b:=Oa;clear c e d;exact Qv
 ·obtain rfl:a=0:=(by omega);have c:tmN 0 b=0:=(by simp[tmN]);rw[c];clear c f d;exact Qv
def sn(n:Nat):Nat->Nat
 |0=>1
 |i+1=>sn n i*(n-i)/(i+1)
theorem us:∀n,n<=30->∀i,i<=15->sn n i<=155117520:=OH
def Gr(a c:Nat):Nat->Nat
 |0=>c
 |j+1=>tmN (Gr a c j) a
theorem RV{a c:Nat}(h:c<=1000000000000000001):∀j,Gr a c j<=1000000000000000001
 |0=>h
 |j+1=>ad0 _ _
theorem Jr(a p n c:Nat)(w:World)(N:a<=1000)(X:p<=1000)(H:n<=30)(D:c<=15)(P:c<=n):
 Calls prog 213 #[.int .i64 a,.int .i64 p,.int .i64 n,.int .i64 c] w λq K=>q= .returned (.int .i64 (Gr a (sn n c) p))/\gm w K:=by
 have A:=gb (λ(x:Nat)(L:World)(J:x<=1000000000000000001)=>YG x a L J Oa);have g:=gb (us n H);have v:=gb (RV (a:=a) (c:=sn n c) (by grind [us]));have z:=gd (∀j,Gr a (sn n c) (j+1)=tmN (Gr a (sn n c) j) a) (λj=>rfl);have y:=gd (Gr a (sn n c) 0=sn n c) rfl;have t:=gd (∀i,sn n (i+1)=sn n i*(n-i)/(i+1)) (λi=>rfl);have r:=gd (sn n 0=1) rfl;generalize Gr a (sn n c)=o at*;generalize sn n=b at*;go_enter func213,ntmps213;go_wp2;go_loopw [9,10,12] (λk _ e wr=>∃i:Nat,e= .int .i64 i/\i<=c/\k= .int .i64 (b i)/\gm w wr) (λ_ _ e _=>c-(intOf e).toNat)
 case atStart=>exact⟨0,rfl,ge _,by rw[r.out];rfl,f0 _ _⟩
 case round=>
  obtain⟨i,rfl,Q,rfl,d⟩:=hrel;by_cases R:i<c
  ·have E:(i:Int)<c:=(by omega);have C:=g.out i Oa;have f:=t.out i;have U:(b i:Int)*((n:Int)-i)=((b i*(n-i):Nat):Int):=(by grind);have V:b i*(n-i)<=155117520*30:=gE C Oa;have I:(((b i*(n-i):Nat):Int)).tdiv ((i:Int)+1)=(b (i+1):Int):=by
    grind
   have W:¬((i:Int)+1=0):=Oa;have G:=g.out (i+1) Oa;have HB:=gb d;obtain⟨Z,h⟩:∃Z,b (i+1)=Z:=⟨_,rfl⟩;rw[h]at I G;have B:=gb h;clear f d h;generalize b i*(n-i)=M at*;generalize b i=Y at*;go_wp2;go_roundw
   case rel=>exact⟨i+1,by go_num,by omega,by rw[B.out],HB.out⟩
   case measure=>exact gQ
  ·obtain rfl:i=c:=(by omega);have E:¬(i:Int)<i:=Oa;have O:=g.out i D;have s:=gb y.out.symm;rw[s.out];have HB:=gb d;clear d;go_wp2;go_loopw [9,25] (λk e wr=>∃j:Nat,e= .int .i64 j/\j<=p/\k= .int .i64 (o j)/\gm w wr) (λ_ e _=>p-(intOf e).toNat)
   case atStart=>exact⟨0,rfl,ge _,rfl,HB.out⟩
   case round=>
    obtain⟨j,rfl,S,rfl,d⟩:=hrel;by_cases T:j<p
    ·have F:(j:Int)<p:=(by omega);have l:=gb (A.out (o j) wr (v.out j));have f:=z.out j;have HB:=gb d;rw[<-f]at l;clear f d;go_wp2_with fail;refine l.out.mono ?_;rintro q w2 ⟨rfl,rfl⟩;go_wp2;go_roundw
     case rel=>exact⟨j+1,by go_num,by omega,rfl,HB.out⟩
     case measure=>exact gQ
    ·obtain rfl:j=p:=(by omega);have F:¬(j:Int)<j:=Oa;have HB:=gb d;clear d;exact MW
def Cd(k s:Nat):Nat->Nat
 |0=>0
 |i+1=>min (Cd k s i+Gr (s-1) (sn k i) i) 1000000000000000001
theorem agG(k s:Nat):∀i,Cd k s i<=1000000000000000001
 |0=>ge _
 |i+1=>Nat.min_le_right _ _
def Ce(k s t:Nat):Nat:=Cd k s (t/2+1)+if t%2=1 then Gr (s-1) (sn (k-1) (t/2)) (t/2+1)else 0
def sb(k s t:Nat):Prop:=k<1\/30<k\/s<2\/64<s\/k<t
instance (k s t:Nat):Decidable (sb k s t):=by unfold sb;infer_instance
def rt(k s t:Nat):Int:=if sb k s t then 1 else if 1000000000000000000<Ce k s t then 3 else 0
def yL(k s t:Nat):Int:=if rt k s t=0 then(Ce k s t:Nat)else 0
theorem aeN(k s t:Nat)(w:World)(n:k<1000000000)(o:s<1000000000)(p:t<1000000000)(h:sb k s t):
 Calls prog 131 #[.int .i64 k,.int .i64 s,.int .i64 t] w λe l=>e= .returned (.tuple #[.int .i64 0,.int .i64 1])/\w=l:=by
 unfold sb at h;have r:¬(t:Int)<0:=Oa;by_cases a:k<1
 ·have f:(k:Int)<1:=(by omega);clear h a;exact Ra
 have f:¬(k:Int)<1:=Oa;by_cases b:30<k
 ·have g:(30:Int)<k:=(by omega);clear h a b;exact Ra
 have g:¬(30:Int)<k:=Oa;by_cases c:s<2
 ·have i:(s:Int)<2:=(by omega);clear h a b c;exact Ra
 have i:¬(s:Int)<2:=Oa;by_cases d:64<s
 ·have j:(64:Int)<s:=(by omega);clear h a b c d;exact Ra
 have j:¬(64:Int)<s:=Oa;have q:(k:Int)<t:=Oa;clear h a b c d;go_enter func131,ntmps131;go_wp2;go_ret2;exact⟨rfl,rfl⟩
theorem aig(k s t:Nat)(w:World)(h:¬sb k s t):
 Calls prog 131 #[.int .i64 k,.int .i64 s,.int .i64 t] w λx W=>x= .returned (.tuple #[.int .i64 (yL k s t),.int .i64 (rt k s t)])/\gm w W:=by
 have C:rt k s t=if 1000000000000000000<Ce k s t then 3 else 0:=gh h;unfold sb at h;have ae:1<=k:=Oa;have R:k<=30:=Oa;have ag:2<=s:=Oa;have ah:s<=64:=Oa;have ai:t<=k:=Oa;have D:yL k s t=if rt k s t=0 then((Ce k s t:Nat):Int)else 0:=rfl;have f:=gd (Ce k s t=Cd k s (t/2+1)+if t%2=1 then Gr (s-1) (sn (k-1) (t/2)) (t/2+1)else 0) rfl;have o:=gb (λ(i:Nat)(z:World)(G:i<=t/2)=>Jr (s-1) i k i z Oa Oa R Oa Oa);have p:=gb (λ(z:World)(P:t%2=1)=>Jr (s-1) (t/2+1) (k-1) (t/2) z Oa Oa Oa Oa Oa);have l:=gb (λ(i:Nat)(G:i<=t/2)=>RV (a:=s-1) (c:=sn k i) (by grind [us]) i);have n:=gb (λ(P:t%2=1)=>RV (a:=s-1) (c:=sn (k-1) (t/2)) (by grind [us]) (t/2+1));have B:=gb (agG k s);have N:=gd (∀i,Cd k s (i+1)=min (Cd k s i+Gr (s-1) (sn k i) i) 1000000000000000001) (λi=>rfl);have L:=gd (Cd k s 0=0) rfl;have j1:¬(k:Int)<1:=Oa;have j2:¬(30:Int)<k:=Oa;have j3:¬(s:Int)<2:=Oa;have j4:¬(64:Int)<s:=Oa;have j5:¬(t:Int)<0:=Oa;have j6:¬(k:Int)<t:=Oa;have A:=gd ((s:Int)-1=((s-1:Nat):Int)) Oa;have J:=gd ((k:Int)-1=((k-1:Nat):Int)) Oa;have T:(t:Int).tdiv 2=((t/2:Nat):Int):=by grind
 have H:(t:Int).tmod 2=((t%2:Nat):Int):=by grind
 have af:t%2<2:=iD _ Oc;have d5:=gR C D;clear C D h;generalize rt k s t=Z at*;generalize yL k s t=XX at*;generalize Ce k s t=e at*;generalize Cd k s=g at*;obtain⟨b,I⟩:∃b,t/2=b:=⟨_,rfl⟩;have aj:b<=15:=Oa;rw[I]at f o p l n T;clear I;go_enter func131,ntmps131;go_wp2;go_loopw [9,10,38] (λV _ y wr=>∃i:Nat,y= .int .i64 i/\i<=b+1/\V= .int .i64 (g i)/\gm w wr) (λ_ _ y _=>b+1-(intOf y).toNat)
 case atStart=>exact⟨0,rfl,ge _,by rw[L.out];rfl,f0 _ _⟩
 case round=>
  obtain⟨i,rfl,G,rfl,q⟩:=hrel;by_cases ac:i<b+1
  ·have ad:(i:Int)<b+1:=(by omega);have v:=gb (o.out i wr Oa);have Q:=l.out i Oa;have E:=B.out i;have U:=N.out i;have K:=gd ((if(1000000000000000001:Int)<(g i:Int)+((Gr (s-1) (sn k i) i:Nat):Int)then 1000000000000000001 else(g i:Int)+((Gr (s-1) (sn k i) i:Nat):Int))=(g (i+1):Int)) Oa;have HB:=gb q;clear U q;generalize Gr (s-1) (sn k i) i=M at*;go_wp2_with fail;rw[A.out];refine v.out.mono ?_;rintro x X ⟨rfl,j⟩;have aT:=gb (HB.out.trans (j.mono HB.out.size));clear j;go_wp2;go_roundw
   case rel=>exact⟨i+1,by go_num,by omega,by rw[K.out],aT.out⟩
   case measure=>exact gQ
  ·obtain rfl:i=b+1:=(by omega);have HB:=gb q;have E:=B.out (b+1);clear q;by_cases r:t%2=1
   ·have S:(t:Int).tmod 2=1:=(by omega);have v:=gb (p.out wr r);have Q:=n.out r;have d:=f.out;rw[gl r]at d;have e9:=gb d;clear d f o p l n H;generalize Gr (s-1) (sn (k-1) b) (b+1)=M at*;generalize g (b+1)=Y at*;have O:=gd ((b:Int)+1=((b+1:Nat):Int)) Oa;go_wp2_with fail;rw[A.out,J.out,O.out];refine v.out.mono ?_;rintro x X ⟨rfl,j⟩;have aT:=gb (HB.out.trans (j.mono HB.out.size));have aa:(Y:Int)+M=e:=(by rw[e9.out];omega);have ab:e<=2000000000000000002:=Oa;clear j;by_cases hc:1000000000000000000<e
    ·have F:(1000000000000000000:Int)<e:=(by omega);obtain⟨e1,e2⟩:=d5.out;rw[gl hc]at e1;subst e1;rw[gh Oc]at e2;exact UT
    ·obtain⟨e1,e2⟩:=d5.out;rw[gh hc]at e1;subst e1;rw[gl rfl]at e2;exact UT
   ·have S:((t:Int).tmod 2==1)=false:=(by grind);have d:=f.out;rw[gh r,kp]at d;rw[<-d]at E⊢;clear d f o p l n H;by_cases hc:1000000000000000000<e
    ·have F:(1000000000000000000:Int)<e:=(by omega);exact Py
    ·have F:¬(1000000000000000000:Int)<e:=(by omega);exact Px
def yF(q:Nat):Nat->Int
 |0=>q
 |i+1=>min (IntKind.i64.wrap (yF q i*q)) 1000000000000000000
def ak9(q:Nat):Bool:=(List.range 32).all λi=>decide (yF q i≠0)&&decide (-9223372036854775808<=yF q i)&&decide (yF q i<=1000000000000000000)
theorem afS:∀q,q<65->2<=q->ak9 q=true:=OH
theorem ajj{q i:Nat}(a:2<=q)(b:q<=64)(hi:i<32):yF q i≠0/\-9223372036854775808<=yF q i/\yF q i<=1000000000000000000:=by
 have h:=gF.1 (afS q Oa a) i (gC.2 hi)
 grind
def Gk(p:Int)(x y:Nat):Nat:=if(x:Int)<=Int.tdiv 1000000000000000000 p then min 1000000000000000001 (x*p.toNat+y)else 1000000000000000001
theorem ajg(p:Int){x y:Nat}(a:1<=y):1<=Gk p x y/\Gk p x y<=1000000000000000001:=by
 grind [Gk]
theorem afR{p:Int}{x:Nat}(i:1<=x)(g:p≠0)(h:(x:Int)<=Int.tdiv 1000000000000000000 p):0<p/\x*p.toNat<=1000000000000000000:=by
 have a:0<p:=by
  refine gx λf=> ?_;have c:Int.tdiv 1000000000000000000 p<=0:=BK Oc Oa;exact Oa
 refine⟨a,?_⟩;obtain⟨m,rfl⟩:=jW (show 0<=p by omega);rw[Y1 Oc]at h;have b:x<=1000000000000000000/m:=by
  grind
 have d:=iB m b;have e:=By 1000000000000000000 m
 grind
def Fa(q:Nat)(a:gA):Nat->gA
 |0=>[1]
 |j+1=>Fa q a j++[Gk (yF q j) (a.getD (j+1) 0) (a.getD j 0)]
theorem wi(q:Nat)(a:gA):∀j,(Fa q a j).length=j+1
 |0=>rfl
 |j+1=>by rw[Fa,gz,wi q a j];rfl
def Ap(q:Nat):Nat->gA
 |0=>[1]
 |m+1=>Fa q (Ap q m) m++[1]
theorem TX(q:Nat):∀m,(Ap q m).length=m+1
 |0=>rfl
 |m+1=>by rw[Ap,gz,wi];rfl
def GsB(l:gA):Prop:=∀x∈l,1<=x/\x<=1000000000000000001
theorem TY{l:gA}{x:Nat}(h:GsB l)(b:1<=x)(c:x<=1000000000000000001):GsB (l++[x]):=λy a=>by
 rcases li.1 a with a|a
 ·exact h y a
 grind
theorem Nk{l:gA}(h:GsB l){i:Nat}(hi:i<l.length):1<=l.getD i 0/\l.getD i 0<=1000000000000000001:=by
 rw[gc,gn hi,iQ];exact h _ (iH hi)
theorem abn(q:Nat){a:gA}(h:GsB a):∀j,j+1<=a.length->GsB (Fa q a j)
 |0,_=>λx b=>by rw[jM.1 b];omega
 |j+1,c=>by
  rw[Fa];have:=ajg (yF q j) (x:=a.getD (j+1) 0) (Nk h (i:=j) Oa).1;exact TY (abn q h j Oa) this.1 this.2
theorem abo(q:Nat):∀m,GsB (Ap q m)
 |0=>λx a=>by rw[jM.1 a];omega
 |m+1=>TY (abn q (abo q m) m (by rw[TX];omega)) Oa Oa
def sA(n k q:Nat):Prop:=30<n\/n<k\/q<2\/64<q
instance (n k q:Nat):Decidable (sA n k q):=by unfold sA;infer_instance
def qZ(n k q:Nat):Int:=if sA n k q then 1 else if 1000000000000000000<(Ap q n).getD k 0 then 3 else 0
def yD(n k q:Nat):Int:=if qZ n k q=0 then(((Ap q n).getD k 0:Nat):Int)else 0
def Cm(a b:Int):Int:=if a<0\/b<0 then-1 else if 0<b/\Int.tdiv 1000000000000000000 b<a then-1 else a*b
def dT(t:Nat):Int:=if t<=1000000000000000000 then(t:Int)else-1
theorem sw{t:Nat}(h:t<=1000000000000000000):dT t=(t:Int):=gl h
theorem qz{t:Nat}(h:1000000000000000000<t):dT t= -1:=gh Oa
theorem Jv{a b:Nat}(f:1<=a)(g:1<=b):Cm (dT a) (dT b)=dT (a*b):=by
 have i:a<=a*b:=k9 _ g;have j:b<=a*b:=wY _ f;unfold Cm;by_cases c:a<=1000000000000000000
 ·by_cases d:b<=1000000000000000000
  ·rw[sw c,sw d,gh Oa];have h:Int.tdiv 1000000000000000000 (b:Int)=((1000000000000000000/b:Nat):Int):=(iS _ _).symm;have k:(1000000000000000000/b<a)↔(1000000000000000000<a*b):=jR Oa;rw[h];by_cases e:a*b<=1000000000000000000
   ·rw[gh Oa,sw e,gI]
   ·rw[gl Oa,qz Oa]
  ·rw[qz (t:=b) Oa,gl Oa,qz Oa]
 ·rw[qz (t:=a) Oa,gl Oa,qz Oa]
def gT(q:Nat):Nat->Nat->Nat
 |_,0=>1
 |0,_+1=>0
 |m+1,j+1=>q^(j+1)*gT q m (j+1)+gT q m j
theorem zm(q:Nat):∀m j,m<j->gT q m j=0
 |_,0,h=>Oa
 |0,j+1,_=>rfl
 |m+1,j+1,h=>by rw[gT,zm q m (j+1) Oa,zm q m j Oa];rfl
theorem xy{q:Nat}(a:1<=q):∀m j,j<=m->1<=gT q m j
 |m,0,_=>by cases m<;>exact fZ _
 |m+1,j+1,h=>by
  have:=xy a m j Oa
  grind [gT]
theorem ajc{q:Nat}(a:1<=q){m j:Nat}(h:j+1<=m):q^j<=gT q m j:=by
 cases j with
 |zero=>grind [xy]
 |succ j=>
  obtain⟨m,rfl⟩:∃b,m=b+1:=⟨m-1,by omega⟩;rw[gT];have:=k9 (q^(j+1)) (xy a m (j+1) Oa);exact Oa
theorem afi{q:Nat}(a:1<=q){m j:Nat}(g:j<=m+1):(if 0<=(if j<m+1 then Cm (dT (q^j)) (dT (gT q m j))else 0)/\0<=(if 0<j then dT (gT q m (j-1))else 0)/\(if j<m+1 then Cm (dT (q^j)) (dT (gT q m j))else 0)+(if 0<j then dT (gT q m (j-1))else 0)<=1000000000000000000 then(if j<m+1 then Cm (dT (q^j)) (dT (gT q m j))else 0)+(if 0<j then dT (gT q m (j-1))else 0)else-1)=dT (gT q (m+1) j):=by
 have d:1<=q^j:=my _ _ a;have f:(if j<m+1 then Cm (dT (q^j)) (dT (gT q m j))else 0)=dT (q^j*gT q m j):=by
  by_cases h:j<m+1
  ·rw[gl h,Jv d (xy a m j Oa)]
  ·rw[gh h,zm q m j Oa];rfl
 rw[f];cases j with
 |zero=>
  rw[Gf,qU];have:gT q m 0=1:=(by cases m<;>rfl);rw[this];have:gT q (m+1) 0=1:=rfl;rw[this];exact Oc
 |succ j=>
  rw[gl (Nat.succ_pos j),kN,gT];generalize q^(j+1)*gT q m (j+1)=x;generalize gT q m j=y;by_cases b:x<=1000000000000000000
  ·by_cases c:y<=1000000000000000000
   ·rw[sw b,sw c];by_cases e:x+y<=1000000000000000000
    ·rw[gl Oa,sw e];omega
    ·rw[gh Oa,qz Oa]
   ·rw[qz (t:=y) Oa,gh Oa,qz Oa]
  ·rw[qz (t:=x) Oa,gh Oa,qz Oa]
def gsB(q j:Nat):Bool:=if q^(j+1)<=1000000000000000000 then yF q j==(q^(j+1):Nat)else if q^j<=1000000000000000000 then decide (yF q j<0)||yF q j==1000000000000000000 else true
theorem ajk:∀q,q<65->2<=q->∀j,j<31->gsB q j=true:=OH
theorem TW(q:Nat)(a:gA):∀J j,j<=J->(Fa q a J).getD j 0=if j=0 then 1 else Gk (yF q (j-1)) (a.getD j 0) (a.getD (j-1) 0)
 |0,j,h=>QJ
 |J+1,j,h=>by
  rw[Fa,gc,yS,wi];by_cases e:j<J+1
  ·rw[gl e,<-gc,TW q a J j Oa]
  grind
theorem al9{x y:Nat}(h:1<=x)(a:1<=y):min 1000000000000000001 (x*1000000000000000000+y)=1000000000000000001:=Oa
theorem aji{Q x y X Y:Nat}(a:1<=Q)(c:Q<=1000000000000000000)(f:1<=X)(h:x=min X 1000000000000000001)(i:y=min Y 1000000000000000001):Gk (Q:Int) x y=min (Q*X+Y) 1000000000000000001:=by
 have b:Int.tdiv 1000000000000000000 (Q:Int)=((1000000000000000000/Q:Nat):Int):=(iS _ _).symm;have g:(1000000000000000000/Q<x)↔(1000000000000000000<x*Q):=jR a;unfold Gk;rw[b,iZ];by_cases e:X<=1000000000000000000
 ·grind
 ·obtain rfl:x=1000000000000000001:=(by omega);have d:X<=Q*X:=wY _ a
  grind
theorem ajh{p:Int}{x y:Nat}(c:1<=x)(d:1<=y)(h:p<0\/p=1000000000000000000\/y=1000000000000000001):Gk p x y=1000000000000000001:=by
 unfold Gk;by_cases a:(x:Int)<=Int.tdiv 1000000000000000000 p
 ·rw[gl a];rcases h with h|h|h
  ·have b:Int.tdiv 1000000000000000000 p<=0:=BK Oc Oa;exact Oa
  ·grind
  exact Oa
 grind
theorem ak8{q j x y X Y:Nat}(e:2<=q)(l:q<=64)(d:j<31)(c:1<=X)(n:x=min X 1000000000000000001)(k:q^j<=Y)(o:y=min Y 1000000000000000001):Gk (yF q j) x y=min (q^(j+1)*X+Y) 1000000000000000001:=by
 have a:=ajk q Oa e j d;have i:1<=q^(j+1):=my _ _ Oa;have h:1<=q^j:=my _ _ Oa;unfold gsB at a;generalize q^(j+1)=Q at*;generalize q^j=P at*;generalize yF q j=p at*;by_cases b:Q<=1000000000000000000
 ·rw[gl b,kz]at a
  grind [aji]
 ·rw[gh b]at a;have g:Q<=Q*X:=k9 _ c;have f:min (Q*X+Y) 1000000000000000001=1000000000000000001:=Oa;rw[f];refine ajh Oa Oa ?_
  grind
theorem ahI{q:Nat}(c:2<=q)(b:q<=64):∀m,m<=31->∀j,j<=m->(Ap q m).getD j 0=min (gT q m j) 1000000000000000001
 |0,_,j,a=>QJ
 |m+1,g,j,a=>by
  have d:=ahI c b m Oa;rw[Ap,gc,yS,wi];by_cases e:j<m+1
  ·rw[gl e,<-gc,TW q _ m j Oa];cases j with
   |zero=>
    rw[gl rfl];rfl
   |succ j=>
    rw[gh Oa,kN,gT]
    grind [ak8,xy,ajc]
  ·obtain rfl:j=m+1:=(by omega);rw[gh e,jU];have f:∀m,gT q m m=1:=λm=>by
    induction m with
    |zero=>rfl
    |succ m d=>grind [gT,zm]
   grind
theorem ak7{n k q:Nat}(h:¬sA n k q):dT (gT q n k)<0/\qZ n k q=3\/0<=dT (gT q n k)/\qZ n k q=0/\yD n k q=dT (gT q n k):=by
 have a:n<=30/\k<=n/\2<=q/\q<=64:=by grind [sA]
 have d:=ahI a.2.2.1 a.2.2.2 n Oa k a.2.1;by_cases c:gT q n k<=1000000000000000000
 ·right;have b:qZ n k q=0:=(by unfold qZ;grind);rw[sw c];refine⟨by omega,b,?_⟩;unfold yD;exact Oa
 ·left;rw[qz Oa];refine⟨by decide,?_⟩;unfold qZ
  grind
def lg:Nat->Nat->Nat
 |_,0=>1
 |0,_+1=>0
 |n+1,k+1=>lg n k+lg n (k+1)
theorem mC(n:Nat):lg n 0=1:=by cases n<;>rfl
theorem nb(n k:Nat):lg (n+1) (k+1)=lg n k+lg n (k+1):=rfl
theorem om:∀(n k:Nat),n<k->lg n k=0
 |0,0,h=>Oa
 |0,k+1,_=>rfl
 |n+1,0,h=>Oa
 |n+1,k+1,h=>by rw[nb,om n k Oa,om n (k+1) Oa]
theorem vM:∀n,lg n n=1
 |0=>rfl
 |n+1=>by rw[nb,vM n,om n (n+1) Oa]
theorem Ti:∀(n k:Nat),k<=n->0<lg n k
 |n,0,_=>by rw[mC];omega
 |0,k+1,h=>Oa
 |n+1,k+1,h=>by rw[nb];have:=Ti n k Oa;omega
theorem mB:∀(n k:Nat),lg (n+1) (k+1)*(k+1)=lg n k*(n+1)
 |0,0=>rfl
 |0,k+1=>by rw[om 1 (k+2) Oa,om 0 (k+1) Oa,pH,pH]
 |n+1,0=>by
  have h:=mB n 0;rw[mC,qU,qT]at h
  grind [nb,mC]
 |n+1,k+1=>by
  have a:=mB n k;have b:=mB n (k+1)
  grind [nb]
theorem Z4(n k:Nat):lg n k<=lg (n+1) k:=by
 cases k with
 |zero=>grind [mC]
 |succ k=>rw[nb];omega
theorem oW{a b:Nat}(h:a<=b)(k:Nat):lg a k<=lg b k:=by
 induction b with
 |zero=>grind
 |succ b c=>
  grind [Z4]
def tD:Nat->gA
 |0=>[1]
 |n+1=>let r:=tD n;List.zipWith (·+ ·) (0::r) (r++[0])
theorem A3:∀n,(tD n).length=n+1
 |0=>rfl
 |n+1=>by simp[tD,A3 n]
theorem qh:∀(n k:Nat),k<=n->(tD n)[k]? =some (lg n k)
 |0,k,h=>by
  obtain rfl:k=0:=Oa;rfl
 |n+1,k,h=>by
  have a:=A3 n;simp only[tD,List.getElem?_zipWith];cases k with
  |zero=>
   rw[kd Oa,qh n 0 Oa];simp[mC]
  |succ k=>
   rw[ij,qh n k Oa];by_cases e:k+1<=n
   ·rw[kd Oa,qh n (k+1) e];simp[nb]
   ·obtain rfl:k=n:=by omega
    grind [nb,om]
theorem Wv{n B:Nat}(h:(tD n).all (λx=>decide (x<=B))=true)(k:Nat)(a:k<=n):lg n k<=B:=by
 have b:=nT (qh n k a)
 grind
theorem VR:∀n,n<31->∀i,i<=n->(tD n).getD i 0=sn n i/\1<=sn n i:=OH
theorem VQ{n i:Nat}(a:n<=30)(hi:i<=n):lg n i=sn n i:=by
 rw[<-(VR n Oa i hi).1,gc,qh n i hi];rfl
def rS(k a:Nat):Nat->Nat
 |0=>0
 |i+1=>rS k a i+a^i*sn k i
def rT(k s t:Nat):Nat:=rS k (s-1) (t/2+1)+if t%2=1 then(s-1)^(t/2+1)*sn (k-1) (t/2)else 0
theorem ahO(k a:Nat){i:Nat}:∀d,rS k a i<=rS k a (i+d)
 |0=>fZ _
 |d+1=>by
  have:=ahO k a (i:=i) d
  grind [rS]
theorem ahb{x a X:Nat}(b:1<=a)(d:x=min X 1000000000000000001):tmN x a=min (a*X) 1000000000000000001:=by
 have c:X<=a*X:=wY _ b;unfold tmN;by_cases e:X<=1000000000000000000
 ·obtain rfl:x=X:=by omega
  grind [Nat.div_lt_iff_lt_mul]
 grind
theorem FX{a c:Nat}(b:1<=a)(d:c<=1000000000000000000):∀j,Gr a c j=min (a^j*c) 1000000000000000001
 |0=>by rw[Gr,Gf];omega
 |j+1=>by rw[Gr,ahb b (FX b d j),mS,<-BP,ka a]
theorem IW{k s:Nat}(a:k<=30)(b:2<=s):∀i,i<=16->Cd k s i=min (rS k (s-1) i) 1000000000000000001
 |0,_=>rfl
 |i+1,c=>by
  have:=us k a i Oa;rw[Cd,rS,IW a b i Oa,FX Oa Oa];exact Oa
theorem alN{k s t:Nat}(h:¬sb k s t):dT (rT k s t)<0/\rt k s t=3\/0<=dT (rT k s t)/\rt k s t=0/\yL k s t=dT (rT k s t):=by
 have b:1<=k/\k<=30/\2<=s/\s<=64/\t<=k:=by grind [sb]
 have f:=IW b.2.1 b.2.2.1 (t/2+1) Oa;have j:=us (k-1) Oa (t/2) Oa;have g:=FX (a:=s-1) (c:=sn (k-1) (t/2)) Oa Oa (t/2+1);have i:(1000000000000000000<Ce k s t↔1000000000000000000<rT k s t)/\(rT k s t<=1000000000000000000->Ce k s t=rT k s t):=by
  grind [Ce,rT]
 by_cases e:rT k s t<=1000000000000000000
 ·right;have d:rt k s t=0:=(by unfold rt;grind);rw[sw e];refine⟨by omega,d,?_⟩;unfold yL;exact Oa
 ·left;rw[qz Oa];refine⟨by decide,?_⟩;unfold rt
  grind
theorem ait:∀k,k<8->∀i,i<256->(i&&&2^k=0->i.testBit k=false/\i|||2^k=i+2^k)/\(i&&&2^k≠0->i.testBit k=true):=OH
theorem Lt:∀n,n<=8->∀k,k<n->∀j,j<2^n->j.testBit k=false->j+2^k<2^n:=OH
def WE(k j:Nat):Nat:=if j.testBit k then j-2^k else j
def pl(k i:Nat)(f:Nat->Int)(j:Nat):Int:=if WE k j<i then(if j.testBit k then f (j-2^k)-f j else f j+f (j+2^k))else f j
theorem adQ(k:Nat)(f:Nat->Int):pl k 0 f=f:=by
 funext j;unfold pl;exact Oa
theorem Z6{j k:Nat}(h:j.testBit k=true):2^k<=j:=Nat.ge_two_pow_of_testBit h
theorem Tj{i k:Nat}(h:i.testBit k=false):(i+2^k).testBit k=true:=by
 rw[ahp,Y5,h];rfl
theorem ae1{j k:Nat}(h:j.testBit k=true):(j-2^k).testBit k=false:=by
 have a:=Z6 h;have b:j.testBit k= !((j-2^k).testBit k):=by
  rw[<-Y5]
  grind
 grind
theorem afb(k j:Nat):(WE k j).testBit k=false:=by
 grind [WE,ae1]
theorem Tt{i k:Nat}(h:i.testBit k=false):WE k i=i:=by grind [WE]
theorem G4{i k:Nat}(h:i.testBit k=false):WE k (i+2^k)=i:=by
 unfold WE;rw[gl (Tj h)];exact Oa
theorem aiB{i k j:Nat}(h:WE k j=i):j=i\/j=i+2^k:=by
 unfold WE at h;split at h
 ·rename_i a;have:=Z6 a;exact Oa
 exact Oa
theorem adO{k i:Nat}{f:Nat->Int}(h:i.testBit k=true):pl k (i+1) f=pl k i f:=by
 funext j;have a:WE k j≠i:=λe=>by
  grind [afb]
 unfold pl;exact Oa
theorem adP{k i:Nat}{f:Nat->Int}(h:i.testBit k=false)(j:Nat):pl k (i+1) f j=if j=i+2^k then pl k i f i-pl k i f (i+2^k)else if j=i then pl k i f i+pl k i f (i+2^k)else pl k i f j:=by
 have c:pl k i f i=f i:=by unfold pl;rw[gh (by grind [Tt])]
 have d:pl k i f (i+2^k)=f (i+2^k):=by unfold pl;rw[gh (by grind [G4])]
 rw[c,d];by_cases a:j=i+2^k
 ·subst a;rw[gl rfl];unfold pl;rw[gl (by grind [G4]),gl (Tj h),kN]
 ·rw[gh a];by_cases b:j=i
  ·subst b;rw[gl rfl];unfold pl;rw[gl (by grind [Tt]),gh (by grind)]
  ·rw[gh b];have g:WE k j≠i:=λe=>by
    grind [aiB]
   unfold pl;exact Oa
def J1(N:Nat)(M:Int)(f:Nat->Int):Prop:=∀j,j<N->-M<=f j/\f j<=M
theorem adN{n k i:Nat}{M:Int}{f:Nat->Int}(e:n<=8)(d:k<n)(h:J1 (2^n) M f):J1 (2^n) (2*M) (pl k i f):=by
 intro j a;have g:=h j a;unfold pl;split
 ·split
  ·rename_i c;have b:=h (j-2^k) (pd (Nat.sub_le _ _) a);exact Oa
  ·rename_i c;have b:=h (j+2^k) (Lt n e k d j a (by grind));exact Oa
 ·exact Oa
def VJ(n:Nat)(f:Nat->Int):Nat->Nat->Int
 |0=>f
 |k+1=>pl k (2^n) (VJ n f k)
theorem RG{n:Nat}{f:Nat->Int}(a:n<=8)(h:J1 (2^n) 1 f):∀k,k<=n->J1 (2^n) (2^k) (VJ n f k)
 |0,_=>h
 |k+1,b=>by
  have:=adN (i:=2^n) a (show k<n by omega) (RG a h k Oa);rw[Int.pow_succ,Ga];exact this
def An(f:Nat->Int):Nat->Int
 |0=>0
 |i+1=>max (max (An f i) (f i)) (-(f i))
def BE(f:Nat->Int):Nat->Int
 |0=>max (f 0) (-(f 0))
 |i+1=>min (BE f i) (max (f i) (-(f i)))
theorem abk{N:Nat}{M:Int}{f:Nat->Int}(a:0<=M)(h:J1 N M f):∀i,i<=N->0<=An f i/\An f i<=M
 |0,_=>⟨qR _,a⟩
 |i+1,b=>by
  have:=abk a h i Oa;have:=h i Oa
  grind [An]
theorem abi{N:Nat}{M:Int}{f:Nat->Int}(h:J1 N M f)(a:0<N):∀i,i<=N->0<=BE f i/\BE f i<=M
 |0,_=>by
  have:=h 0 a
  grind [BE]
 |i+1,b=>by
  have:=abi h a i Oa
  grind [BE]
def tG(N:Nat):Bool:=(List.range 9).any λn=>decide (N=2^n)
theorem agZ{N:Nat}(h:tG N=true):∃n,n<=8/\N=2^n:=by
 unfold tG at h
 grind
def AF(N:Nat):Nat:=if N=1 then 0 else if N=2 then 1 else if N=4 then 2 else if N=8 then 3 else if N=16 then 4 else if N=32 then 5 else if N=64 then 6 else if N=128 then 7 else 8
theorem wn:∀n,n<=8->AF (2^n)=n:=Oc
theorem VG{n:Nat}(h:n<=8):tG (2^n)=true:=by
 grind [tG]
theorem Je{N:Nat}(h:∀j,j<9->N≠2^j):tG N=false:=by
 grind [tG]
def vt(N:Nat):Nat×Int:=if tG N=true then(AF N,0)else(0,2)
theorem adE{n:Nat}(h:n<=8):vt (2^n)=(n,0):=by unfold vt;rw[gl (VG h),wn n h]
theorem adD{N:Nat}(h:∀j,j<9->N≠2^j):vt N=(0,2):=by unfold vt;rw[Je h,gh Oc]
theorem adF(a:Option Addr)(N c:Nat)(w:World)(v:N<=100000):
 Calls prog 287 #[.slice a N c] w λe s=>e= .returned (.tuple #[.int .i64 (vt N).1,.int .i64 (vt N).2])/\w=s:=by
 have g:=gb (λn (l:n<=8) (e:N=2^n)=>(by grind [adE]:vt N=(n,(0:Int))));have h:=gb (λl=>adD (N:=N) l);generalize vt N=z at*;obtain⟨o,C⟩:=z
 dsimp only
 go_enter func287,ntmps287;go_wp2;go_loop [5] (λi=>∃k:Nat,k<=9/\i= .int .i64 k/\Hid (∀j:Nat,j<k->N≠2^j)) (λi=>9-(intOf i).toNat)
 case atStart=>exact⟨0,ge _,rfl,gb (λj p=>by omega)⟩
 case round=>
  obtain⟨k,x,rfl,d⟩:=hrel;by_cases A:k<9
  ·have y:(k:Int)<9:=(by omega);have t:(2:Int)^k=((2^k:Nat):Int):=On;have B:2^k<=256:=gt (gN (n:=2) Oa (show k<=8 by omega)) Oc;by_cases b:N=2^k
   ·obtain⟨rfl,rfl⟩:=jl (g.out k Oa b);have q:((N:Int)==((2^o:Nat):Int))=true:=(by grind);clear b g h d;generalize 2^o=r at*;exact KN
   ·have q:((N:Int)==((2^k:Nat):Int))=false:=by grind
    have be:=gd (∀j:Nat,j<k+1->N≠2^j) (λj p=>by
     by_cases e:j=k
     ·grind
     ·exact d.out j Oa)
    clear b;generalize 2^k=r at*;exact UC
  ·obtain rfl:k=9:=(by omega);have f:=h.out d.out;obtain⟨rfl,rfl⟩:=jl f;clear f;exact KN
def oj(x:Int):Bool:=x !=0&&x !=1
theorem af6(N:Nat):AF N<=8:=by
 grind [AF]
theorem GJ(x:Int)(w:World):
 Calls prog 288 #[.int .i64 x] w λe c=>e= .returned (.bool (oj x))/\w=c:=by
 by_cases a:x=0
 ·subst a;go_enter func288,ntmps288;exact Of
 ·have b:=gd (oj x=(x !=0&&x !=1)) rfl;generalize oj x=z at*;go_enter func288,ntmps288;go_wp2;go_ret;exact⟨by rw[b.out];trace_state;rfl,rfl⟩
theorem BV(w:World):x8 288 #[] oj w where
 enter:=jI func288 Ob Ob
 calls:=λx a=>GJ x w
def me(l:gP):Int:=if tG l.length=false then 2 else if l.any oj=true then 1 else 0
theorem zQ(v:Value)(l:gP)(w:World)(h:Sl w v l)(hi:∀x∈l,ja x)(j:l.length<=100000):
 Calls prog 263 #[v] w λe s=>(∃r:Int,e= .returned (.tuple #[.int .i64 r,.int .i64 (me l)]))/\w=s:=by
 have HC:=gb (kU _ _ _ v l w h hi (BV w));obtain⟨k,o,N,rfl,g,p,q⟩:=h.open;have HS:=gb (adF k N o w (by rw[<-g.out];exact j));have f:=gd (me l=if tG N=false then 2 else if l.any oj=true then 1 else 0) (by unfold me;rw[g.out]);have d:=gd (vt N=if tG N=true then(AF N,0)else(0,2)) rfl;have i:=gb (af6 N);clear q h g p hi j;generalize me l=E at*;generalize l.any oj=n at*;cases a:tG N with
 |false=>
  obtain⟨b,c⟩:=jl ((show vt N=((vt N).1,(vt N).2)from rfl).symm.trans (d.out.trans (by rw[a,gh Oc])));have e3:=f.out;rw[a,gl rfl]at e3;rw[b,c]at HS;subst e3;clear d f i b c a;go_enter func263,ntmps263;go_wp2_with fail;refine HS.out.mono ?_;rintro e Z ⟨rfl,rfl⟩;go_wp2;go_ret2;exact OK
 |true=>
  obtain⟨b,c⟩:=jl ((show vt N=((vt N).1,(vt N).2)from rfl).symm.trans (d.out.trans (by rw[a,gl rfl])));have e3:=f.out;rw[a,gh Oc]at e3;rw[b,c]at HS;clear d f i b c a;generalize AF N=t at*;cases n with
  |false=>
   rw[gh Oc]at e3;exact K9
  |true=>
   rw[gl rfl]at e3;exact K9
theorem Yy(a b:Int)(w:World)(h: -100000<=a/\a<=100000)(d: -100000<=b/\b<=100000):
 Calls prog 290 #[.int .i64 a,.int .i64 b] w λe c=>e= .returned (.tuple #[.int .i64 (a+b),.int .i64 (a-b)])/\w=c:=by
 go_enter func290,ntmps290;go_wp2;go_ret2;exact⟨rfl,rfl⟩
def vD(N:Nat)(f:Nat->Int):gP:=(List.range N).map f
theorem oo(N:Nat)(f:Nat->Int):(vD N f).length=N:=by simp[vD]
theorem we{N:Nat}(f:Nat->Int){i:Nat}(h:i<N):(vD N f).getD i 0=f i:=by
 rw[gc,vD,gY,i7 h];rfl
theorem abc{N k i:Nat}{f:Nat->Int}(h:i.testBit k=false)(hi:i+2^k<N):((vD N (pl k i f)).set i (pl k i f i+pl k i f (i+2^k))).set (i+2^k) (pl k i f i-pl k i f (i+2^k))=vD N (pl k (i+1) f):=by
 refine ib λj=> ?_;rw[jx,jx,jY,oo];have e:(vD N (pl k (i+1) f))[j]? =if j<N then some (pl k (i+1) f j)else none:=by
  grind [vD]
 have a:(vD N (pl k i f))[j]? =if j<N then some (pl k i f j)else none:=by
  grind [vD]
 rw[e,a,adP h]
 grind
theorem pp{w e f:World}{g:Nat}(a:w.grownBy e (some g))(b:e.grownBy f (some g)):w.grownBy f (some g):=
 ⟨b.os.trans a.os,b.tape.trans a.tape,b.output.trans a.output,gt a.size b.size,λk c d=>(b.block k (gS c a.size) d).trans (a.block k c d)⟩
theorem qA{w b:World}{r:Option Nat}(a:w.grownBy b r)(n:Nat):w.grownBy (b.drewN n) r:=⟨a.os,a.tape,a.output,a.size,a.block⟩
theorem RJ(B g c n N:Nat)(f:Nat->Int)(w:World)(Q:n<=8)(j:N=2^n)(hf:J1 N 1 f)(a:OI B w (.slice (some ⟨g,0,none⟩) N c) (vD N f)):
 Calls prog 289 #[.slice (some ⟨g,0,none⟩) N c,.func (.func 290) #[] #[]] w λL R=>(∃av,L= .returned av)/\OI B R (.slice (some ⟨g,0,none⟩) N c) (vD N (VJ n f n))/\w.grownBy R (some g):=by
 have he:=jI func290 Ob Ob;have ae:=gb (λk (r:k<=n)=>(show J1 N (2^k) (VJ n f k)from by grind [RG]));have ah:=gd (∀k,VJ n f (k+1)=pl k N (VJ n f k)) (λk=>by rw[j];rfl);have ab:=gd (VJ n f 0=f) rfl;have HN:=gd (∀k,k<n->2^k<N/\2^(k+1)<=N) (λk r=>by rw[j];exact⟨kX Oc r,gN Oc r⟩);have aA:N<=256:=by rw[j];exact gt (gN (n:=2) Oa Q) Oc
 have Y:=gb (λk (x:k<n) q (P:q<N) (b:Nat.testBit q k=false)=>(show q+2^k<N from by rw[j]at P⊢;exact Lt n Q k x q P b));have ai:=gb (λk i (M:Int) F (r:k<n) (hF:J1 N M F)=>(show J1 N (2*M) (pl k i F)from by grind [adN]));have H:=gb a;have aa:=gb j;clear hf a j;generalize VJ n f=v at*;go_enter func289,ntmps289;go_wp2;go_loopw [4] (λD wr=>∃k:Nat,k<=n/\D= .int .i64 ((2^k:Nat):Int)/\OI B wr (.slice (some ⟨g,0,none⟩) N c) (vD N (v k))/\w.grownBy wr (some g)) (λD _=>N-(intOf D).toNat)
 case atStart=>exact⟨0,ge _,rfl,by rw[ab.out];exact H.out,⟨rfl,rfl,rfl,fZ _,λ_ _ _=>rfl⟩⟩
 case round=>
  clear H;obtain⟨k,x,rfl,a,d⟩:=hrel;obtain⟨s,h⟩:∃s,s=2^k:=⟨_,rfl⟩;rw[<-h];have o:=gR a d;clear a d;by_cases y:k<n
  ·obtain⟨ar,aI⟩:=HN.out k y;rw[<-h]at ar;have aJ:(s:Int)<N:=Oa;have ay:0<s:=(by grind);have af:=gb (ah.out k);have T:=gb (ae.out k x);have aG:k<=7:=Oa
   have U:=gd ((2:Int)^k<=128) (by
    grind)
   have aj:=gb (λi (l:i<N)=>(show(i&&&s=0->Nat.testBit i k=false/\i|||s=i+s)/\(i&&&s≠0->Nat.testBit i k=true)from by grind [ait]));have Z:=gb (λi (l:i<N) (b:Nat.testBit i k=false)=>(show i+s<N from by rw[h];exact Y.out k y i l b));have ac:=gd ((2^(k+1):Nat)=s*2) Oa;have I:=gb (λi=>ai.out k i _ (v k) y T.out);generalize v k=F at*;have X:=gb (λi (b:Nat.testBit i k=false) (l:i+s<N)=>(show((vD N (pl k i F)).set i (pl k i F i+pl k i F (i+s))).set (i+s) (pl k i F i-pl k i F (i+s))=vD N (pl k (i+1) F)from by rw[h]at l⊢;exact abc b l));have W:=gb (λi (b:Nat.testBit i k=true)=>adO (f:=F) b);have V:=gb (adQ k F);clear h;go_wp2;go_loopw [14] (λC S=>∃i:Nat,i<=N/\C= .int .i64 i/\OI B S (.slice (some ⟨g,0,none⟩) N c) (vD N (pl k i F))/\w.grownBy S (some g)) (λC _=>N-(intOf C).toNat)
   case atStart=>exact⟨0,ge _,rfl,by rw[V.out];exact o.out.1,o.out.2⟩
   case round=>
    clear o;obtain⟨i,l,rfl,a,d⟩:=hrel;by_cases p:i<N
    ·have O:(i:Int)<N:=(by omega);have ak:=EB i s Oa Oa;have aq:=ajI i s Oa Oa;obtain⟨E,G⟩:=aj.out i p;by_cases b:i&&&s=0
     ·obtain⟨J,K⟩:=E b;have t:=Z.out i p J;rw[K]at aq;rw[b]at ak;have an:=a.cell i (by grind [oo]);have ap:=a.cell (i+s) (by grind [oo]);rw[we _ p]at an;rw[we _ t]at ap;have aD:=a.frozen (i+s);have a:=a.drew;have am:=a.cell i (by grind [oo]);have ao:=a.cell (i+s) (by grind [oo]);rw[we _ p]at am;rw[we _ t]at ao;have aB:=I.out i i p;have aC:=I.out i (i+s) t;have az:=U.out;have z:=a.stored i (pl k i F i+pl k i F (i+s));have A:=z.1.stored (i+s) (pl k i F i-pl k i F (i+s));have e:=gR (A.1.cast (X.out i J t)) (pp (pp (qA d 1) z.2) A.2);have aE:=a.frozen i;have aF:i≠i+s:=Oa;clear z A a d E G;generalize ((vD N (pl k i F)).set i (pl k i F i+pl k i F (i+s))).getD (i+s) 0=zz at*;generalize pl k i F i=aw at*;generalize pl k i F (i+s)=ax at*;clear K;generalize i+s=q at*;have ag:=gb (λw1=>Yy aw ax w1 Oa Oa);go_wp2;go_region_law (first|(go_simp;go_at_call 290;refine(ag.out _).mono ?_;rintro L w2 ⟨rfl,rfl⟩))
      all_goals
       go_wp2;go_roundw
       case rel=>exact⟨i+1,by omega,by go_num,e.out.1,e.out.2⟩
       case measure=>exact gQ
     ·have al:=G b;have aH:(((i&&&s:Nat):Int)==0)=false:=(by grind);have e:=gR (a.cast (jA (vD N) (W.out i al).symm)) d;clear a d E G b;generalize i&&&s=aK at*;go_wp2;go_roundw
      case rel=>exact⟨i+1,by omega,by go_num,e.out.1,e.out.2⟩
      case measure=>exact gQ
    ·obtain rfl:i=N:=(by omega);have O:¬(i:Int)<i:=Oa;have e:=gR (a.cast (jA (vD i) af.out.symm)) d;have ad:=ac.out;clear a d;go_wp2;go_roundw
     case rel=>exact⟨k+1,by omega,by rw[ad];go_num,e.out.1,e.out.2⟩
     case measure=>exact gQ
  ·obtain rfl:k=n:=(by omega);have au:s=N:=(by rw[h,aa.out]);have O:¬(s:Int)<N:=Oa;clear h au;go_wp2;go_end0;exact⟨⟨_,rfl⟩,o.out.1,o.out.2⟩
theorem adV(B g c n N:Nat)(f:Nat->Int)(w:World)(o:n<=8)(h:N=2^n)(i:J1 N 1 f)(j:OI B w (.slice (some ⟨g,0,none⟩) N c) (vD N f)):
 Calls prog 264 #[.slice (some ⟨g,0,none⟩) N c] w λe k=>(∃r,e= .returned r)/\OI B k (.slice (some ⟨g,0,none⟩) N c) (vD N (VJ n f n))/\w.grownBy k (some g):=by
 have l:=gb (RJ B g c n N f w o h i j);clear j i h;go_enter func264,ntmps264;go_wp2_with fail;refine l.out.mono ?_;rintro e p ⟨⟨r,rfl⟩,b,d⟩;have a:=gR b d;clear b d;go_wp2;go_end0;exact⟨⟨_,rfl⟩,a.out.1,a.out.2⟩
theorem E9(B g c N:Nat)(M:Int)(f:Nat->Int)(w:World)(d:0<N)(O:N<=256)(A:0<=M)(L:M<=100000)(a:J1 N M f)(n:OI B w (.slice (some ⟨g,0,none⟩) N c) (vD N f)):
 Calls prog 212 #[.slice (some ⟨g,0,none⟩) N c] w λz H=>z= .returned (.tuple #[.int .i64 (An f N),.int .i64 (BE f N)])/\gm w H:=by
 have J:=gb (λi (h:i<=N)=>abk A a i h);have I:=gb (λi (h:i<=N)=>abi a d i h);have k:=gb (λi (h:i<N)=>(n.cell i (by grind [oo])).trans (by rw[we f h]));have o:=gb a
 have y:=gd (∀i,An f (i+1)=if-(f i)>(if f i>An f i then f i else An f i)then-(f i)else(if f i>An f i then f i else An f i)) (λi=>by
  grind [An])
 have s:=gd (∀i,BE f (i+1)=if(if f i< -(f i)then-(f i)else f i)<BE f i then(if f i< -(f i)then-(f i)else f i)else BE f i) (λi=>by
  grind [BE])
 have p:=gd (BE f 0=if f 0< -(f 0)then-(f 0)else f 0) (by
  grind [BE])
 have t:=gd (An f 0=0) rfl;have C:=k.out 0 d;have Q:w.drew.cell? ⟨g,0,none⟩=_:=C;have S:=a 0 d;have P:(0:Int)<N:=Oa;clear n a;generalize An f=b at*;generalize BE f=GL at*;go_enter func212,ntmps212;go_wp2;go_region;rw[<-p.out];go_wp2;go_loopw [2,3,16] (λG F e wr=>∃i:Nat,i<=N/\e= .int .i64 i/\G= .int .i64 (b i)/\F= .int .i64 (GL i)/\∃q,wr=w.drewN q) (λ_ _ e _=>N-(intOf e).toNat)
 case atStart=>exact⟨0,ge _,rfl,by rw[t.out],rfl,1,rfl⟩
 case round=>
  obtain⟨i,U,rfl,rfl,rfl,q,rfl⟩:=hrel;by_cases l:i<N
  ·have E:(i:Int)<N:=(by omega);have D:=k.out i l;have R:(w.drewN q).cell? ⟨g,i,none⟩=_:=D;have T:=o.out i l;have v:=gb (y.out i);have r:=gb (s.out i);generalize f i=x at*;generalize b i=m at*;generalize GL i=V at*;have K:∀j,(Builtin.max_ #[3,3,3] 3 #[.int .i64 m,.int .i64 x,.int .i64 (-x)]).run prog j= .ok (.int .i64 (b (i+1))) j:=(λj=>by rw[v.out];rfl);go_wp2;go_roundw
   case rel=>exact⟨i+1,by omega,by go_num,rfl,by rw[r.out],q,rfl⟩
   case measure=>exact gQ
  ·obtain rfl:i=N:=(by omega);have E:¬(i:Int)<i:=Oa;go_wp2;go_ret2;exact⟨rfl,gM (f0 _ _) q⟩
def bnF(l:gP)(j:Nat):Int:=1-2*l.getD j 0
def JM(l:gP):Nat->Int:=VJ (AF l.length) (bnF l) (AF l.length)
theorem tP{l:gP}(h:me l=0):(∃n,n<=8/\l.length=2^n)/\∀x∈l,x=0\/x=1:=by
 unfold me at h;split at h
 ·exact Sb
 ·rename_i c;split at h
  ·exact Sb
  ·rename_i a;refine⟨agZ (by grind),λx b=> ?_⟩;refine gx λd=>a ?_;rw[iG];refine⟨x,b,?_⟩;unfold oj
   grind
theorem aaa{l:gP}(h:∀x∈l,x=0\/x=1):J1 l.length 1 (bnF l):=λj a=>by
 grind [bnF,List.getElem_mem]
theorem abb(i:Nat)(f:Nat->Int):vD i f++[f i]=vD (i+1) f:=by grind [vD,List.range_succ]
theorem EA(v:Value)(l:gP)(w:World)(a:Sl w v l)(hi:∀x∈l,ja x)(c:l.length<=100000)(h:me l≠0):
 Calls prog 211 #[v] w λe d=>e= .returned (.tuple #[.slice none 0 0,.int .i64 (me l)])/\w=d:=by
 have b:=gb (zQ v l w a hi c);have f:(me l==0)=false:=by grind
 clear h a hi;generalize me l=E at*;go_enter func211,ntmps211;go_wp2_with fail;refine b.out.mono ?_;rintro e g ⟨⟨n,rfl⟩,rfl⟩;go_wp2;go_ret2;exact⟨rfl,rfl⟩
theorem GD(v:Value)(l:gP)(w:World)(d:Sl w v l)(hi:∀x∈l,ja x)(h:me l=0):
 Calls prog 211 #[v] w λe I=>(∃G,e= .returned (.tuple #[G,.int .i64 0])/\OI w.heap.size I G (vD l.length (JM l)))/\gm w I:=by
 obtain⟨⟨n,C,a⟩,s⟩:=tP h;have W:AF l.length=n:=by grind [wn]
 have t:JM l=VJ n (bnF l) n:=by grind [JM]
 have b:=aaa s;have Q:l.length<=256:=by rw[a];exact gt (gN (n:=2) Oa C) Oc
 have c:=gb (zQ v l w d hi Oa);rw[h]at c;rw[t];obtain⟨aa,r,N,rfl,y,ac,B⟩:=d.open;rw[y.out]at a b Q⊢;have Z:=gb a;have Y:=gb b;have P:0<N:=by grind
 obtain⟨q,F,rfl,R,S⟩:=B P
 have K:=gd (∀H,H<N->w.cell? ⟨q,F+H,none⟩=some (.int .i64 (l.getD H 0))/\(l.getD H 0=0\/l.getD H 0=1)) (λH hi=>⟨by grind,by
  grind [List.getElem_mem]⟩)
 have L:=gd (∀H,bnF l H=1-2*l.getD H 0) (λH=>rfl);have o:=gb (λ(g r:Nat)(J:World) ho=>adV w.heap.size g r n N (bnF l) J C a b ho);clear h d hi B S s W t b a y;generalize bnF l=f at*;go_enter func211,ntmps211;go_wp2_with fail;refine c.out.mono ?_;rintro e J ⟨⟨n0,rfl⟩,rfl⟩;clear c;go_wp2;go_loopw [6,19] (λX i wr=>∃H:Nat,H<=N/\i= .int .i64 H/\OI w.heap.size wr X (vD H f)/\gm w wr) (λ_ i _=>N-(intOf i).toNat)
 case atStart=>exact⟨0,ge _,rfl,OI.nil _ _,f0 _ _⟩
 case round=>
  obtain⟨H,hi,rfl,ho,aC⟩:=hrel;by_cases T:H<N
  ·have U:(H:Int)<N:=(by omega);obtain⟨z,hx⟩:=K.out H T;have ab:=(aC.cell (p:=⟨q,F+H,none⟩) R).trans z;have M:=gb (L.out H);have V:(vD H f).length<=1000000000000:=(by rw[oo];omega);have E:=aC.size;clear z;generalize l.getD H 0=x at*;have O:=gd (vD H f++[1-2*x]=vD (H+1) f) (by rw[<-M.out,abb]);go_wp2_with (at_builtin;refine g8 wr _ _ 45 rfl rfl underlying45 info3 w.heap.size _ _ rfl ho rfl V E ?_;intro g7 c7 w4 aD au aI aU);have HX:=gR (aD.cast O.out) (ho.grown aC au E);exact SZ
  ·obtain rfl:H=N:=(by omega);have U:¬(H:Int)<H:=Oa;obtain⟨g,c2,e,au,aI⟩:=ho.form (by grind [oo]);rw[oo]at e;subst e;have k:=gb (o.out g c2 wr ho);have j:=gb aC;clear ho aC o;go_wp2_with fail;refine k.out.mono ?_;rintro e w2 ⟨⟨ae,rfl⟩,D,A⟩;have HX:=gR D (j.out.grown A j.out.size (λad e=>by grind));clear D A k;exact QK
def Y7(l:gP):Bool:=if me l=0 then An (JM l) l.length==BE (JM l) l.length else false
theorem aiu{l:gP}(h:me l=0):J1 l.length 256 (JM l)/\0<l.length/\l.length<=256:=by
 obtain⟨⟨n,b,f⟩,c⟩:=tP h;have g:AF l.length=n:=by grind [wn]
 have a:=aaa c;have d:J1 l.length (2^n) (JM l):=by
  unfold JM;rw[g];rw[f]at a⊢;exact RG b a n (fZ _)
 have i:2^n<=256:=gt (gN (n:=2) Oa b) Oc;have k:((2^n:Nat):Int)=(2:Int)^n:=On;refine⟨λj e=> ?_,by grind,by omega⟩;have:=d j e;exact Oa
theorem Zj(v:Value)(l:gP)(w:World)(b:Sl w v l)(hi:∀A∈l,ja A)(x:l.length<=100000):
 Calls prog 129 #[v] w λe z=>e= .returned (.tuple #[.bool (Y7 l),.int .i64 (me l)])/\gm w z:=by
 by_cases h:me l=0
 ·obtain⟨k,s,t⟩:=aiu h;have a:=gb (GD v l w b hi h);have j:=gb (λ(g r:Nat)(c:World) y=>E9 w.heap.size g r l.length 256 (JM l) c s t Oc Oc k y);have d:=gd (Y7 l=(An (JM l) l.length==BE (JM l) l.length)) (gl h);rw[h];clear h b hi k;generalize Y7 l=J at*;generalize An (JM l) l.length=C at*;generalize BE (JM l) l.length=B at*;generalize JM l=S at*;generalize l.length=N at*;go_enter func129,ntmps129;go_wp2_with fail;refine a.out.mono ?_;rintro e c ⟨⟨H,rfl,f⟩,n⟩;obtain⟨g,c2,e,D,F⟩:=f.form (by grind [oo]);rw[oo]at e;subst e;have q:=gb (j.out g c2 c f);have i:=gb n;clear f n a j;go_wp2_with fail;refine q.out.mono ?_;rintro e I ⟨rfl,o⟩;have p:=gb (i.out.trans (o.mono i.out.size));clear o;go_wp2;go_ret2;exact⟨by rw[d.out];rfl,p.out⟩
 ·have a:=gb (EA v l w b hi x h);have d:=gd (Y7 l=false) (gh h);have G:(me l==0)=false:=(by grind);rw[d.out];clear h b hi;generalize me l=E at*;go_enter func129,ntmps129;go_wp2_with fail;refine a.out.mono ?_;rintro e c ⟨rfl,rfl⟩;exact Rr
def xb:Nat->Nat->Nat
 |0,_=>0
 |k+1,x=>x%2+xb k (x/2)
def sgB(y:Nat):Int:=if xb 8 y%2=0 then 1 else-1
def sh(f:Nat->Int):Nat->Int
 |0=>0
 |n+1=>sh f n+f n
theorem ql{f g:Nat->Int}:∀{n:Nat},(∀x,x<n->f x=g x)->sh f n=sh g n
 |0,_=>rfl
 |n+1,h=>by
  unfold sh;rw[ql λx a=>h x Oa,h n Oa]
theorem Bk(f:Nat->Int)(a:Nat):∀b,sh f (a+b)=sh f a+sh (λx=>f (a+x)) b
 |0=>by simp[sh]
 |b+1=>by
  have h:=Bk f a b
  grind [sh]
theorem Jp(f:Nat->Int):∀n,sh (λx=> -(f x)) n= -(sh f n)
 |0=>rfl
 |n+1=>by
  unfold sh;rw[Jp f n];exact Oa
def Zh(f:Nat->Int)(k j:Nat):Int:=sh (λx=>sgB (j&&&x)*f (j/2^k*2^k+x)) (2^k)
def wsB:Bool:=(List.range 8).all λk=>(List.range 256).all λj=>
 (if j.testBit k then
   j/2^(k+1)*2^(k+1)+2^k==j/2^k*2^k&&(j-2^k)/2^k*2^k==j/2^(k+1)*2^(k+1)&&(List.range (2^k)).all λx=>(xb 8 (j&&&(2^k+x))==xb 8 (j&&&x)+1)&&((j-2^k)&&&x==j&&&x)
 else
  j/2^(k+1)*2^(k+1)==j/2^k*2^k&&(j+2^k)/2^k*2^k==j/2^k*2^k+2^k&&(List.range (2^k)).all λx=>(xb 8 (j&&&(2^k+x))==xb 8 (j&&&x))&&((j+2^k)&&&x==j&&&x))
theorem akf:wsB=true:=OH
theorem aj3{a b:Nat}(h:xb 8 a=xb 8 b+1):sgB a= -sgB b:=by
 unfold sgB;exact Oa
theorem agY{a b:Nat}(h:xb 8 a=xb 8 b):sgB a=sgB b:=by grind [sgB]
theorem ahi(f:Nat->Int){k j:Nat}(i:k<8)(h:j<256):Zh f (k+1) j=if j.testBit k then Zh f k (j-2^k)-Zh f k j else Zh f k j+Zh f k (j+2^k):=by
 have a:=gF.1 (gF.1 akf k (gC.2 i)) j (gC.2 h);have e:Zh f (k+1) j=sh (λx=>sgB (j&&&x)*f (j/2^(k+1)*2^(k+1)+x)) (2^k)+sh (λx=>sgB (j&&&(2^k+x))*f (j/2^(k+1)*2^(k+1)+(2^k+x))) (2^k):=by
  unfold Zh;rw[show(2:Nat)^(k+1)=2^k+2^k by omega,Bk]
 rw[e];by_cases d:j.testBit k=true
 ·rw[gl d]at a⊢;simp only[ia,kz,gF,gC]at a;obtain⟨⟨c,b⟩,g⟩:=a;unfold Zh;rw[b,Ct,<-Jp];congr 1
  ·grind [ql]
  ·refine ql λx l=> ?_
   grind [aj3]
 ·rw[gh d]at a⊢;simp only[ia,kz,gF,gC]at a;obtain⟨⟨c,b⟩,g⟩:=a;unfold Zh;rw[b,c]
  grind [ql,agY]
theorem ahS{n:Nat}(a:n<=8)(f:Nat->Int):∀k,k<=n->∀j,j<2^n->VJ n f k j=Zh f k j
 |0,_,j,_=>by
  unfold VJ Zh;simp[sh,sgB,xb]
 |k+1,h,j,c=>by
  have i:2^n<=2^8:=gN Oc a;have d:=ahS a f k Oa;have g:=Nat.two_pow_pos k;have e:WE k j<2^n:=(by grind [WE]);rw[VJ,pl,gl e,ahi f Oa Oa];by_cases b:j.testBit k=true
  ·grind
  ·rw[gh b,gh b,d j c,d (j+2^k) (Lt n a k Oa j c (by grind))]
def xr(l:gP)(a:Nat):Int:=sh (λx=>if(xb 8 (a&&&x)+(l.getD x 0).toNat)%2=0 then 1 else-1) l.length
theorem ai3{l:gP}{n:Nat}(d:n<=8)(b:l.length=2^n)(e:∀x∈l,x=0\/x=1){a:Nat}(f:a<l.length):xr l a=JM l a:=by
 have c:AF l.length=n:=by grind [wn]
 unfold JM xr;rw[c,ahS d (bnF l) n (fZ _) a Oa];unfold Zh;rw[qu Oa,pH,b];refine ql λx h=> ?_;rw[iL];unfold bnF;have g:l.getD x 0=0\/l.getD x 0=1:=by
  grind [List.getElem_mem]
 unfold sgB
 grind
theorem abl(f:Nat->Int):∀N,0<=An f N/\(∀i,i<N->f i<=An f N/\-(f i)<=An f N)/\(0<N->∃i,i<N/\(An f N=f i\/An f N= -(f i)))
 |0=>⟨qR _,λi d=>by omega,λh=>by omega⟩
 |N+1=>by
  obtain⟨a,b,c⟩:=abl f N
  grind [An]
theorem abj(f:Nat->Int):∀N,0<N->(∀i,i<N->BE f N<=max (f i) (-(f i)))/\∃i,i<N/\BE f N=max (f i) (-(f i))
 |1,_=>by
  unfold BE BE
  grind
 |N+2,_=>by
  obtain⟨a,d,c,b⟩:=abj f (N+1) Oa
  grind [BE]
theorem aje{f:Nat->Int}{N:Nat}(a:0<N):An f N=BE f N↔∀i,i<N->f i=f 0\/f i= -(f 0):=by
 obtain⟨g,h,j⟩:=abl f N;obtain⟨d,c,b,e⟩:=abj f N a
 grind
theorem ae6{l:gP}(h:me l=0):Y7 l=true↔∀i,i<l.length->xr l i=xr l 0\/xr l i= -(xr l 0):=by
 obtain⟨⟨n,d,c⟩,b⟩:=tP h;have a:0<l.length:=by grind
 unfold Y7;rw[gl h,kz,aje a]
 grind [ai3]
theorem R5(x:Nat)(i:x<256)(w:World):
 Calls prog 170 #[.int .i64 x] w λg q=>g= .returned (.int .i64 (xb 8 x:Nat))/\w=q:=by
 have d:=gd (∀k y,xb (k+1) y=y%2+xb k (y/2)) (λk y=>rfl);have e:=gd (∀k,xb k 0=0) (λk=>by induction k with|zero=>rfl|succ k l=>rw[xb,l]);go_enter func170,ntmps170;go_wp2;go_loopw [0,3] (λa p wr=>∃y n k:Nat,a= .int .i64 y/\p= .int .i64 n/\y<2^k/\k<=8/\n<=8-k/\Hid (n+xb k y=xb 8 x)/\w=wr) (λa _ _=>(intOf a).toNat)
 case atStart=>exact⟨x,0,8,rfl,rfl,i,fZ _,by omega,gb (iL _),rfl⟩
 case round=>
  obtain⟨y,n,k,rfl,rfl,C,h,A,b,rfl⟩:=hrel;by_cases s:0<y
  ·obtain⟨k,rfl⟩:∃o,k=o+1:=⟨k-1,by
    grind⟩
   have B:(y:Int).tmod 2=((y%2:Nat):Int):=(gO _ _).symm;have t:(y:Int).tdiv 2=((y/2:Nat):Int):=(iS _ _).symm;have D:y<256:=by
    have:2^(k+1)<=2^8:=gN Oc h;exact Oa
   have j:y/2<2^k:=Oa;have c:=gd ((n+y%2)+xb k (y/2)=xb 8 x) (by rw[<-b.out,d.out];omega);have z:y%2<2:=iD _ Oc;have v:y/2<y:=Oa;generalize y%2=r at*;generalize y/2=f at*;go_wp2;go_roundw
   case rel=>exact⟨f,n+r,k,by grind,by go_num,j,by omega,by omega,c,by grind⟩
   case measure=>exact gQ
  ·obtain rfl:y=0:=(by omega);have HE:=gd (n=xb 8 x) (by rw[<-b.out,e.out];rfl);exact Kq
theorem Lu(N:Nat)(C:N<=100000)(w:World):
 Calls prog 169 #[.int .i64 N] w λe y=>(∃z:Int,e= .returned (.int .i64 z)/\(z<0↔tG N=false)/\-1<=z/\z<=8)/\w=y:=by
 have o:=gd (∀n,n<=8->N=2^n->tG N=true) (λn t e=>by grind [VG]);have k:=gb (λh=>Je (N:=N) h);go_enter func169,ntmps169;go_wp2;go_loopw [3,4] (λpv c wr=>∃n:Nat,pv= .int .i64 ((2^n:Nat):Int)/\c= .int .i64 n/\n<=9/\Hid (∀j,j<n->N≠2^j)/\w=wr) (λ_ c _=>9-(intOf c).toNat)
 case atStart=>exact⟨0,rfl,rfl,by omega,gb (λj s=>by omega),rfl⟩
 case round=>
  obtain⟨n,rfl,rfl,t,d,rfl⟩:=hrel;by_cases g:n<=8
  ·have B:(n:Int)<=8:=(by omega);have D:2^n<=2^8:=gN Oc g;have v:(2:Int)*((2^n:Nat):Int)=((2^(n+1):Nat):Int):=Oa;have r:=gb (o.out n g)
   have i:=gb (λ(h:¬N=2^n)=>(show∀j,j<n+1->N≠2^j from λj s=>by
    by_cases e:j=n
    ·grind
    ·exact d.out j Oa))
   have x:2^(n+1)<=1000:=Oa;obtain⟨q,b⟩:∃q,2^(n+1)=q:=⟨_,rfl⟩;rw[b]at x v;have l:=gb b;clear b;generalize 2^n=p at*;by_cases e:N=p
   ·have f:(N:Int)=p:=(by omega);have a:=gb (r.out e);clear e;go_wp2;go_ret;exact⟨⟨n,rfl,by rw[a.out];simp,by omega,by omega⟩,rfl⟩
   ·have f:¬(N:Int)=p:=(by omega);have A:((N:Int)==p)=false:=gL.2 f;have a:=gb (i.out e);clear e;go_wp2;go_roundw
    case rel=>exact⟨n+1,by rw[l.out],by go_num,by omega,a,by grind⟩
    case measure=>exact gQ
  ·obtain rfl:n=9:=(by omega);have a:=gb (k.out d.out);go_wp2;go_ret;exact⟨⟨-1,rfl,by rw[a.out];simp,by omega,by omega⟩,rfl⟩
theorem ais{l:gP}{i:Nat}(a:tG l.length=true)(hi:i<l.length)(h:oj (l[i]?.getD 0)=true):me l=1:=by
 unfold me
 grind
theorem aeY{l:gP}(a:tG l.length=true)(h:∀H,H<l.length->oj (l[H]?.getD 0)=false):me l=0:=by
 unfold me;rw[a,gh Oc,gh];rw[iG];rintro⟨x,hx,b⟩;exact Qk
theorem Bl(v:Value)(l:gP)(w:World)(y:Sl w v l)(t:l.length<=100000):
 Calls prog 81 #[v] w λe E=>e= .returned (.int .i64 (me l))/\w=E:=by
 have d:=gb (λH a r h=>ais (l:=l) (i:=H) a r h);have i:=gb (λa h=>aeY (l:=l) a h);have f:=gd (tG l.length=false->me l=2) (λh=>by unfold me;grind);obtain⟨I,K,N,rfl,o,P,p⟩:=y.open;have z:=gb (Lu N (by rw[<-o.out];exact t) w);rw[o.out]at d i f t;clear y;generalize me l=G at*;go_enter func81,ntmps81;go_wp2_with fail;refine z.out.mono ?_;rintro e U ⟨⟨F,rfl,b,R,S⟩,rfl⟩;by_cases D:F<0
 ·have HR:=gb (f.out (b.1 D));clear b;exact OG
 ·have g:=gd (tG N=true) (by
   grind)
  clear b;go_wp2;go_loopw [4] (λc wr=>∃H:Nat,c= .int .i64 H/\H<=N/\Hid (∀j,j<H->oj (l[j]?.getD 0)=false)/\w=wr) (λc _=>N-(intOf c).toNat)
  case atStart=>exact⟨0,rfl,ge _,gb (λj C=>by omega),rfl⟩
  case round=>
   obtain⟨H,rfl,r,HH,rfl⟩:=hrel;by_cases s:H<N
   ·have B:(H:Int)<N:=(by omega);obtain⟨J,T,rfl,O,q⟩:=p Oa;have Q:=q H s;have A:=gb (d.out H g.out s);have cj:=gb (λ(h:oj (l[H]?.getD 0)=false)=>(show∀j,j<H+1->oj (l[j]?.getD 0)=false from λj C=>Pi));clear HH q p;generalize l[H]?.getD 0=x at*;by_cases k:x=0
    ·subst k;exact SA
    ·have L:(x !=0)=true:=iT.2 k;by_cases n:x=1
     ·subst n;exact SA
     ·have M:(x !=1)=true:=iT.2 n;have HR:=gb (A.out (by grind [oj]));exact OG
   ·obtain rfl:H=N:=(by omega);have B:¬(H:Int)<H:=Oa;have HR:=gb (i.out g.out HH.out);exact OG
def Ag(l:gP)(a i:Nat):Int:=sh (λx=>if(xb 8 (a&&&x)+(l.getD x 0).toNat)%2=0 then 1 else-1) i
def sy(l:gP)(k:Nat):gP:=(List.range k).map (xr l)
theorem WQ(l:gP)(k:Nat):sy l k++[xr l k]=sy l (k+1):=by grind [sy,List.range_succ]
theorem Ah(l:gP)(k:Nat):(sy l k).length=k:=by simp[sy]
theorem CJ(l:gP)(a i:Nat):Ag l a (i+1)=Ag l a i+if(xb 8 (a&&&i)+(l.getD i 0).toNat)%2=0 then 1 else-1:=rfl
theorem EZ(l:gP)(a:Nat):∀i:Nat,-(i:Int)<=Ag l a i/\Ag l a i<=i
 |0=>by unfold Ag sh;omega
 |i+1=>by
  have:=EZ l a i
  grind [CJ]
theorem Bh(v:Value)(l:gP)(w:World)(z:Sl w v l)(hl:l.length<=256)(ab:∀x∈l,x=0\/x=1):
 Calls prog 82 #[v] w λE O=>(∃M,E= .returned M/\OI w.heap.size O M (sy l l.length))/\gm w O:=by
 have Y:=gb (λx (hx:x<256) w1=>R5 x hx w1);have W:=gb (WQ l);have cf:=gb (Ah l);have X:=gb (CJ l);have S:=gb (EZ l);have B:=gd (∀f,Ag l f l.length=xr l f) (λf=>rfl)
 have D:=gd (∀i,i<l.length->∃t:Nat,l[i]?.getD 0=(t:Int)/\t<=1/\(l.getD i 0).toNat=t) (λi q=>by
  grind [List.getElem_mem])
 obtain⟨f,am,N,rfl,hN,aq,G⟩:=z.open;have T:=gR z G;rw[hN.out]at B D hl⊢;clear z ab G;have R:=gb (λ(x Q:Nat)(h1:x<N)(c:Q<N)=>(show x&&&Q<256 from pd Nat.and_le_left Oa));go_enter func82,ntmps82;go_wp2;go_loopw [3,4,5,6,7] (λov j _ _ _ wr=>∃k:Nat,j= .int .i64 k/\k<=N/\OI w.heap.size wr ov (sy l k)/\gm w wr) (λ_ j _ _ _ _=>N-(intOf j).toNat)
 case atStart=>exact⟨0,rfl,ge _,OI.nil _ _,f0 _ _⟩
 case round=>
  obtain⟨k,rfl,hk,d,o⟩:=hrel;by_cases ah:k<N
  ·have ai:(k:Int)<N:=(by omega);have g:=gR d o;obtain⟨aa,al,rfl,ad,H⟩:=T.out.2 Oa;have U:=gb (λi (q:i<N)=>(o.cell (p:=⟨aa,al+i,none⟩) ad).trans (H i q));clear d o H;obtain⟨b,ac⟩:∃b,b=wr:=⟨_,rfl⟩;subst ac;go_wp2;go_loopw [5,6,7] (λsv A _ wr=>∃i:Nat,A= .int .i64 i/\i<=N/\sv= .int .i64 (Ag l k i)/\b=wr) (λ_ A _ _=>N-(intOf A).toNat)
   case atStart=>exact⟨0,rfl,ge _,rfl,rfl⟩
   case round=>
    obtain⟨i,rfl,q,rfl,rfl⟩:=hrel;have ap:=S.out k i;by_cases s:i<N
    ·have ag:(i:Int)<N:=(by omega);have ae:=U.out i s;obtain⟨t,J,av,K⟩:=D.out i s;rw[J]at ae;have ao:=EB k i Oa Oa;have Z:=gb (Y.out (k&&&i) (R.out k i ah s) b);have e:=gb (X.out k i);rw[K]at e;have ax:xb 8 (k&&&i)<=8:=by
      have:∀n x,xb n x<=n:=λn=>by
       induction n with
       |zero=>intro x;exact fZ _
       |succ n ih=>intro x;have:=ih (x/2);unfold xb;omega
      exact this 8 _
     clear J K;generalize k&&&i=ki at*;generalize xb 8 ki=P at*;obtain⟨r,y⟩:∃r,(P+t)%2=r:=⟨_,rfl⟩;have aw:((P:Int)+t).tmod 2=(r:Int):=(by rw[<-R8,<-y];exact(gO _ _).symm);rw[y]at e;clear y;go_wp2_with fail;refine Z.out.mono ?_;rintro E w2 ⟨rfl,rfl⟩;by_cases c:r=0
     ·have F:(r:Int)=0:=(by omega);have a:=e.out;rw[gl c]at a;have h:=gb a;clear c a;generalize Ag l k i=L at*;go_wp2;go_roundw
      case rel=>exact⟨i+1,by go_num,by omega,by rw[h.out],by simp_all⟩
      case measure=>exact gQ
     ·have F:¬(r:Int)=0:=(by omega);have an:((r:Int)==0)=false:=gL.2 F;have a:=e.out;rw[gh c]at a;have h:=gb a;clear c a;generalize Ag l k i=L at*;go_wp2;go_roundw
      case rel=>exact⟨i+1,by go_num,by omega,by rw[h.out];rfl,by simp_all⟩
      case measure=>exact gQ
    ·obtain rfl:i=N:=(by omega);have ag:¬(i:Int)<i:=Oa;have V:=gb (B.out k);have d:=g.out.1;have I:=g.out.2.size;have aj:(sy l k).length<=1000000000000:=Sr;have C:=gb (W.out k);rw[<-V.out]at C;generalize Ag l k i=L at*;go_wp2_with (at_builtin;refine g8 b _ _ 45 rfl rfl underlying45 info3 w.heap.size _ _ rfl d rfl aj I ?_;intro g7 c7 w4 ak af ar au);go_roundw
     case rel=>exact⟨k+1,by go_num,by omega,ak.cast C.out,d.grown g.out.2 af I⟩
     case measure=>exact gQ
  ·obtain rfl:k=N:=(by omega);have ai:¬(k:Int)<k:=Oa;exact PO
def BtR(f:Nat->Int)(N:Nat)(e:Ending):Prop:=∃z,e= .returned (.bool z)/\(z=true↔∀i,i<N->f i=f 0\/f i= -(f 0))
theorem BtR.no{f:Nat->Int}{N i:Nat}(hi:i<N)(h:¬(f i=f 0\/f i= -(f 0))):BtR f N (.returned (.bool false)):=⟨false,rfl,⟨(λh=>by cases h),λa=>absurd (a i hi) h⟩⟩
theorem BtR.yes{f:Nat->Int}{N:Nat}(h:∀i,i<N->f i=f 0\/f i= -(f 0)):BtR f N (.returned (.bool true)):=⟨true,rfl,⟨λ_=>h,λ_=>rfl⟩⟩
theorem Lr(v:Value)(l:gP)(w:World)(C:Sl w v l)(K:∀x∈l,-256<=x/\x<=256):
 Calls prog 83 #[v] w λe P=>BtR (λH=>l.getD H 0) l.length e/\∃n,P=w.drewN n:=by
 have d:=gd (∀H,H<l.length->-256<=l.getD H 0/\l.getD H 0<=256) (λH q=>by
  grind [List.getElem_mem])
 obtain⟨G,Q,N,rfl,A,T,L⟩:=C.open;rw[A.out]at d⊢;clear C K;obtain⟨f,p⟩:∃f:Nat->Int,f=λH=>l.getD H 0:=⟨_,rfl⟩
 have E:=gd (0<N->∃c t,G=some ⟨c,t,none⟩/\c<w.heap.size/\∀H,H<N->w.cell? ⟨c,t+H,none⟩=some (.int .i64 (f H))) (λk=>by
  grind)
 have D:=gd (∀H,H<N->-256<=f H/\f H<=256) (λH q=>by rw[p];exact d.out H q);rw[<-p];clear p d L A;go_enter func83,ntmps83;go_wp2;go_loopw [3] (λs wr=>∃H n:Nat,s= .int .i64 H/\1<=H/\Hid (∀j,1<=j->j<H->f j=f 0\/f j= -(f 0))/\wr=w.drewN n) (λs _=>N-(intOf s).toNat)
 case atStart=>exact⟨1,0,rfl,by omega,gb (λj a b=>by omega),rfl⟩
 case round=>
  obtain⟨H,n,rfl,q,g,rfl⟩:=hrel;by_cases B:H<N
  ·have M:(H:Int)<N:=(by omega);obtain⟨c,t,rfl,S,o⟩:=E.out Oa;have c1:=o H B;have c0:=o 0 Oa;rw[kp]at c0;have J:0<N:=Oa;have O:=D.out 0 J
   have z:=gb (λ(k:f H=f 0\/f H= -(f 0))=>(show∀j,1<=j->j<H+1->f j=f 0\/f j= -(f 0)from λj a b=>by
    by_cases e:j=H
    ·grind
    ·exact g.out j a Oa))
   have F:=gb (λ(k:¬(f H=f 0\/f H= -(f 0)))=>BtR.no B k);clear g o;generalize f H=x at*;obtain⟨y,r⟩:∃y,f 0=y:=⟨_,rfl⟩;rw[r]at c0 O;have i:=gb r;clear r;by_cases a:x=y
   ·have HS:=gb (z.out (.inl (by rw[i.out];exact a)));subst a;exact SH
   ·have R:(x !=y)=true:=iT.2 a;by_cases b:x= -y
    ·have HS:=gb (z.out (.inr (by rw[i.out];exact b)));have I:(x != -y)=false:=(by grind);clear b;exact SH
    ·have I:(x != -y)=true:=iT.2 b;have h:=gb (F.out (by rw[i.out];omega));go_wp2;go_region;go_wp2;go_ret;exact⟨h.out,n+1,rfl⟩
  ·have M:¬(H:Int)<N:=by omega
   have h:=gb (BtR.yes (f:=f) (N:=N) λj U=>by
    rcases jz j with e|e
    ·grind
    ·exact g.out j e Oa)
   go_wp2;go_ret;exact⟨h.out,n,rfl⟩
end Go.Proofs.YtnnaadmegeeinaaGreatDoor
