/-
  Part 18 of a proof: what it proves stands in the last text.
-/
import Derived.Test.YtnnaadmegeeinaaGreatDoorYq
import Derived.Shelf.SlSortCmp.Whole1
import Derived.RangeFuncWrites
import Derived.RangeFuncBound
import Derived.RangeFuncCalls
set_option linter.all false
set_option maxHeartbeats 8000000
set_option maxRecDepth 100000
namespace Go.Proofs.YtnnaadmegeeinaaGreatDoor
open Tryz Go.Proofs.Tryz
open Go.RowKit
def aek:=@List.exists_perm_sublist
theorem So{p:Prop}(h:p:=by
 go_wp2;go_roundw
 case rel=>exact⟨s+1,by go_num,by omega,by omega,e9,by simp_all⟩
 case measure=>exact gQ):p:=h
theorem Sw{p:Prop}(h:p:=by
 have HE:=gd (ax=(false,1)) (et.out (fU.out (by grind)));clear fK;go_wp2;go_ret2
 exact⟨by rw[HE.out];rfl,aQ.out⟩):p:=h
theorem SD{p:Prop}(h:p:=by
 go_wp2;go_ret2
 exact⟨by rw[HE.out,eY.out];rfl,aQ.out⟩):p:=h
theorem Dg{p:Prop}(h:p:=by rw[rI];omega):p:=h
theorem DX{p:Prop}(h:p:=by
 go_wp2;go_ret
 exact⟨⟨_,rfl,HI.out.1⟩,HI.out.2⟩):p:=h
theorem Qi{p:Prop}(h:p:=by
 have eY:=gd (BA=true) (fV.out OK);clear bJ
 exact SD):p:=h
theorem QE{p:Prop}(h:p:=by
 clear hv ba ay dt hN hE h9;go_enter func87,ntmps87
 exact SU):p:=h
def zf(s:Nat):Nat->Nat
 |0=>0
 |i+1=>if s/2^i%2=1 then zf s i+1 else zf s i
def BC(l:gP)(s:Nat):Nat->Int
 |0=>0
 |i+1=>if s/2^i%2=1 then BC l s i+l.getD i 0 else BC l s i
def Zg(k:Nat):Int:=((k:Int)*((k:Int)-1)).tdiv 2
def BU(l:gP)(N s:Nat):Bool:=decide (BC l s N<Zg (zf s N))||(decide (zf s N=N)&&decide (Zg (zf s N)<BC l s N))
def BS(l:gP)(N t:Nat):Bool:=(List.range t).any λs=>decide (1<=s)&&BU l N s
def Wz(l:gP):Bool×Int:=if 9<l.length then(false,3)else if l.length=0 then(false,2)else if l.any (mU l.length)=true then(false,1)else(!BS l l.length (2^l.length),0)
theorem LO(s:Nat):∀i,zf s i<=i
 |0=>fZ _
 |i+1=>by have:=LO s i;grind [zf]
theorem aau{l:gP}(h:∀i,i<l.length->0<=l.getD i 0/\l.getD i 0<=9)(s:Nat):∀i,i<=l.length->0<=BC l s i/\BC l s i<=9*i
 |0,_=>⟨qR _,by simp[BC]⟩
 |i+1,b=>by
  have a:=aau h s i Oa
  grind [BC]
theorem zP{l:gP}{N s t:Nat}(b:1<=s)(a:s<t)(h:BU l N s=true):BS l N t=true:=iG.2 ⟨s,gC.2 a,by grind⟩
theorem Tg{l:gP}{N t:Nat}(h:∀s,1<=s->s<t->BU l N s=false):BS l N t=false:=by
 cases a:BS l N t with
 |false=>rfl
 |true=>
  obtain⟨s,c,b⟩:=iG.1 a
  grind
theorem aka(k:Nat)(a:k<=9): -1<=(k:Int)-1/\(k:Int)-1<=8/\0<=(k:Int)*((k:Int)-1)/\(k:Int)*((k:Int)-1)<=72/\0<=Zg k/\Zg k<=36:=by
 have:k=0\/k=1\/k=2\/k=3\/k=4\/k=5\/k=6\/k=7\/k=8\/k=9:=Oa;rcases this with h|h|h|h|h|h|h|h|h|h<;>subst h<;>decide
theorem aim{l:gP}{p:Int->Bool}{i:Nat}(hi:i<l.length)(h:p (l.getD i 0)=true):l.any p=true:=by
 grind
theorem Gw(v:Value)(l:gP)(w:World)(hv:Sl w v l):
 Calls prog 87 #[v] w λe w'=>e= .returned (.tuple #[.bool (Wz l).1,.int .i64 (Wz l).2])/\gm w w':=by
 obtain⟨aq,ar,N,rfl,hN,ba,ay⟩:=hv.open;have dt:=hN.out;have aQ:=gb (f0 w.heap.size w);by_cases h9:9<N
 ·have hE:=gd (Wz l=(false,3)) (by unfold Wz;grind);rw[hE.out];have ad:(9:Int)<N:=Oa;exact QE
 ·by_cases E:N=0
  ·subst E;have hE:=gd (Wz l=(false,2)) (by unfold Wz;grind);rw[hE.out];exact QE
  ·have ad:¬(9:Int)<N:=(by omega);have au:((N:Int)==0)=false:=(by grind);have aw:1<=N:=Oa;have ae:N<=9:=Oa;obtain⟨ac,ao,rfl,aB,a⟩:=ay Oa;have A:=gd (∀H,H<N->w.cell? ⟨ac,ao+H,none⟩=some (.int .i64 (l.getD H 0))) (λH hi=>by grind);have et:=gd (l.any (mU N)=true->Wz l=(false,1)) (λh=>by unfold Wz;grind);have R:=gd (l.any (mU N)=false->Wz l=(!BS l N (2^N),0)) (λh=>by unfold Wz;grind);have X:=gd (∀H,H<N->mU N (l.getD H 0)=true->l.any (mU N)=true) (λH hi h=>aim Oa h)
   have W:=gd ((∀H,H<N->mU N (l.getD H 0)=false)->l.any (mU N)=false) (λh=>by
    rw[amg];intro x hx
    exact Qk)
   have aa:=gd ((∀H,H<N->mU N (l.getD H 0)=false)->∀s H,H<=N->0<=BC l s H/\BC l s H<=9*H) (λh s H hi=>aau (λj I=>by
    grind [mU]) s H Oa)
   have C:=gb LO;have V:=gd (∀s H,zf s (H+1)=if s/2^H%2=1 then zf s H+1 else zf s H) (λs H=>rfl);have Z:=gd (∀s H,BC l s (H+1)=if s/2^H%2=1 then BC l s H+l.getD H 0 else BC l s H) (λs H=>rfl);have U:=gd (∀s,zf s 0=0) (λs=>rfl);have Y:=gd (∀s,BC l s 0=0) (λs=>rfl);have O:=gd (∀s,BU l N s=(decide (BC l s N<Zg (zf s N))||(decide (zf s N=N)&&decide (Zg (zf s N)<BC l s N)))) (λs=>rfl);have Q:=gd (∀s,1<=s->s<2^N->BU l N s=true->BS l N (2^N)=true) (λs i o h=>zP i o h);have M:=gd ((∀s,1<=s->s<2^N->BU l N s=false)->BS l N (2^N)=false) Tg;have av:(2:Int)^N=((2^N:Nat):Int):=On;have az:2<=2^N:=by
    grind
   have aA:2^N<=512:=gN (n:=2) Oa ae;generalize BS l N (2^N)=BA at*;generalize 2^N=P at*;generalize BU l N=f at*;generalize BC l=CS at*;generalize zf=b at*;generalize Wz l=ax at*;generalize l.any (mU N)=AO at*;clear hv ba ay dt hN h9 E a;go_enter func87,ntmps87;go_wp2;go_loopw [5] (λx wr=>∃H:Nat,x= .int .i64 H/\H<=N/\Hid (∀j,j<H->mU N (l.getD j 0)=false)/\wr=w) (λx _=>N-(intOf x).toNat)
   case atStart=>exact⟨0,rfl,ge _,gb (λj I=>by omega),rfl⟩
   case round=>
    obtain⟨H,rfl,aC,HJ,rfl⟩:=hrel;by_cases J:H<N
    ·have aj:(H:Int)<N:=(by omega);have c1:=A.out H J;have fU:=gb (X.out H J);have B:=gd (mU N (l.getD H 0)=false->∀j,j<H+1->mU N (l.getD j 0)=false) (λh j I=>Qh);have fK:mU N (l.getD H 0)=(decide (l.getD H 0<0)||decide ((N:Int)<=l.getD H 0)):=rfl;generalize l.getD H 0=x at*;generalize mU N x=aN at*;by_cases aL:x<0
     ·exact Sw
     ·by_cases aM:(N:Int)<=x
      ·exact Sw
      ·have S:=gb (B.out (by grind));clear fK B;go_wp2;go_roundw
       case rel=>exact⟨H+1,by go_num,by omega,S,by grind⟩
       case measure=>exact gQ
    ·obtain rfl:H=N:=(by omega);have aj:¬(H:Int)<H:=Oa;have HE:=gb (R.out (W.out HJ.out));have ab:=gb (aa.out HJ.out);go_wp2;go_loopw [6,7,8,9] (λx _ _ _ z=>∃s:Nat,x= .int .i64 s/\1<=s/\s<=P/\Hid (∀t,1<=t->t<s->f t=false)/\z=wr) (λx _ _ _ _=>P-(intOf x).toNat)
     case atStart=>exact⟨1,rfl,fZ _,by omega,gb (λt i o=>by omega),rfl⟩
     case round=>
      obtain⟨s,rfl,ak,aF,D,rfl⟩:=hrel;by_cases am:s<P
      ·have an:(s:Int)<P:=(by omega);go_wp2_with fail;go_loopw [7,8,9] (λk t x z=>∃j:Nat,x= .int .i64 j/\j<=H/\k= .int .i64 (b s j)/\t= .int .i64 (CS s j)/\z=wr) (λ_ _ x _=>H-(intOf x).toNat)
       case atStart=>exact⟨0,rfl,ge _,by rw[U.out];rfl,by rw[Y.out],rfl⟩
       case round=>
        obtain⟨j,rfl,aD,rfl,rfl,rfl⟩:=hrel;by_cases af:j<H
        ·have ag:(j:Int)<H:=(by omega);have c1:=A.out j af;have o:(2:Int)^j=((2^j:Nat):Int):=On;have aG:(s:Int)/((2^j:Nat):Int)=((s/2^j:Nat):Int):=(Int.natCast_ediv s (2^j)).symm;have hq:s/2^j<=s:=jg _ _;have F:bits .and .i64 ((s/2^j:Nat):Int) 1=((s/2^j%2:Nat):Int):=(by rw[<-Nat.and_one_is_mod];exact EB (s/2^j) 1 Oa Oa);have c:=V.out s j;have a:=Z.out s j;have ai:=C.out s j;have al:=ab.out s (j+1) Oa;by_cases d:s/2^j%2=1
         ·rw[gl d]at c a;rw[d]at F;rw[a]at al;have q:=gb c;have r:=gb a;clear c a d;generalize l.getD j 0=x at*;generalize b s j=k at*;generalize CS s j=t at*;generalize s/2^j=y at*;generalize 2^j=ap at*;have aJ:=iE (t+x) Oa;go_wp2;go_roundw
          case rel=>exact⟨j+1,by go_num,by omega,by rw[q.out];go_num,by rw[r.out],by simp_all⟩
          case measure=>exact gQ
         ·rw[gh d]at c a;have G:s/2^j%2=0:=Oa;rw[G]at F;have q:=gb c;have r:=gb a;clear c a d G;generalize l.getD j 0=x at*;generalize b s j=k at*;generalize CS s j=t at*;generalize s/2^j=y at*;generalize 2^j=ap at*;go_wp2;go_roundw
          case rel=>exact⟨j+1,by go_num,by omega,by rw[q.out],by rw[r.out],by simp_all⟩
          case measure=>exact gQ
        ·obtain rfl:j=H:=(by omega);have ag:¬(j:Int)<j:=Oa;have bJ:=O.out s;have ai:=C.out s j;obtain⟨t1,t2,t3,t4,t5,t6⟩:=aka (b s j) Oa;have K:Zg (b s j)=((b s j:Int)*((b s j:Int)-1)).tdiv 2:=rfl;have fV:=gb (Q.out s ak am)
         have g:=gd (f s=false->∀t,1<=t->t<s+1->f t=false) (λh t i o=>by
          by_cases e:t=s
          ·rw[e];exact h
          ·exact D.out t i Oa)
         generalize f s=bs at*;generalize CS s j=t at*;generalize b s j=k at*;generalize Zg k=T at*;generalize hz:(k:Int)-1=L at*;generalize aE:(k:Int)*L=y at*;have hT:=K.symm;have aK:=iE L Oa;have aI:=iE y Oa;have aH:=iE T Oa;clear K;by_cases hA:t<T
         ·exact Qi
         ·rw[gp hA,kS]at bJ;by_cases p:k=j
          ·have ah:((k:Int)==j)=true:=(by simp_all);rw[gy p,BH]at bJ;clear p;by_cases hB:T<t
           ·exact Qi
           ·have e9:=gb (g.out OK);clear bJ g;exact So
          ·have ah:((k:Int)==j)=false:=(by rw[gL];omega);rw[gp p,Bool.false_and]at bJ;have e9:=gb (g.out bJ);clear bJ g p;exact So
      ·obtain rfl:s=P:=(by omega);have an:¬(s:Int)<s:=Oa;have eY:=gb (M.out D.out);exact SD
def JS(l:gP)(s:Nat):Nat->gP
 |0=>[]
 |i+1=>if s/2^i%2=1 then JS l s i++[l.getD i 0]else JS l s i
theorem wD(l:gP)(s:Nat):∀i,(JS l s i).length=zf s i
 |0=>rfl
 |i+1=>by
  rw[JS,zf];split
  ·rw[gz,wD l s i];rfl
  ·exact wD l s i
theorem wE(l:gP)(s:Nat):∀i,(JS l s i).sum=BC l s i
 |0=>rfl
 |i+1=>by
  rw[JS,BC];split
  ·rw[List.sum_append,wE l s i];simp
  ·exact wE l s i
theorem x0{l:gP}{i:Nat}(h:i<l.length):l.take (i+1)=l.take i++[l.getD i 0]:=OK
theorem zu(l:gP)(s:Nat):∀i,i<=l.length->List.Sublist (JS l s i) (l.take i)
 |0,_=>List.Sublist.slnil
 |i+1,h=>by
  rw[JS,x0 Oa];split
  ·exact(zu l s i Oa).append (List.Sublist.refl _)
  ·exact(zu l s i Oa).trans (List.sublist_append_left _ _)
theorem C9{l:gP}{s t:Nat}:∀i,(∀j,j<i->s/2^j%2=t/2^j%2)->JS l s i=JS l t i
 |0,_=>rfl
 |i+1,h=>by rw[JS,JS,C9 i (λj a=>h j Oa),h i Oa]
theorem Z5{s n j:Nat}(a:j<n):(s+2^n)/2^j%2=s/2^j%2:=by
 obtain⟨d,rfl⟩:∃d,n=j+1+d:=⟨n-(j+1),by omega⟩
 have:2^(j+1+d)=2^j*(2*2^d):=by rw[Nat.pow_add,Nat.pow_succ];simp[Nat.mul_assoc]
 rw[this,Nat.add_mul_div_left _ _ (Nat.pos_of_ne_zero (by simp))]
 omega
theorem ae2{s n:Nat}(a:s<2^n):(s+2^n)/2^n%2=1:=by
 grind [Nat.add_div_right,Nat.div_eq_of_lt]
theorem Z7{s n:Nat}(a:s<2^n):s/2^n%2=0:=by rw[qu a]
theorem ac4(l:gP):∀(n:Nat)(T:gP),n<=l.length->List.Sublist T (l.take n)->∃s,s<2^n/\JS l s n=T
 |0,T,_,h=>⟨0,by simp,by rw[Y2]at h;exact(List.sublist_nil.1 h).symm⟩
 |n+1,T,g,h=>by
  rw[x0 Oa]at h;obtain⟨A,B,rfl,c,f⟩:=List.sublist_append_iff.1 h;obtain⟨s,b,a⟩:=ac4 l n A Oa c;have d:B=[]\/B=[l.getD n 0]:=by
   grind
  rcases d with rfl|rfl
  ·exact⟨s,by omega,by rw[JS,Z7 b,gh Oc,a,jb]⟩
  ·exact⟨s+2^n,by omega,by rw[JS,ae2 b,gl rfl,C9 n (λj e=>Z5 e),a]⟩
theorem A5{A B:gP}(h:A.Perm B):A.sum=B.sum:=by
 induction h with
 |nil=>rfl
 |cons x _ c=>grind
 |swap x y l=>grind
 |trans _ _ a b=>omega
theorem Bo:∀(k:Nat)(y:Int)(Y:gP),(∀z∈Y,y<=z)->Y.Pairwise (·<= ·)->k<=Y.length->((y::Y).take k).sum<=(Y.take k).sum
 |0,_,_,_,_,_=>qR _
 |k+1,y,[],_,_,b=>by simp at b
 |k+1,y,z::Y,c,a,b=>by
  rw[kM]at a;have d:=Bo k z Y a.1 a.2 (by grind);have:=c z On
  grind
theorem ag5{T Y:gP}(h:List.Sublist T Y)(a:Y.Pairwise (·<= ·)):(Y.take T.length).sum<=T.sum:=by
 induction h with
 |slnil=>grind
 | @cons T Y y h b=>
   rw[kM]at a;exact Int.le_trans (Bo T.length y Y a.1 a.2 h.length_le) (b a.2)
 | @cons_cons T Y y h b=>
   grind
theorem uo(Y:gP):∀k,k<=Y.length->pC Y k=(Y.take k).sum
 |0,_=>by simp[pC]
 |k+1,h=>by rw[pC,uo Y k Oa,x0 Oa,List.sum_append];simp
theorem RU(k:Nat):Zg k=((k*(k-1)/2:Nat):Int):=by
 grind [Zg]
theorem Bp(i:Nat):Zg (i+1)=tL i:=by
 grind [RU,tL]
theorem LJ{l Y:gP}(j:Y.Perm l)(C:Y.Pairwise (·<= ·))(q:1<=l.length):Ha Y l.length= !BS l l.length (2^l.length):=by
 have J:Y.length=l.length:=j.length_eq;have M:pC Y l.length=l.sum:=by grind [uo,A5]
 have B:∀s,pC Y (zf s l.length)<=BC l s l.length:=λs=>by
  have e:=zu l s l.length (fZ _);rw[vA]at e;obtain⟨T,b,f⟩:=aek e j.symm;rw[<-wD l,<-wE l,<-b.length_eq,<-A5 b,uo Y _ f.length_le];exact ag5 f C
 have r:∀k,1<=k->k<=l.length->∃s,1<=s/\s<2^l.length/\zf s l.length=k/\BC l s l.length=pC Y k:=λk I h=>by
  obtain⟨T,b,f⟩:=aek (List.take_sublist k Y) j;obtain⟨s,e,D⟩:=ac4 l l.length T (fZ _) (by grind);have y:zf s l.length=k:=(by rw[<-wD l,D,b.length_eq,i8];omega);refine⟨s,?_,e,y,by grind [wE,A5,uo]⟩;rcases jz s with p|p
  ·exfalso;have:∀i,zf 0 i=0:=λi=>by
    induction i with
    |zero=>rfl
    |succ i E=>rw[zf,E];simp
   grind
  ·exact p
 cases c:Ha Y l.length with
 |true=>
  unfold Ha at c;rw[ia,pE,sO,<-RU]at c;have t:∀i,i<l.length->tL i<=pC Y (i+1):=λi g=>by
   refine gx λA=> ?_
   grind [AG]
  have z:∀k,k<=l.length->Zg k<=pC Y k:=λk h=>by
   cases k with
   |zero=>exact qR _
   |succ i=>grind [Bp]
  rw[Tg (λs q a=>by
   unfold BU;have K:=B s;have H:=z (zf s l.length) (LO s _);rw[gp Oa,kS];by_cases h:zf s l.length=l.length
   ·have v:=zu l s l.length (fZ _);rw[vA]at v;have G:JS l s l.length=l:=v.eq_of_length (by rw[wD,h]);have L:BC l s l.length=l.sum:=by grind [wE]
    grind
   grind)]
  rfl
 |false=>
  unfold Ha at c;have F:BS l l.length (2^l.length)=true:=by
   cases d:Iw Y l.length with
   |true=>
    obtain⟨i,g,a⟩:=iG.1 d;have g:=gC.1 g;have a:=jy a;obtain⟨s,n,o,w,x⟩:=r (i+1) Oa Oa;refine zP n o ?_;unfold BU;rw[w,x,Bp,gy a,Bool.true_or]
   |false=>
    rw[d,Bool.not_false,BH,kw,<-RU]at c;have t:tL (l.length-1)<=pC Y (l.length-1+1):=by
     refine gx λA=> ?_;rw[AG (i:=l.length-1) Oa Oa]at d;cases d
    rw[<-Bp,show l.length-1+1=l.length by omega]at t;obtain⟨s,n,o,w,x⟩:=r l.length q (fZ _);refine zP n o ?_;unfold BU
    grind
  grind
theorem aat(l:gP):BB l=Wz l:=by
 unfold BB Wz;split
 ·rfl
 ·split
  ·rfl
  ·split
   ·rfl
   ·obtain⟨e,c⟩:=Au (lt:=rg) (d:=0) (λa b h=>by grind [rg]) (λa b f g i=>by grind [rg]) l;rw[LJ e (c.imp λ{a b} h=>by grind [rg]) Oa]
def qd(n:Nat)(ll:lO):List (Nat->Nat):=ll.map λl=>Gm n (fL l)
theorem Ft(n:Nat)(ll:lO):(qd n ll).length=ll.length:=by simp[qd]
theorem acD{n:Nat}{ll:lO}{k:Nat}(h:k<ll.length):qd n (ll.take (k+1))=qd n (ll.take k)++[Gm n (fL (ll.getD k []))]:=by
 grind [qd,List.take_add_one]
theorem OM.mono{B a:Nat}{w:World}{v:Value}{l:List (Nat->Nat)}(h:OM B w v l)(J:a<=B):OM a w v l:=SV
structure GOk(n:Nat)(ll:lO):Prop where
 n1:1<=n
 n7:n<=7
 l4:ll.length<=4
 pm:∀l∈ll,Wh l n (fL l)
theorem ajd{n:Int}{ll:lO}(h:lF n ll=0):∃N:Nat,n=(N:Int)/\GOk N ll:=by
 obtain⟨⟨b,c⟩,a,d⟩:=CQ h;refine⟨n.toNat,by omega,by omega,by omega,a,λl e=> ?_⟩
 grind [IQ]
theorem GOk.mv{n:Nat}{ll:lO}(h:GOk n ll):∀m∈qd n ll,Mv n m:=by
 intro m b;obtain⟨l,a,rfl⟩:=gK.1 b;exact acG (h.pm l a).pm
theorem WY(n:Int)(v:Value)(ll:lO)(w:World)(a:RL w v ll)(b:lF n ll≠0):
 Calls prog 114 #[.int .i64 n,v] w λe h=>e= .returned (.tuple #[.slice none 0 0,.slice none 0 0,.int .i64 (lF n ll)])/\gm w h:=by
 have f:=gb (Al n v ll w a);obtain⟨i,j,N,rfl,k,o,g⟩:=a.open;have l:(lF n ll !=0)=true:=iT.2 b;clear b a g;generalize lF n ll=E at*;go_enter func114,ntmps114;go_wp2_with fail;refine f.out.mono ?_;rintro e p ⟨rfl,c⟩;have d:=gb c;clear c;go_wp2;go_ret3;exact⟨rfl,d.out⟩
theorem abh(n:Nat)(v:Value)(ll:lO)(w:World)(o:RL w v ll)(t:lF (n:Int) ll=0):
 Calls prog 114 #[.int .i64 n,v] w λe A=>(∃P z,e= .returned (.tuple #[P,z,.int .i64 0])/\OM w.heap.size A P (qd n ll)/\OM w.heap.size A z (GL n (qd n ll)))/\gm w A:=by
 have C:=gb (Al n v ll w o);obtain⟨n',am,f⟩:=ajd t;obtain rfl:n=n':=Oa;rw[t]at C;have U:=gb f;have ap:=gb (λj (b:gm w j)=>o.below b);obtain⟨aq,ar,N,rfl,hN,aw,G⟩:=o.open;have T:=gb G;have av:N<=4:=by rw[<-hN.out];exact f.l4
 have n1:=f.n1;have O:=f.n7;have Z:=gb (λ(i:Value)(l:gP)(j:World)(hu:Sl j i l)(af:Wh l n (fL l))=>XC i l n (fL l) j hu af n1 O);have ab:=gb (λk (h:k<N)=>acD (n:=n) (ll:=ll) (k:=k) ON)
 have aa:=gb (λk (h:k<N)=>f.pm (ll.getD k []) (by
  have h':k<ll.length:=ON
  grind))
 have ad:=gd (∀k,k<=N->(qd n (ll.take k)).length=k) (λk I=>by rw[Ft,i8,hN.out];omega);have V:=gd (qd n (ll.take 0)=[]) rfl;have Y:=gd (qd n (ll.take N)=qd n ll) (by rw[ie MJ]);clear o t f G am;go_enter func114,ntmps114;go_wp2_with fail;refine C.out.mono ?_;rintro e j ⟨rfl,E⟩;have S:=gb E;clear E;go_wp2_with fail;go_loopw [4,9,18,20,21,22,23,24,25,26,27] (λv4 _ y _ _ _ _ _ _ _ _ wr=>∃k:Nat,k<=N/\y= .int .i64 k/\OM w.heap.size wr v4 (qd n (ll.take k))/\gm w wr) (λ_ _ y _ _ _ _ _ _ _ _ _=>N-(intOf y).toNat)
 case atStart=>exact⟨0,ge _,rfl,by rw[V.out];exact OM.nil _ _,S.out⟩
 case round=>
  obtain⟨k,I,rfl,g,b⟩:=hrel;by_cases x:k<N
  ·have ak:(k:Int)<N:=(by omega);obtain⟨ah,ao,rfl,hg,F⟩:=T.out Oa;obtain⟨i,c1,Q⟩:=F k x;have R:Sl wr i (ll.getD k []):=Q.below b;have au:=(b.cell (p:=⟨ah,ao+k,none⟩) hg).trans c1;have X:=gb (Z.out i _ wr R (aa.out k x));have ac:=gb (ab.out k x);have al:(qd n (ll.take k)).length<=1000000000:=(by have:=ad.out k I;omega);have a:=gR g b;clear Q R c1 F g b;generalize Gm n (fL (ll.getD k []))=B at*;generalize qd n (ll.take k)=ae at*;have an:=Fx B;go_wp2_with fail;refine X.out.mono ?_;rintro e q ⟨rfl,d⟩;unfold Vk;rw[an];have s:=a.out.2.trans (d.mono a.out.2.size);have r:=gR (a.out.1.below d) s;have M:w.heap.size<=q.heap.size:=s.size;clear d s
   go_wp2_with (first
    |(refine yy B q _ _ 136 rfl rfl underlying136 info179 w.heap.size _ ae rfl r.out.1 rfl al M (hU.new q 179 (jP B)).range ((f0 _ _).alloc (fZ _) _) ?_
      intro g9 c9 w9 D H aj ai)
    |fail)
   have c:=gR D (r.out.2.grown H M (λag e=>(r.out.1.lt ag e).1));rw[<-ac.out]at c;clear D H aj ai;go_roundw
   case rel=>exact⟨k+1,by omega,by go_num,c.out.1,c.out.2⟩
   case measure=>exact gQ
  ·obtain rfl:k=N:=(by omega);have ak:¬(k:Int)<k:=Oa;rw[Y.out]at g;have K:(qd n ll).length<=1000000:=(by rw[Ft,hN.out];omega);have J:=aga n u4 (qd n ll) wr O g.rm U.out.mv K;have W:=gb J;have a:=gR g b;clear J g b K;go_wp2_with fail;refine W.out.mono ?_;rintro e q ⟨⟨z,rfl,L⟩,d⟩;have c:=ju (a.out.1.below d) (L.mono a.out.2.size) (a.out.2.trans (d.mono a.out.2.size));clear d L;go_wp2;go_ret3;exact⟨⟨_,_,rfl,c.out.1,c.out.2.1⟩,c.out.2.2⟩
section
def pZ(n:Nat)(x:Nat->Nat):gP:=(List.range n).map λi=>((x i:Nat):Int)
theorem rI(n:Nat)(x:Nat->Nat):(pZ n x).length=n:=by simp[pZ]
theorem TM{n:Nat}{x:Nat->Nat}{i:Nat}(h:i<n):(pZ n x)[i]?.getD 0=((x i:Nat):Int):=by simp[pZ,h]
theorem ai5(n:Nat):pZ n id=qP n:=rfl
theorem ai6{n:Nat}{x:Nat->Nat}(b:n<=12)(P:Mv n x):Wh (pZ n x) n x:=⟨rI n x,b,P.pm,λc a=>TM a⟩
theorem aaP{n:Nat}{x:Nat->Nat}{l:gP}(P:Mv n x)(Q:Wh l n (fL l)):tJ (pZ n x) l=pZ n (pY x (Gm n (fL l))):=by
 unfold tJ pZ;rw[jL];refine jn λi b=> ?_;have a:=P.pm.lt i (gC.1 b);simp only[Function.comp,iZ];rw[Q.at' _ a];simp[pY,Gm,a]
def tz(n:Nat)(l:List (Nat->Nat)):List Bool:=(List.range (lL n)).map λk=>l.any λx=>sE n x==k
theorem acw(n:Nat)(l:List (Nat->Nat)):(tz n l).length=lL n:=by simp[tz]
theorem acv{n:Nat}{l:List (Nat->Nat)}{x:Nat->Nat}(P:Mv n x)(a:∀y∈l,Mv n y):∃b,(tz n l)[sE n x]? =some b/\(b=true↔x∈l):=by
 refine⟨_,by simp[tz,Eb P.pm];rfl,?_⟩
 grind [FK]
theorem IB{n:Nat}{l:List (Nat->Nat)}{x:Nat->Nat}(P:Mv n x):tz n (l++[x])=(tz n l).set (sE n x) true:=by
 refine ib λk=> ?_
 grind [tz]
theorem alP(n:Nat):sE n id=0:=by
 have:∀i,i<=n->lK id n i=0:=by
  intro i
  induction i with
  |zero=>intro _;rfl
  |succ i b=>
   intro e;simp only[lK];rw[b Oa];have c:mr id n i=0:=by
    unfold mr;refine(lB n (h:=λ_=>0) λx _=> ?_).trans (uq n);rw[gh];rintro⟨a,d⟩;have:lj id i x=true:=pK.2 ⟨x,a,rfl⟩
    grind
   grind
 exact this n (fZ _)
theorem acx(n:Nat):tz n [id]=(List.replicate (lL n) false).set 0 true:=by
 rw[show[(id:Nat->Nat)]=[]++[id]from rfl,IB (ahJ n),alP];congr 1;refine jd (by simp[tz]) λi a b=>by simp[tz]
open Classical in
noncomputable def xJ(n:Nat)(ms:List (Nat->Nat)):List Bool:=(List.range (lL n)).map λk=>decide (sQ ms (zH n k))
theorem IA(n:Nat)(ms:List (Nat->Nat)):(xJ n ms).length=lL n:=by simp[xJ]
open Classical in
theorem acu{n:Nat}{ms l:List (Nat->Nat)}(c:∀m∈ms,Mv n m)(h:∀x,x∈l↔sQ ms x):tz n l=xJ n ms:=by
 unfold tz xJ;refine jn λk b=> ?_;have b:=gC.1 b;rw[lh,iG,iK];constructor
 ·rintro⟨x,a,e⟩;have e:sE n x=k:=(by grind);subst e;have a:=(h x).1 a;rw[ad9 (a.mv c)];exact a
 grind [adk]
theorem OL.lit1{b:Nat}{w:World}{u:Value}{l:gP}(h:OI b w u l)(B:Nat)(c:B<=b)(d:B<=w.heap.size):OL B (w.heap.size+1) (w.alloc (.cells #[u] 45)) (.slice (some ⟨w.heap.size,0,none⟩) 1 1) [l]:=by
 refine⟨[u],Ow.lit 45 B w #[u] 1 d rfl Oc,λk a=> ?_,rfl,λi e=> ?_⟩
 ·simp[Value.ownBlock]at a;omega
 ·obtain rfl:i=0:=(by grind);exact⟨(h.alloc _).mono c,λk a=>by have:=(h.lt k a).2;omega⟩
theorem NM(n:Nat)(v:Value)(ll:lO)(w:World)(B:RL w v ll)(bm:1<=n)(hn:n<=7)(hp:∀l∈ll,Wh l n (fL l))(bl:ll.length<=1000000):
 Calls prog 66 #[.int .i64 n,v] w λe w'=>(∃X,e= .returned X/\Ow 4 w.heap.size w' X ((xJ n (qd n ll)).map Value.bool))/\gm w w':=by
 have U:∀m∈qd n ll,Mv n m:=by
  intro m hm;obtain⟨l,B,rfl⟩:=gK.1 hm;exact acG (hp l B).pm
 have aN:=gb U;have ak:=gb (BI.start U);have al:=gb (λ(t:World)=>rL n t Oa);have an:=gb (λ(t:World)=>Jj n t Oa);have aT:=gb (λ(v u:Value)(l m:gP)(w:World) B hm s aX=>ag9 v u l m w B hm s aX);have aS:=gb (λ(v:Value)(x:Nat->Nat)(w:World)(hv:Sl w v (pZ n x))(aV:Mv n x)=>IN v (pZ n x) n x w hv (ai6 Oa aV));obtain⟨bd,be,N,rfl,hN,bh,ar⟩:=B.open;have aI:=gb ar
 have aR:=gd (∀j,j<N->Wh (ll.getD j []) n (fL (ll.getD j []))/\(qd n ll).getD j id=Gm n (fL (ll.getD j []))) (λj hj=>by
  have h':j<ll.length:=Uf
  grind [qd])
 have aa:=gd ((qd n ll).length=N) (by rw[Ft,hN.out]);have a1:=rJ n Oa;have a0:(0:Int)<((lL n:Nat):Int):=Oa;have am:=gb (acx n);have aL:=gb (λl M=>acu (n:=n) (ms:=qd n ll) (l:=l) U M);obtain⟨F,O⟩:∃F,lL n=F:=⟨_,rfl⟩;have E:=gb O;have aM:=gd (∀l,(tz n l).length=F) (λl=>by rw[acw,O]);rw[O]at am a1 a0;clear B ar hp U O;generalize xJ n (qd n ll)=MB at*
 have aJ:=gd (∀g,Ow 4 w.heap.size g (.slice (some ⟨w.heap.size,0,none⟩) F F) (List.replicate F (.bool false))->g.cell? ⟨w.heap.size,0,none⟩=some (.bool false)) (λg D=>by
  rw[D.cell 0 Oo]
  grind)
 go_enter func66,ntmps66;go_wp2_with fail;refine(al.out _).mono ?_;rintro e t ⟨rfl,rfl⟩;rw[E.out];go_wp2_with (at_make;refine nQ (w:=w) _ _ 93 4 (.bool false) 1 rfl rfl underlying93 info4 rfl Oc w.heap.size _ F rfl rfl rfl Oa (fZ _) ?_;intro g D aw aD;have aZ:g.cell? ⟨w.heap.size,0,none⟩=some (.bool false):=aJ.out g D;have av:=D.frozen 0);obtain⟨I,h⟩:=D.stored 0 (.bool true);have ae:gm w g:=(f0 _ _).grown aw (fZ _) (λaF M=>by cases M);have H:Below w.heap.size w (g.setCell ⟨w.heap.size,0,none⟩ (.bool true)):=ae.grown h ae.size (λaF M=>by grind);have J:Ow 4 w.heap.size (g.setCell ⟨w.heap.size,0,none⟩ (.bool true)) (.slice (some ⟨w.heap.size,0,none⟩) F F) ((tz n [id]).map Value.bool):=by
  rw[am.out,pG,sM];exact I
 have aE:w.heap.size<(g.setCell ⟨w.heap.size,0,none⟩ (.bool true)).heap.size:=gS aD h.size;have c:=ju J H aE;clear D aw I h ae H J aD aE aZ av;generalize g.setCell ⟨w.heap.size,0,none⟩ (.bool true)=w7 at*;refine(an.out _).mono ?_;rintro e Y ⟨⟨bq,rfl,V⟩,Q⟩;rw[<-ai5]at V;obtain⟨sa,sc,es⟩:=V.len;rw[rI]at es;subst es;have bg:=gS c.out.2.2 Q.size;have az:=OL.lit1 V (w.heap.size+1) (by have:=c.out.2.2;omega) Oa;have af:Below Y.heap.size Y (Y.alloc (.cells #[.slice sa n sc] 45)):=(f0 _ _).alloc (fZ _) _;have L:=oB az ((c.out.1.below Q).below af) (((c.out.2.1).trans (Q.mono c.out.2.1.size)).trans (af.mono Oa)) (show w.heap.size+1<=Y.heap.size+1 by omega);clear V Q az af al an c;go_wp2_with fail;go_loopw [8,9,10,11,12] (λv8 v9 _ _ _ wr=>∃(l:List (Nat->Nat))(i:Nat),v9= .int .i64 i/\Hid (BI n (qd n ll) l i 0)/\OL (w.heap.size+1) wr.heap.size wr v8 (l.map (pZ n))/\Ow 4 w.heap.size wr (.slice (some ⟨w.heap.size,0,none⟩) F F) ((tz n l).map Value.bool)/\gm w wr/\w.heap.size<wr.heap.size) (λ_ v9 _ _ _ _=>F+1-(intOf v9).toNat)
 case atStart=>exact⟨[id],0,rfl,ak.out,by rw[iV];exact L.out.1,L.out.2.1,L.out.2.2.1,by rw[iV];omega⟩
 case round=>
  clear L ak;obtain⟨l,i,rfl,b,f,a,d,k⟩:=hrel;obtain⟨la,lc,G⟩:=f.len;rw[gv]at G;subst G;have C:=b.out.len;rw[E.out]at C;have r:=b.out.il;by_cases ax:i<l.length
  ·have ah:(i:Int)<((l.length:Nat):Int):=(by omega);have HI:=oB f a d k;clear f a d k;go_wp2_with fail;go_loopw [8,10,11,12] (λv8 aj _ _ wr=>∃(l:List (Nat->Nat))(j:Nat),aj= .int .i64 j/\j<=N/\i<l.length/\Hid (BI n (qd n ll) l i j)/\OL (w.heap.size+1) wr.heap.size wr v8 (l.map (pZ n))/\Ow 4 w.heap.size wr (.slice (some ⟨w.heap.size,0,none⟩) F F) ((tz n l).map Value.bool)/\gm w wr/\w.heap.size<wr.heap.size) (λ_ aj _ _ _=>N-(intOf aj).toNat)
   case atStart=>exact⟨l,0,rfl,ge _,ax,b.out,HI.out.1,HI.out.2.1,HI.out.2.2.1,HI.out.2.2.2⟩
   case round=>
    clear HI b C r ah ax;obtain⟨l,j,rfl,hj,r,b,f,a,d,k⟩:=hrel;by_cases T:j<N
    ·have a2:(j:Int)<N:=(by omega);obtain⟨aW,bb,rfl,hg,hc⟩:=aI.out Oa;obtain⟨u,c1,s1⟩:=hc j T;obtain⟨og,oc,G,_,bn⟩:=f.form Oo;rw[gv]at G;subst G;obtain⟨u2,c2,s2⟩:=f.get i (by simpa using r);have C:=b.out.len;rw[E.out]at C;obtain⟨x,hx⟩:∃x,l.getD i id=x:=⟨_,rfl⟩;have ad:Mv n x:=(by rw[<-hx];exact b.out.mvI' r);have ba:(l.map (pZ n)).getD i []=pZ n x:=OK;rw[ba]at s2;have bf:=(d.cell (p:=⟨aW,bb+j,none⟩) hg).trans c1;have aG:=s1.below d;have aH:=s2.sl Dg;obtain⟨ac,ay⟩:=aR.out j T;have ai:=aaP ad ac;rw[<-ay]at ai;have aY:Mv n ((qd n ll).getD j id):=by
      have:j<(qd n ll).length:=(by rw[aa.out];exact T);exact b.out.mvM this
     have HT:=gb (λt (ap:gm wr t)=>aT.out u2 u (pZ n x) (ll.getD j []) t (aH.below ap) (aG.below ap) (by
      intro Z W;simp only[pZ,gK,gC]at W;obtain⟨bc,ht,rfl⟩:=W;have:=ad.pm.lt bc ht;rw[ac.len]
      omega) Dg)
     rw[ai]at HT;have aU:=gb hx;have ah:(i:Int)<((l.length:Nat):Int):=Oa;have HI:=oB f a d k;clear f a d k hc c1 s1 s2 aG aH hx ai ay ac;go_wp2_with fail;go_still_tail 8,Ob;go_wp2_with fail;refine(HT.out _ ((f0 _ _).drew)).mono ?_;rintro e y ⟨⟨X,rfl,s⟩,q⟩;have q:gm wr y:=((f0 _ _).drew).trans q;obtain⟨z,hz⟩:∃z,pY x ((qd n ll).getD j id)=z:=⟨_,rfl⟩;have P:Mv n z:=(by rw[<-hz];exact zd ad aY);have HZ:=gd (pY (l.getD i id) ((qd n ll).getD j id)=z) (by rw[aU.out,hz]);have s:OI wr.heap.size y X (pZ n z):=OK;obtain⟨ra,rc,er⟩:=s.len;rw[rI]at er;subst er;have a3:∀Z∈l,Mv n Z:=λZ W=>(b.out.gen Z W).mv aN.out;have aB:=q.size;have ab:=gb (aS.out _ z y (s.sl Dg) P);rw[show lK z n n=sE n z from rfl]at ab;obtain⟨bz,aq,ag⟩:=acv P a3;have a6:sE n z<F:=(by rw[<-E.out];exact Eb P.pm);have S:=HI.out.2.1.below q;have bi:y.cell? ⟨w.heap.size,sE n z,none⟩=some (.bool bz):=by
      rw[S.cell _ (by rw[gv,aM.out];exact a6),gY,aq];rfl
     have av:=S.frozen (sE n z);have bp:((sE n z:Nat):Int)<((F:Nat):Int):=Oa;have o:=ju (HI.out.1.below q) S (HI.out.2.2.1.trans (q.mono HI.out.2.2.1.size));have HR:=gb s;have aC:=HI.out.2.2.2;have aK:=gb (IB (l:=l) P);clear q hz S s HT aq;generalize sE n z=K at*;by_cases a:z∈l
     ·obtain rfl:bz=true:=ag.2 a;have A:=gb (b.out.there (by rw[HZ.out];exact a));clear ag a;go_wp2_with fail;refine ab.out.mono ?_;rintro e w3 ⟨rfl,rfl⟩;go_wp2;go_roundw
      case rel=>exact⟨l,j+1,by go_num,by omega,r,A.out,o.out.1.mono (fZ _) aB,o.out.2.1,o.out.2.2,gS aC aB⟩
      case measure=>exact gQ
     ·obtain rfl:bz=false:=OK;have A:=gb (b.out.add r (by rw[aa.out];exact T) (by rw[HZ.out];exact a));rw[HZ.out]at A;obtain⟨I,h⟩:=o.out.2.1.stored K (.bool true);have a4:=o.out.1.kept h (λaF e=> .inl (by cases e;omega));have aA:=HR.out.kept h (.inr (λe=>by have:=(HR.out.lt _ e).1;omega));have H:=o.out.2.2.grown h o.out.2.2.size (λao e=>by simp_all);have a7:w.heap.size+1<=(y.setCell ⟨w.heap.size,K,none⟩ (.bool true)).heap.size:=(by have:=h.size;omega);have a8:wr.heap.size<=(y.setCell ⟨w.heap.size,K,none⟩ (.bool true)).heap.size:=OK;have J:Ow 4 w.heap.size (y.setCell ⟨w.heap.size,K,none⟩ (.bool true)) (.slice (some ⟨w.heap.size,0,none⟩) F F) ((tz n (l++[z])).map Value.bool):=by
       rw[aK.out,pG];exact I
      have c:=ju J H aA;obtain⟨vs,o1,o2,o3,o4⟩:=a4;have a9:vs.length<=1000000000000:=(by rw[o3,gv];omega);have aO:=gb o2;have aP:=gb o3;have aQ:=gb o4;clear ag a I h aA H J o2 o3 o4;go_wp2_with fail;refine ab.out.mono ?_;rintro e w3 ⟨rfl,rfl⟩;go_wp2_with (at_builtin;refine jt (w3.setCell ⟨w.heap.size,K,none⟩ (.bool true)) _ _ 46 45 (.slice none 0 0) 24 rfl rfl underlying46 info45 rfl Oc (w.heap.size+1) (.slice (some ⟨og,0,none⟩) l.length oc) vs rfl o1 rfl rfl a9 a7 ?_;intro g9 c9 w9 a5 R bj bk);go_roundw
      case rel=>
       have bo:=OL.snoc o1 aO.out aP.out aQ.out c.out.2.2 Oa a5 R;refine⟨l++[z],j+1,by go_num,by omega,by simp;omega,A.out,by simp_all,c.out.1.kept R (.inr ?_),c.out.2.1.grown R c.out.2.1.size (λao e=>by have:=(o1.lt ao e).1;omega),gS aC (gt a8 R.size)⟩;exact QH
      case measure=>exact gQ
    ·obtain rfl:j=N:=(by omega);have a2:¬(j:Int)<j:=Oa;have A:=gb ((show BI n (qd n ll) l i (qd n ll).length by rw[aa.out];exact b.out).next r);have HI:=oB f a d k;have C:=b.out.len;rw[E.out]at C;clear f a d k;go_wp2;go_roundw
     case rel=>exact⟨l,i+1,by go_num,A.out,HI.out.1,HI.out.2.1,HI.out.2.2.1,HI.out.2.2.2⟩
     case measure=>exact gQ
  ·obtain rfl:i=l.length:=(by omega);have ah:¬((l.length:Nat):Int)<((l.length:Nat):Int):=Oa;have au:=aL.out l b.out.done;rw[au]at a;have HI:=gR a d;clear f a d k au;exact DX
end
section
def vr(n:Nat)(bs:List Bool)(k:Nat):lO:=((List.range k).filter λi=>bs.getD i false).map λi=>pZ n (zH n i)
theorem agX{n:Nat}{bs:List Bool}{k:Nat}(h:bs.getD k false=true):vr n bs (k+1)=vr n bs k++[pZ n (zH n k)]:=by
 unfold vr;exact UB
theorem aj2{n:Nat}{bs:List Bool}{k:Nat}(h:bs.getD k false=false):vr n bs (k+1)=vr n bs k:=by
 unfold vr;exact UB
theorem agW(n:Nat)(bs:List Bool)(k:Nat):(vr n bs k).length<=k:=by
 grind [vr]
open Classical in
theorem aj1(n:Nat)(ms:List (Nat->Nat)):vr n (xJ n ms) (lL n)=(GL n ms).map (pZ n):=by
 unfold vr GL;rw[jL];congr 1
 grind [List.filter_congr,xJ]
theorem ai7{n k:Nat}(a:k<lL n):lR (yK n k n)=pZ n (zH n k):=by
 rw[acX a n (fZ _)];unfold lR pZ;exact OK
theorem XL(n k:Nat)(w:World)(g:n<=7)(c:k<lL n):
 Calls prog 156 #[.int .i64 n,.int .i64 k] w λe b=>(∃a,e= .returned (.tuple #[a,.int .i64 0])/\OI w.heap.size b a (pZ n (zH n k)))/\gm w b:=by
 refine(Wg n (k:Int) w Oa).mono ?_;rintro e b ⟨h|h,f⟩
 ·exact Oa
 ·obtain⟨_,a,rfl,d⟩:=h;rw[iZ,ai7 c]at d
  grind
theorem Xo(n:Nat)(v:Value)(bs:List Bool)(w:World)(N:Rd w v (bs.map Value.bool))(hn:n<=7)(K:bs.length=lL n):
 Calls prog 67 #[.int .i64 n,v] w λe y=>(∃Q,e= .returned Q/\OL w.heap.size y.heap.size y Q (vr n bs (lL n)))/\gm w y:=by
 have B:=gb (λ(k:Nat)(J:k<lL n)(z:World)=>XL n k z hn J);have aa:=gb (λz (a:gm w z)=>N.below a);obtain⟨ae,ap,rfl,E,q⟩:=N;have ah:=rJ n Oa;have HY:=gb (λk (h:bs.getD k false=true)=>agX (n:=n) (bs:=bs) (k:=k) h);have V:=gb (λk (h:bs.getD k false=false)=>aj2 (n:=n) (bs:=bs) (k:=k) h);have ac:=gb (agW n bs);have ab:=gd (vr n bs 0=[]) rfl;have ag:=q;rw[gv,K]at q E⊢
 have A:=gd (0<lL n->∃b g,ae=some ⟨b,g,none⟩/\b<w.heap.size/\∀i,i<lL n->w.cell? ⟨b,g+i,none⟩=some (.bool (bs.getD i false))) (λh=>by
  grind)
 have T:=gb (λk=>rI n (zH n k));clear q K ag aa;obtain⟨F,D⟩:∃F,lL n=F:=⟨_,rfl⟩;rw[D]at B A ah E⊢;clear D;generalize vr n bs=ad at*;go_enter func67,ntmps67;go_wp2_with fail;go_loopw [5,6,7,8] (λv5 x _ _ wr=>∃k:Nat,k<=F/\x= .int .i64 k/\OL w.heap.size wr.heap.size wr v5 (ad k)/\gm w wr) (λ_ x _ _ _=>F-(intOf x).toNat)
 case atStart=>exact⟨0,ge _,rfl,by rw[ab.out];exact OL.nil _ _ _,f0 _ _⟩
 case round=>
  obtain⟨k,J,rfl,d,a⟩:=hrel;by_cases L:k<F
  ·have ai:(k:Int)<F:=(by omega);obtain⟨b,g,rfl,af,hc⟩:=A.out Oa;have G:=(a.cell (p:=⟨b,g+k,none⟩) af).trans (hc k L);cases c:bs.getD k false with
   |false=>
    rw[c]at G;have j:=gb (V.out k c);have HI:=gR d a;clear d a c;go_wp2;go_roundw
    case rel=>exact⟨k+1,by omega,by go_num,by rw[j.out];exact HI.out.1,HI.out.2⟩
    case measure=>exact gQ
   |true=>
    rw[c]at G;have j:=gb (HY.out k c);have W:=gb (B.out k L wr);have U:=gb (T.out k);have au:=ac.out k;have HI:=gR d a;clear d a c;generalize pZ n (zH n k)=el at*;go_wp2_with fail;refine W.out.mono ?_;rintro e S ⟨⟨u,rfl,r⟩,f⟩;have aj:=HI.out.1.below f;have o:=HI.out.2.trans (f.mono HI.out.2.size);obtain⟨ua,uc,C⟩:=r.len;rw[U.out]at C;subst C;obtain⟨R,s,O,P,t⟩:=aj;have ao:R.length<=1000000000000:=Oa;have M:=f.size;have am:w.heap.size<=S.heap.size:=o.size;have X:=gb (λk h=>gS (O k h) M);have Y:=gb P;have Z:=gb (λi I=>And.intro (t i I).1 (λk h=>gS ((t i I).2 k h) M));have l:=gR r o;have an:=HI.out.2.size;clear r f o O P t;go_wp2_with (at_builtin;refine jt S _ _ 46 45 (.slice none 0 0) 24 rfl rfl underlying46 info45 rfl Oc w.heap.size _ R rfl s rfl rfl ao am ?_;intro g9 c9 w9 al H aq ar);go_roundw
    case rel=>
     have ak:=OL.snoc s X.out Y.out Z.out l.out.1 an al H;exact⟨k+1,by omega,by go_num,by rw[j.out];exact ak,l.out.2.grown H l.out.2.size (λb e=>by have:=(s.lt b e).1;omega)⟩
    case measure=>exact gQ
  ·obtain rfl:k=F:=(by omega);have ai:¬(k:Int)<k:=Oa;have HI:=gR d a;clear d a;exact DX
end
theorem Sl.elFix{n:Nat}{w:World}{v:Value}{f:Nat->Nat}(h:Sl w v (pZ n f))(k:0<n):∃b o c,v= .slice (some ⟨b,o,none⟩) n c/\∀a,gm w a->∀q,q<n->a.cell? ⟨b,o+q,none⟩=some (.int .i64 ((f q:Nat):Int)):=by
 obtain⟨l,c,rfl,_,d⟩:=h.out;rw[rI]at d⊢;obtain⟨b,o,rfl,i,g⟩:=d k;refine⟨b,o,c,rfl,λa j q e=> ?_⟩;rw[j.cell (p:=⟨b,o+q,none⟩) i,g q e,gc,TM e]
theorem XO(n:Int)(v:Value)(ll:lO)(w:World)(a:RL w v ll)(b:lF n ll≠0):
 Calls prog 43 #[.int .i64 n,v] w λe h=>e= .returned (.tuple #[.int .i64 0,.int .i64 (lF n ll)])/\gm w h:=by
 have f:=gb (WY n v ll w a b);obtain⟨i,j,N,rfl,k,l,g⟩:=a.open;clear b a g;generalize lF n ll=E at*;go_enter func43,ntmps43;go_wp2_with fail;refine f.out.mono ?_;rintro e o ⟨rfl,c⟩;have d:=gb c;clear c;go_wp2;go_ret2;exact⟨rfl,d.out⟩
theorem acW(n:Nat)(v:Value)(ll:lO)(w:World)(a:RL w v ll)(b:lF (n:Int) ll=0):
 Calls prog 43 #[.int .i64 n,v] w λe l=>e= .returned (.tuple #[.int .i64 ((GL n (qd n ll)).length:Nat),.int .i64 0])/\gm w l:=by
 have h:=gb (abh n v ll w a b);obtain⟨o,r,N,rfl,s,t,k⟩:=a.open;clear b a k;generalize GL n (qd n ll)=L at*;go_enter func43,ntmps43;go_wp2_with fail;refine h.out.mono ?_;rintro e z ⟨⟨y,x,rfl,f,d⟩,c⟩;obtain⟨p,c2,i⟩:=d.len;subst i;obtain⟨q,c3,j⟩:=f.len;subst j;have g:=gb c;clear c f d;go_wp2;go_ret2;exact⟨rfl,g.out⟩
section
open Go.Shelf
def abK:Ren:=⟨λx=>match x with|6=>256|15=>282|14=>285|28=>310|29=>296|20=>312|21=>313|22=>314|23=>315|24=>316|25=>317|26=>318|27=>319|46=>337|47=>333|48=>334|49=>338|50=>339|57=>344|n=>n,λx=>match x with|22=>46|24=>45|25=>227|3=>3|39=>126|0=>0|53=>160|55=>188|4=>4|46=>278|45=>277|50=>77|5=>5|9=>9|66=>295|70=>299|76=>307|77=>198|n=>n,λn=>n⟩
theorem alc:SlLaysF.n6 prog abK where
 mixed:=Ob
 f6:=⟨(f256).name,by kernel_rfl,jF func256⟩
 f14:=⟨(f285).name,by kernel_rfl,jF func285⟩
 f15:=jF func282
 f20:=⟨(f312).name,by kernel_rfl,jF func312⟩
 f21:=⟨(f313).name,by kernel_rfl,jF func313⟩
 f22:=⟨(f314).name,by kernel_rfl,jF func314⟩
 f23:=⟨(f315).name,by kernel_rfl,jF func315⟩
 f24:=⟨(f316).name,by kernel_rfl,jF func316⟩
 f25:=⟨(f317).name,by kernel_rfl,jF func317⟩
 f26:=⟨(f318).name,by kernel_rfl,jF func318⟩
 f27:=⟨(f319).name,by kernel_rfl,jF func319⟩
 f28:=jF func310
 f29:=jF func296
 f46:=⟨(f337).name,by kernel_rfl,jF func337⟩
 f47:=jF func333
 f48:=jF func334
 f49:=⟨(f338).name,by kernel_rfl,jF func338⟩
 f50:=⟨(f339).name,by kernel_rfl,jF func339⟩
 f57:=⟨(f344).name,by kernel_rfl,jF func344⟩
 t0:=underlying0
 a0:=isAgg0
 z0:=sizeOf0
 v0:=zeroValue0
 t3:=underlying3
 a3:=isAgg3
 z3:=sizeOf3
 v3:=zeroValue3
 t4:=underlying4
 a4:=isAgg4
 z4:=sizeOf4
 v4:=zeroValue4
 t5:=underlying5
 a5:=isAgg5
 z5:=sizeOf5
 v5:=zeroValue5
 t9:=underlying9
 a9:=isAgg9
 z9:=sizeOf9
 v9:=zeroValue9
 t22:=underlying46
 a22:=isAgg46
 z22:=sizeOf46
 v22:=zeroValue46
 a24:=isAgg45
 z24:=sizeOf45
 t25:=underlying227
 a25:=isAgg227
 z25:=sizeOf227
 v25:=zeroValue227
 t39:=underlying126
 a39:=isAgg126
 z39:=sizeOf126
 v39:=zeroValue126
 t45:=underlying277
 a45:=isAgg277
 z45:=sizeOf277
 v45:=zeroValue277
 t46:=underlying278
 a46:=isAgg278
 z46:=sizeOf278
 v46:=zeroValue278
 t50:=underlying77
 a50:=isAgg77
 z50:=sizeOf77
 v50:=zeroValue77
 t53:=underlying160
 a53:=isAgg160
 z53:=sizeOf160
 v53:=zeroValue160
 t55:=underlying188
 a55:=isAgg188
 z55:=sizeOf188
 v55:=zeroValue188
 t66:=underlying295
 a66:=isAgg295
 z66:=sizeOf295
 v66:=zeroValue295
 t70:=underlying299
 a70:=isAgg299
 z70:=sizeOf299
 v70:=zeroValue299
 t76:=underlying307
 a76:=isAgg307
 z76:=sizeOf307
 v76:=zeroValue307
 t77:=underlying198
 a77:=isAgg198
 z77:=sizeOf198
 v77:=zeroValue198
open Go.Sort Go.Lib
def cfN(n:Nat)(x y:Nat->Nat):Int:=match(List.range n).find? (λi=> !(x i==y i))with
 |none=>0
 |some i=>if x i<y i then-1 else 1
theorem GX{n:Nat}{x y:Nat->Nat}(h:∀i,i<n->x i=y i):cfN n x y=0:=by
 grind [cfN]
theorem GY{n:Nat}{x y:Nat->Nat}{k:Nat}(a:k<n)(h:∀i,i<k->x i=y i)(b:x k≠y k):cfN n x y=if x k<y k then-1 else 1:=by
 grind [cfN,List.find?_range_eq_some]
theorem ta(n:Nat)(x y:Nat->Nat):cfN n x y<0↔oU n x y:=by
 rcases p4 (f:=x) (g:=y) n with h|⟨k,h1,h2,a⟩
 ·rw[GX h];exact Kn
 ·rw[GY h1 h2 a];exact PN
theorem adx(n:Nat)(x y:Nat->Nat)(a g c1 b h c2:Nat)(w:World)(v:n<=7)(d:∀H,H<n->w.cell? ⟨a,g+H,none⟩=some (.int .i64 ((x H:Nat):Int)))(f:∀H,H<n->w.cell? ⟨b,h+H,none⟩=some (.int .i64 ((y H:Nat):Int))):
 Calls prog 249 #[.slice (some ⟨a,g,none⟩) n c1,.slice (some ⟨b,h,none⟩) n c2] w λe r=>e= .returned (.int .i64 (cfN n x y))/\∃ai,r=w.drewN ai:=by
 have HX:=gb d;have HY:=gb f;have HC:=gb (λ(i l:Int)(Z:World)=>CE i l Z);have HN:=gb (GX (n:=n) (x:=x) (y:=y));have HS:=gb (λk (c:k<n) o q=>GY (x:=x) (y:=y) (k:=k) c o q);clear d f;generalize cfN n x y=al at*;go_enter func249,ntmps249;go_wp2_with fail;go_loopw [4,5,6,7,8,11] (λ_ _ _ _ _ H s=>∃k ai:Nat,k<=n/\H= .int .i64 k/\Hid (∀j,j<k->x j=y j)/\s=w.drewN ai) (λ_ _ _ _ _ H _=>n-(intOf H).toNat)
 case atStart=>exact⟨0,0,by omega,rfl,gb (λj hj=>by omega),rfl⟩
 case round=>
  obtain⟨k,ai,c,rfl,HE,rfl⟩:=hrel;by_cases ap:k<n
  ·have p:(k:Int)<n:=(by omega);have t:¬(n:Int)<=k:=Oa;exact Pd
  ·have p:¬(k:Int)<n:=(by omega);exact Qs
end
section
open Go.Shelf Go.Sort Go.Lib
section
variable {vs:np} {fs:List (Nat->Nat)} {n:Nat}
def wk(vs:np)(i:Nat):Value:=vs.getD (min i (vs.length-1)) undef
def yG(fs:List (Nat->Nat))(i:Nat):Nat->Nat:=fs.getD (min i (fs.length-1)) id
end
theorem Fb{a:Type}[Inhabited a](enc:a->Value){w:World}{g n:Nat}{os:Array Obj}{b:Array Value}{e:TypeId}{c:Nat×Nat}(d:Array a)(f:w.heap[g]? =some (.cells b e c)):
 (sortWorld enc w g 0 n d os).heap[g]? =some (.cells (putCells enc 0 d b) e c):=by
 have h:g<w.heap.size:=(gZ.1 f).1;unfold sortWorld;rw[aet _ _ (by simpa using h)];simp[putRow,mapBlock,Sort.ahead,x3,f,onCells]
theorem sx{a:Type}[Inhabited a](enc:a->Value){w:World}{g n:Nat}{os:Array Obj}(d:Array a):w.grownBy (sortWorld enc w g 0 n d os) (some g):=by
 unfold sortWorld;exact M5
theorem Bm{a:Type}[Inhabited a](enc:a->Value)(bV:Array Value)(d:Array a)(h:d.size<=bV.size):(putCells enc 0 d bV).toList.take d.size=d.toList.map enc:=by
 apply ib;intro j;by_cases hj:j<d.size
 ·exact US
 grind
end
section
open Go.Shelf Go.Sort Go.Lib
theorem alQ(n:Nat)(b:List (Nat->Nat)):SWO (ltOf λi j=>cfN n (yG b i) (yG b j)) where
 irrefl x:=gp (by grind [ta,AA])
 trans x y z h1 h2:=gy ((ta _ _ _).2 (xG ((ta _ _ _).1 (jy h1)) ((ta _ _ _).1 (jy h2))))
 ntrans x y z h1 h2:=gp (λh=>AB (λa=>mT h1 ((ta _ _ _).2 a)) (λa=>mT h2 ((ta _ _ _).2 a)) ((ta _ _ _).1 h))
theorem ag8(n:Nat)(x y:Nat->Nat)(v u:Value)(w:World)(t:1<=n)(h:n<=7)(d:Sl w v (pZ n x))(b:Sl w u (pZ n y)):
 Calls prog 257 #[v,u] w λe s=>e= .returned (.int .i64 (cfN n x y))/\∃q,s=w.drewN q:=by
 obtain⟨o,r,p,rfl,f⟩:=d.elFix Oa;obtain⟨j,l,k,rfl,c⟩:=b.elFix Oa;have g:=gb (adx n x y o r p j l k w h (λi a=>f w (f0 _ _) i a) (λi a=>c w (f0 _ _) i a));clear d b f c;generalize cfN n x y=A at*;go_enter func257,ntmps257;go_wp2_with fail;refine g.out.mono ?_;rintro e z ⟨rfl,q,rfl⟩;go_wp2;go_ret;exact⟨rfl,_,rfl⟩
theorem ad8(n:Nat)(a:List (Nat->Nat))(B U d f:Nat)(w:World)(ad:1<=n)(hn:n<=7)(h0:0<a.length)(al:a.length<=1000000)(h:OL B U w (.slice (some ⟨d,0,none⟩) a.length f) (a.map (pZ n))):
 Calls prog 256 #[.slice (some ⟨d,0,none⟩) a.length f,.func (.func 257) #[] #[]] w λp A=>
  p= .returned (.tuple #[])/\∃s:List (Nat->Nat),s.Perm a/\s.Pairwise (λC P=>¬oU n P C)/\OL B U A (.slice (some ⟨d,0,none⟩) a.length f) (s.map (pZ n))/\w.grownBy A (some d):=by
 obtain⟨b,o,o2,o3,r⟩:=h;rw[gv]at o3 r;rcases o.2 with⟨V,_⟩|⟨t,Q,ai,hv,Y,G,am,Z,aa,ht⟩
 ·cases V
 obtain⟨rfl,_,rfl⟩:d=t/\a.length=b.length/\f=Q:=by grind
 have H:∀i,i<a.length->(a.map (pZ n)).getD i []=pZ n (a.getD i id):=λi l=>by simp[l]
 have T:∀D w,(callFunc 257 D).run prog w= .ok (.enter 257 D) w:=enters_of func257 Ob rfl;have aj:∀j,j<a.length->w.cell? ⟨d,j,none⟩=b[j]? :=λj z=>o.cell j Oa;have ak:∀j,j<a.length->wk b j=b.getD j undef:=λj z=>by grind [wk]
 have X:Holds (wk b) w d 0 (Array.range a.length):=by
  intro j z;have J:j<a.length:=(by grind);refine⟨?_,by rw[iL];exact o.frozen j⟩
  grind
 have ae:∀x:Nat,(wk b x).oneCell'=true:=λx=>by
  unfold wk;have g:min x (b.length-1)<a.length:=Oa;have:=(r _ g).1;obtain⟨C,ah,p⟩:=this.len;rw[p];rfl
 have N:=Any.slices_SortFunc alc (wk b) ae (λi j=>cfN n (yG a i) (yG a j)) (alQ n a) 257 #[] d 0 f (Array.range a.length) w T (CmpReads.lays λm k E L x O=>by
  have q:=sx (wk b) (w:=w) (g:=d) (n:=m) (os:=k) E;have K:∀x,Sl (sortWorld (wk b) w d 0 m E k) (wk b x) (pZ n (yG a x)):=λx=>by
   have g:min x (b.length-1)<a.length:=Oa;have e:=(r _ g).1;rw[H _ g]at e
   have v:=e.kept q (by
    have:=kA o e
    simpa [Value.ownBlock]using this)
   unfold wk yG;rw[show min x (a.length-1)=min x (b.length-1)by omega];exact v.sl Dg
  exact ag8 n (yG a x) (yG a O) _ _ _ ad hn (K x) (K O)) X (gZ.1 G).1 Oo
 rw[show(Array.range a.length).size=a.length by simp]at N;have ag:Calls prog 256 #[.slice (some ⟨d,0,none⟩) a.length f,.func (.func 257) #[] #[]] w _:=N;refine ag.mono ?_;rintro p A ⟨rfl,c,m,k,⟨ao,_,an⟩,L,rfl⟩;have y:c.size=a.length:=by grind
 have af:c.toList.Perm (List.range a.length):=by
  grind [Array.extract_eq_self_of_le]
 have g:∀i∈c.toList,i<a.length:=λi l=>gC.1 (af.mem_iff.1 l);have q:=sx (wk b) (w:=w) (g:=d) (n:=m) (os:=k) c;have ap:(List.range a.length).map (yG a)=a:=by
  refine ib λi=> ?_
  grind [yG]
 refine⟨rfl,c.toList.map (yG a),?_,?_,?_,q⟩
 ·grind
 ·rw[nu,Zq];intro i j l z ac;have F:=L i j (ge _) ac (by grind);have I:i<c.size:=Oa;have J:j<c.size:=Oa;rw[Gj _ i I,Gj _ j J]at F;have W:=mT F;rw[ta]at W
  grind
 ·refine⟨c.toList.map (wk b),?_,o2,by simp[y],λi l=> ?_⟩
  ·have ab:(c.toList.map (wk b)).length=a.length:=(by simp[y]);unfold Ow;rw[ab];refine⟨by omega,.inr ⟨d,f,_,rfl,Y,Fb _ c G,by omega,Z,by simp[putCells,aa],?_⟩⟩;rw[qT,<-y]
   grind [Bm]
  ·have I:i<c.size:=(by grind);have M:=g (c.toList[i]' Oa) (iH _);have R:(c.toList.map (wk b)).getD i undef=b.getD (c.toList[i]' Oa) undef:=by
    grind
   have S:((c.toList.map (yG a)).map (pZ n)).getD i []=pZ n (a.getD (c.toList[i]' Oa) id):=by
    grind
   rw[R,S];obtain⟨e,v⟩:=r _ M;rw[H _ M]at e
   exact⟨e.kept q (by
    have:=kA o e
    simpa [Value.ownBlock]using this),v⟩
end
section
attribute [local go_sem] Oper.semAt_some
structure lp(B:Nat)(W W':World):Prop where
 size:W.heap.size<=W'.heap.size
 same:∀(k:Nat)(o:Obj),B<=k->W.heap[k]? =some o->o.isCells=true->W'.heap[k]? =some o
theorem lp.refl(B:Nat)(W:World):lp B W W:=⟨fZ _,λ_ _ _ h _=>h⟩
theorem lp.trans{B:Nat}{X Y Z:World}(h:lp B X Y)(k:lp B Y Z):lp B X Z:=⟨gt h.size k.size,λi o a c b=>k.same i o a (h.same i o a c b) b⟩
theorem lp.drew{B:Nat}{X Y:World}(h:lp B X Y):lp B X Y.drew:=⟨h.size,h.same⟩
theorem BX{W:World}{a:Addr}{v:Value}(h:W.cell? a=some v):∃o:Obj,W.heap[a.block]? =some o/\o.isCells=true:=by
 unfold World.cell? at h;cases b:W.heap[a.block]? with
 |none=>grind
 |some o=>exact⟨o,rfl,by cases o<;>simp_all [Obj.isCells]⟩
theorem lp.cell{B:Nat}{W a:World}{p:Addr}{v:Value}(h:lp B W a)(e:B<=p.block)(b:W.cell? p=some v):a.cell? p=some v:=by
 obtain⟨o,c,d⟩:=BX b;exact(nW ((h.same _ o e c d).trans c.symm)).trans b
theorem lp.put{B:Nat}(W:World)(l:Nat)(o b:Obj)(h:W.heap[l]? =some o)(d:o.isCells=false):lp B W (W.putObj l b):=
 ⟨by simp,λk g f a c=>by
   have e:k≠l:=by
    grind
   exact(ld e).trans a⟩
theorem lp.setCell{B:Nat}(W:World)(a:Addr)(v:Value)(h:a.block<B):lp B W (W.setCell a v):=
 ⟨by simp_all,λk o d b c=>(kr W a v k Oa).trans b⟩
theorem XW(k:Nat):Fence.wide.room k:=λd h=>Sb
theorem RoundIn.wide{m b:Nat}{P:Program}{l:Nat}{f:FuncId}{tmps:Array Value}{assign body:Code}{w:World}{R:Ending->World->Prop}
 (h:RoundIn Fence.wide m P l f tmps assign body w R):RoundIn Fence.wide b P l f tmps assign body w R:=⟨h.1,λc a _=>h.2 c a (XW _)⟩
theorem YieldAt.wide{m:Nat}(d:Nat){P:Program}{l:Nat}{args:Array Value}{W:World}{R:Ending->World->Prop}(h:YieldAt Fence.wide m P l args W R):YieldAt Fence.wide d P l args W R:=by
 obtain⟨a,e,assign,body,c,b⟩:=h;exact⟨a,e,assign,body,c,RoundIn.wide b⟩
structure ChB(B l P yb pb cb:Nat)(W:World):Prop where
 y:W.cell? ⟨yb,0,none⟩=some (.func (.yield l) #[] #[])
 p:W.cell? ⟨pb,0,none⟩=some (.int .i64 P)
 c:W.cell? ⟨cb,0,none⟩=some (.func (.func 254) #[] #[.pointer (some ⟨yb,0,none⟩),.pointer (some ⟨pb,0,none⟩),.pointer (some ⟨cb,0,none⟩)])
 by_:B<=yb
 bp:B<=pb
 bc:B<=cb
theorem ChB.keep{B l P d c b:Nat}{W a:World}(h:ChB B l P d c b W)(k:lp B W a):ChB B l P d c b a:=
 ⟨k.cell h.by_ h.y,k.cell h.bp h.p,k.cell h.bc h.c,h.by_,h.bp,h.bc⟩
def ah2(B:Nat)(J c:gA->World->Prop)(b all:gA)(W:World)(e:Ending)(a:World):Prop:=
 (e= .returned (.bool true)/\J (b++all) a/\lp B W a)\/(e= .returned (.bool false)/\∃q,q<+:all/\c (b++q) a)
theorem WB(B l P D C o N:Nat)(hP:P<=40)(J v:gA->World->Prop)(M:∀b W,J b W->J b W.drew)
 (O:∀b x W,x<2^40->J b W->b.length<N->YieldAt Fence.wide 0 prog l #[py x] W λh e=>(h= .returned (.bool true)/\J (b++[x]) e/\lp B W e)\/(h= .returned (.bool false)/\v (b++[x]) e)):
 ∀(t a s:Nat)(b:gA)(W:World),a<=P->t<=4->s<2^40->ChB B l P D C o W->J b W->b.length+(oz P t a s).length<=N->
  Calls prog 254 #[.int .i64 a,.int .i64 t,py s,.pointer (some ⟨D,0,none⟩),.pointer (some ⟨C,0,none⟩),.pointer (some ⟨o,0,none⟩)] W (ah2 B J v b (oz P t a s) W):=by
 intro t
 induction t with
 |zero=>
  intro a s b W ha ht Q k y hN;have al:=O b s W Q y (by grind [oz]);have c1:=k.y;obtain⟨fn,aq,assign,body,hy,hR⟩:=al;have HR:=gb hR;clear O hR M k y;refine pL.1 (aeo (F:=Fence.wide) (n:=0) func254 rfl trivial ?_ rfl);simp only[ntmps254,jT,iP,jk,Nat.reduceAdd,Nat.reduceSub,lX,lY,nw,mt,ko,jD];unfold py at*;gi_wp2;refine⟨rfl,HR.out.mono ?_⟩;rintro h W2 (⟨rfl,c,i⟩|⟨rfl,c⟩)
  ·have H:=gR c i;clear c i;gi_wp2;go_ret;exact .inl ⟨rfl,by rw[oz];exact H.out.1,H.out.2⟩
  ·have H:=gb c;clear c;gi_wp2;go_ret;exact .inr ⟨rfl,[s],by rw[oz];grind,H.out⟩
 |succ t ih=>
  intro a s b W ha ht Q k y hN;have ag:∀d,d<P-t-a->b.length+((List.range d).flatMap λd=>oz P t (a+d+1) (s|||2^(a+d))).length+(oz P t (a+d+1) (s|||2^(a+d))).length<=N:=λd z=>by
   have:=ae9 (f:=λd=>oz P t (a+d+1) (s|||2^(a+d))) z
   grind [oz]
  have ai:∀d q,d<P-t-a->q<+:oz P t (a+d+1) (s|||2^(a+d))->((List.range d).flatMap λd=>oz P t (a+d+1) (s|||2^(a+d)))++q<+:oz P (t+1) a s:=λd q z hq=>by
   grind [oz,GZ]
  have aj:∀d,((List.range (d+1)).flatMap λd=>oz P t (a+d+1) (s|||2^(a+d)))=((List.range d).flatMap λd=>oz P t (a+d+1) (s|||2^(a+d)))++oz P t (a+d+1) (s|||2^(a+d)):=λd=>aam _ d;have aa:((List.range (P-t-a)).flatMap λd=>oz P t (a+d+1) (s|||2^(a+d)))=oz P (t+1) a s:=by rw[oz]
  have Z:∀d,d<P-t-a->∀g,lp B W g->J (b++(List.range d).flatMap λd=>oz P t (a+d+1) (s|||2^(a+d))) g->
   Calls prog 254 #[Value.int .i64 (IntKind.i64.wrap (((a+d:Nat):Int)+1)),.int .i64 (IntKind.i64.wrap (t:Int)),.int .u64 (bits .or .u64 (s:Int) (IntKind.u64.wrap ((2:Int)^(a+d)))),.pointer (some ⟨D,0,none⟩),.pointer (some ⟨C,0,none⟩),.pointer (some ⟨o,0,none⟩)] g.drew (λh e=>
    ∃j:Bool,h= .returned (.bool j)/\((j=true/\J (b++(List.range (d+1)).flatMap λd=>oz P t (a+d+1) (s|||2^(a+d))) e/\lp B W e)\/(j=false/\∃q,q<+:oz P (t+1) a s/\v (b++q) e))):=by
   intro d z g hk hj;have ad:2^(a+d)<2^40:=kX Oc Oa;have ah:=u64_or_nat s (2^(a+d)) Oa Oa;have A:s|||2^(a+d)<2^40:=uA Q ad;have ac:=ih (a+d+1) (s|||2^(a+d)) (b++(List.range d).flatMap λd=>oz P t (a+d+1) (s|||2^(a+d))) g.drew Oa Oa A (k.keep hk.drew) (M _ _ hj) (by grind);rw[iE (((a+d:Nat):Int)+1) Oa,iE (t:Int) Oa,aaN (p:=a+d) Oa,ah,show(((a+d:Nat):Int)+1)=((a+d+1:Nat):Int)by norm_cast];refine ac.mono ?_;rintro h W2 (⟨rfl,c,i⟩|⟨rfl,q,c,i⟩)
   ·exact⟨true,rfl,.inl ⟨rfl,by grind,hk.trans ⟨i.size,i.same⟩⟩⟩
   grind
  have X:=gb Z;have V:=gb aa;have U:=gb k;have S:=gd (J (b++(List.range 0).flatMap λd=>oz P t (a+d+1) (s|||2^(a+d))) W) (by grind);clear ag ai aj aa Z ih O hN y;generalize oz P (t+1) a s=E at*;obtain⟨G,w⟩:∃G:Nat->gA,G=λd=>b++(List.range d).flatMap λd=>oz P t (a+d+1) (s|||2^(a+d)):=⟨_,rfl⟩;have HE:=gd (G (P-t-a)=b++E) (by rw[w,<-V.out])
  have K:Hid (∀d,d<P-t-a->∀g,lp B W g->J (G d) g->
   Calls prog 254 #[Value.int .i64 (IntKind.i64.wrap (((a+d:Nat):Int)+1)),.int .i64 (IntKind.i64.wrap (t:Int)),.int .u64 (bits .or .u64 (s:Int) (IntKind.u64.wrap ((2:Int)^(a+d)))),.pointer (some ⟨D,0,none⟩),.pointer (some ⟨C,0,none⟩),.pointer (some ⟨o,0,none⟩)] g.drew (λh e=>
    ∃j:Bool,h= .returned (.bool j)/\((j=true/\J (G (d+1)) e/\lp B W e)\/(j=false/\∃q,q<+:E/\v (b++q) e)))):=gb (by rw[w];exact X.out)
  have H1:=gd (J (G 0) W) (by rw[w];exact S.out);clear w X V S k M;obtain⟨T,hT⟩:∃T,t+1=T:=⟨_,rfl⟩;rw[hT];have ak:((T:Int)==0)=false:=(by grind);have an:(T:Int)-1=t:=Oa;have am:T<=4:=Oa;clear hT ht;unfold py;go_enter func254,ntmps254;go_wp2;go_loopw [10] (λR wr=>∃d:Nat,d<=P-t-a/\R= .int .i64 ((a+d:Nat):Int)/\Hid (J (G d) wr)/\Hid (lp B W wr)) (λR _=>P+1-(intOf R).toNat)
  case atStart=>exact⟨0,ge _,rfl,H1,gb (lp.refl _ _)⟩
  case round=>
   obtain⟨d,z,rfl,L,r⟩:=hrel;have c4:=(U.out.keep r.out).p;by_cases A:d<P-t-a
   ·have af:((a+d:Nat):Int)<=P-T:=(by omega);have c5:=(U.out.keep r.out).c;have Y:wr.drew.cell? ⟨o,0,none⟩=_:=c5;have I:=gb (K.out d A wr r.out L.out);have ao:a+d<40:=Oa;have HX:=gd (a+(d+1)=a+d+1) rfl;clear K ak;generalize a+d=x at*;go_wp2;go_region_law (first|(go_simp;go_at_call 254;refine I.out.mono ?_;rintro h w2 ⟨bv,rfl,ae⟩));rcases ae with⟨rfl,c,i⟩|⟨rfl,c⟩
    ·have H:=gR c i;clear c i I Y;go_wp2;go_roundw
     case rel=>exact⟨d+1,by omega,by rw[HX.out];go_num,gb H.out.1,gb H.out.2⟩
     case measure=>exact gQ
    ·have H:=gb c;clear c I Y;go_wp2;go_ret;exact .inr ⟨rfl,H.out⟩
   ·have af:¬((a+d:Nat):Int)<=P-T:=(by omega);have ab:=gd (J (b++E) wr) (by rw[<-HE.out,show P-t-a=d by omega];exact L.out);have ap:a+d<90:=Oa;clear K A L;generalize a+d=x at*;go_wp2;go_ret;exact .inl ⟨rfl,ab.out,r.out⟩
abbrev Msk:={s:Nat//s<2^40}
def AL(l:List Msk):gA:=l.map Subtype.val
theorem AM(l:List Msk)(x:Msk):AL (l++[x])=AL l++[x.1]:=by simp[AL]
theorem B0(B P b d T:Nat)(w:World)(hP:P<=40)(hT:T<=4)(hp:w.cell? ⟨b,0,none⟩=some (.int .i64 P))(ht:w.cell? ⟨d,0,none⟩=some (.int .i64 T))(t:B<=b/\b<w.heap.size/\B<=d/\d<w.heap.size)(N:Nat)(hN:(oz P T 0 0).length<=N)(n:Nat):
 SeqStopsK Fence.wide n prog 253 #[.pointer (some ⟨b,0,none⟩),.pointer (some ⟨d,0,none⟩)] (λae:Msk=> #[py ae.1]) (lp B) (λys=>AL ys=oz P T 0 0) (λz=>AL z<+:oz P T 0 0) N w:=by
 intro l Z aa W y v ab O K;refine pL.2 ?_;show Calls _ _ #[.func (.yield l) #[] #[],.pointer (some ⟨b,0,none⟩),.pointer (some ⟨d,0,none⟩)] W _;obtain⟨J,i⟩:∃J:gA->World->Prop,Hid (J=λl V=>∃m,AL m=l/\Z m V):=⟨_,gb rfl⟩;obtain⟨o,G⟩:∃o:gA->World->Prop,Hid (o=λl V=>∃m,AL m=l/\aa m V):=⟨_,gb rfl⟩;have hs:=y.size;have cp:W.cell? ⟨b,0,none⟩=some (.int .i64 P):=(y.cell (p:=⟨b,0,none⟩) t.2.1).trans hp;have ct:W.cell? ⟨d,0,none⟩=some (.int .i64 T):=(y.cell (p:=⟨d,0,none⟩) t.2.2.2).trans ht
 have Y:=gd (∀V,gm W V->J [] V) (λV h=>by
  rw[i.out]
  exact⟨[],rfl,v _ _ _ none K ⟨h.os,h.tape,h.output,h.size,λac hk _=>h.block ac hk⟩ (λad e=>by cases e)⟩)
 have L:∀c V,J c V->J c V.drew:=λc V h=>by
  rw[i.out]at h⊢;obtain⟨m,e,h⟩:=h;exact⟨m,e,v _ _ _ none h ⟨rfl,rfl,rfl,fZ _,λ_ _ _=>rfl⟩ (λad e=>by cases e)⟩
 have Q:∀c x V,x<2^40->J c V->c.length<N->YieldAt Fence.wide 0 prog l #[py x] V λe q=>(e= .returned (.bool true)/\J (c++[x]) q/\lp B V q)\/(e= .returned (.bool false)/\o (c++[x]) q):=λc x V hx R hl=>by
  rw[i.out]at R;obtain⟨m,e,h⟩:=R;refine YieldAt.mono (YieldAt.wide 0 (O m ⟨x,hx⟩ V h (by grind [AL]))) λe2 q f=> ?_;rw[i.out,G.out]
  grind [AM]
 have F:=gb (λV M a f=>WB B l P W.heap.size b (W.heap.size+1) N hP J o L Q T 0 0 [] V (ge _) hT Oc ⟨a,(M.cell (p:=⟨b,0,none⟩) (by grind)).trans cp,f,by omega,t.1,by omega⟩ (Y.out V M) (by grind));clear v ab O K L Q;have ag:∀(r:Addr)(s:Fn)(x D:Array Value)(w:World),(store r (.func s x D)).run prog w=stored prog w r (.func s x D) .plain:=λr s x D w=>run_store _ w r _ _ rfl;have E:=gb (λ(j k:Obj)=>show Below W.heap.size W ((W.alloc j).alloc k)from((f0 _ _).alloc (fZ _) _).alloc On _);have af:∀j k,((W.alloc j).alloc k).cell? ⟨d,0,none⟩=some (.int .i64 T):=λj k=>((E.out j k).cell (p:=⟨d,0,none⟩) (by grind)).trans ct
 have I:=gb (λ(A C:Value)(S U:TypeId)=>show((W.alloc (.cells #[A] S)).alloc (.cells #[C] U)).cell? ⟨W.heap.size,0,none⟩=some A/\((W.alloc (.cells #[A] S)).alloc (.cells #[C] U)).cell? ⟨W.heap.size+1,0,none⟩=some C from
  ⟨(((f0 _ _).alloc (fZ _) _).cell (p:=⟨W.heap.size,0,none⟩) On).trans (kY _ _ _),by
    exact OK⟩)
 have a:=F.out;unfold py at a;rw[show((0:Nat):Int)=0 from rfl]at a;have X:=gb a;clear a F;go_enter func253,ntmps253;go_wp2_with (go_at_call 254;refine(X.out _ (E.out _ _) (I.out _ _ _ _).1 (I.out _ _ _ _).2).mono ?_;rintro e w2 (⟨rfl,a,f⟩|⟨rfl,z,a,f⟩))
 ·have H:=gb a;clear a f;go_end0;have g:=H.out;rw[i.out]at g
  grind
 ·have H:=gR a f;clear a f;go_end0;have g:=H.out.2;rw[G.out]at g;obtain⟨m,e,g⟩:=g;exact⟨⟨_,rfl⟩,.inr ⟨m,by rw[show AL m=z by grind];exact H.out.1,g⟩⟩
theorem G2(P T:Nat)(w:World):
 Calls prog 204 #[.int .i64 P,.int .i64 T] w λe a=>e= .returned (.func (.func 253) #[] #[.pointer (some ⟨w.heap.size,0,none⟩),.pointer (some ⟨w.heap.size+1,0,none⟩)])/\a=(w.alloc (.cells #[.int .i64 P] 3)).alloc (.cells #[.int .i64 T] 3):=by
 go_enter func204,ntmps204;go_wp2;go_ret;exact⟨rfl,rfl⟩
end
end Go.Proofs.YtnnaadmegeeinaaGreatDoor
