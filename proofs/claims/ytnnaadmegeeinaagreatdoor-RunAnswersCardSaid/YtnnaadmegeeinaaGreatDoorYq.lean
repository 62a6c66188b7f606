/-
  Part 17 of a proof: what it proves stands in the last text.
-/
import Derived.Test.YtnnaadmegeeinaaGreatDoorYp
import Derived.Maps.OwnIn
import Derived.Shelf.Abstract
import Derived.OwnWalkIn
import Derived.LoopNIn
import Derived.Maps.AppendAt
set_option linter.all false
set_option maxHeartbeats 8000000
set_option maxRecDepth 100000
namespace Go.Proofs.YtnnaadmegeeinaaGreatDoor
open Tryz Go.Proofs.Tryz
open Go.RowKit
def gU:=@List.setIfInBounds_toArray
def iC:=@List.set_cons_succ
def kf:=@List.drop_succ_cons
def lH:=@List.drop_zero
def lT:=@Boxed.new
def lX:=@Array.replicate_succ
def lY:=@Array.replicate_zero
def mt:=@List.append_toArray
def nw:=@List.push_toArray
def nW:=@World.cell?_of_block
def oD:=@KeepsOthers.setCell
def vG:=@run_takeDeferred
def Bz:=@callsIn_of_wp_marks
def JP:=@grownBy_setCell'
def R6:=@wp_load_mid
def aeo:=@callsIn_of_wp
def ahE:=@cell_one_new
def ahN:=@ownsRow_succ
def ahY:=@wpListIn_append_own_at
def alT:=@wpIn_rangeFunc_ownG
def al5:=@Option.toList_some
theorem Sp{p:Prop}(h:p:=by
 refine⟨h1,h2.kept hg ?_,h3.kept hg (λe=> ?_),nN h4 hg (λah e ap=> ?_)⟩
 ·cases fJ:ai.ownBlock with
  |none=>grind
  |some g=>grind
 ·grind
 grind):p:=h
theorem SG{p:Prop}(h:p:=by
 go_wp2;go_roundw
 case rel=>exact⟨k+1,aH,by omega,by go_num,by rw[S2.out],S1,HX.out.1,HX.out.2.1,HX.out.2.2⟩
 case measure=>exact gQ):p:=h
theorem SU{p:Prop}(h:p:=by
 go_wp2;go_ret2
 exact⟨rfl,aQ.out⟩):p:=h
theorem Dl{p:Prop}(h:p:=by simp[Value.ownBlock];omega):p:=h
theorem Dp{p:Prop}(h:p:=by unfold BB;grind):p:=h
theorem DV{p:Prop}(h:p:=by
 go_wp2;go_ret2
 exact⟨by rw[HW.out];rfl,aT.out⟩):p:=h
theorem DW{p:Prop}(h:p:=by rw[kx,kx]):p:=h
theorem D6{p:Prop}(h:p:=by
 go_wp2;go_ret
 exact⟨by rw[HW.out];rfl,HB.out⟩):p:=h
theorem Kj{p:Prop}(h:p:=by rw[iw];omega):p:=h
theorem PL{p:Prop}(h:p:=by
 go_enter func216,ntmps216
 exact PO):p:=h
theorem Qh{p:Prop}(h:p:=by
 by_cases e:j=H
 ·grind
 ·exact HJ.out j Oa):p:=h
theorem Ql{p:Prop}(h:p:=by
 clear aF cD hv ba ay HC dt hN hE h9;go_enter func135,ntmps135
 exact SU):p:=h
theorem QS{p:Prop}(h:p:=by have:=fS.out I Oa;rw[iw];exact this):p:=h
theorem TH:∀k,k<10->(⟨#[48,49,50,51,52,53,54,55,56,57]⟩:ByteArray).extract k (k+1)=gJ [UInt8.ofNat (48+k)]:=by
 intro k a;have h:∀q:Fin 10,((⟨#[48,49,50,51,52,53,54,55,56,57]⟩:ByteArray).extract q.val (q.val+1)).data.toList=[UInt8.ofNat (48+q.val)]:=Oc;have:=h ⟨k,a⟩;have e:gJ (((⟨#[48,49,50,51,52,53,54,55,56,57]⟩:ByteArray).extract k (k+1)).data.toList)=gJ [UInt8.ofNat (48+k)]:=by rw[this]
 exact e
theorem LQ(n:Nat)(o:n<100)(w:World):
 Calls prog 59 #[.int .i64 n] w λk s=>k= .returned (.string (gJ (Lib.decDigits n)))/\s=w:=by
 have c:=gb TH
 have b:=gd (Lib.decDigits n=if n<10 then[UInt8.ofNat (48+n)]else[UInt8.ofNat (48+n/10),UInt8.ofNat (48+n%10)]) (by
  by_cases h:n<10
  ·rw[gl h,ns h]
  ·rw[gh h,amf h o])
 generalize Lib.decDigits n=D at*;by_cases f:n<10
 ·rw[gl f]at b;have q:=c.out n f;have z:(gJ [UInt8.ofNat (48+n)]).size=1:=rfl;have HE:=gd (gJ [UInt8.ofNat (48+n)]++⟨#[]⟩=gJ D) (by rw[b.out];rfl);generalize gJ [UInt8.ofNat (48+n)]=s1 at*;go_enter func59,ntmps59;go_wp2;go_loopw [0,3] (λa e wr=>a= .int .i64 n/\e= .string ⟨#[]⟩/\wr=w) (λ_ _ _=>0)
  case atStart=>grind
  case round=>
   obtain⟨rfl,rfl,rfl⟩:=hrel;exact Kq
 ·rw[gh f]at b;have x:(n:Int).tmod 10=((n%10:Nat):Int):=(gO _ _).symm;have v:(n:Int).tdiv 10=((n/10:Nat):Int):=(iS _ _).symm;have p:n%10<10:=iD _ Oa;have l:n/10<10:=Oa;generalize n%10=r at*;generalize n/10=d at*;have q:=c.out r p;have y:=c.out d l;have A:(gJ [UInt8.ofNat (48+r)]).size=1:=rfl;have B:(gJ [UInt8.ofNat (48+d)]).size=1:=rfl;have i:=gd (gJ [UInt8.ofNat (48+r)]++⟨#[]⟩=gJ [UInt8.ofNat (48+r)]) rfl;have j:=gd (gJ [UInt8.ofNat (48+d)]++gJ [UInt8.ofNat (48+r)]=gJ D) (by rw[b.out,lu];rfl);generalize gJ [UInt8.ofNat (48+r)]=s1 at*;generalize gJ [UInt8.ofNat (48+d)]=s2 at*;clear b c;have t:(10:Int)<=n:=Oa;go_enter func59,ntmps59;go_wp2;go_loopw [0,3] (λa e wr=>((a= .int .i64 n/\e= .string ⟨#[]⟩)\/(a= .int .i64 d/\e= .string s1))/\wr=w) (λa _ _=>(intOf a).toNat)
  case atStart=>grind
  case round=>
   obtain⟨⟨rfl,rfl⟩|⟨rfl,rfl⟩,g⟩:=hrel
   ·subst g;go_wp2;go_roundw
    case rel=>exact⟨.inr ⟨by grind,by rw[i.out]⟩,by grind⟩
    case measure=>exact gQ
   ·subst g;go_wp2;go_ret;exact⟨by rw[<-j.out];rfl,rfl⟩
def SN(f:Nat->Nat)(N k:Nat)(S:Nat->Bool):Prop:=∀x,x<N->(S x=true↔(∃j,j<k/\na f j x)/\f x≠x)
def SI(f:Nat->Nat)(N k:Nat)(S:Nat->Bool)(t:Nat)(b:Nat->Bool):Prop:=∀y,y<N->(b y=true↔S y=true\/∃a,a<t/\y=it f a k)
theorem abE{f:Nat->Nat}{k:Nat}(h:f k=k):∀a,it f a k=k
 |0=>rfl
 |a+1=>by
  show f (it f a k)=k;rw[abE h a,h]
theorem Ea{f:Nat->Nat}{k x:Nat}(h:f k=k)(r:na f k x):x=k:=by
 obtain⟨a,b⟩:=r
 grind [abE]
theorem N3{n:Nat}{f:Nat->Nat}(P:Pm n f){k x:Nat}(a:k<n)(h:f x=x)(r:na f k x):x=k:=(Ea h (P.reach_symm a r)).symm
theorem SN.skip{f:Nat->Nat}{N k:Nat}{S:Nat->Bool}(P:Pm N f)(h:SN f N k S)(b:k<N)(a:S k=true\/f k=k):SN f N (k+1) S/\mg f N (k+1)=mg f N k:=by
 constructor
 ·intro x o;rw[h x o];constructor
  ·grind
  ·rintro⟨⟨j,e,c⟩,d⟩;refine⟨?_,d⟩;by_cases g:j=k
   ·subst g;rcases a with a|a
    ·obtain⟨⟨p,l,n⟩,_⟩:=(h j b).1 a;exact⟨p,l,n.trans c⟩
    ·exact absurd (by rw[Ea a c];exact a) d
   grind
 ·rw[vg];have:¬(tq f N k=true/\2<=ui f N k):=by
   rintro⟨i,q⟩;rcases a with a|a
   ·obtain⟨⟨j,e,c⟩,_⟩:=(h k b).1 a;exact(P.lead_iff b).1 i j e c
   ·have:=(P.per_spec b).2.2.2 1 (fZ _) Oa;exact this a
  grind
theorem SN.cyc{f:Nat->Nat}{N k:Nat}{S:Nat->Bool}(P:Pm N f)(h:SN f N k S)(b:k<N)(B:S k=false)(p:f k≠k):
 ∃m,2<=m/\m<=N/\mg f N (k+1)=mg f N k++[xO f m k]/\(∀t a,SI f N k S t a->t<=m->it f t k<N/\(t<m->a (it f t k)=false/\(it f t k=k↔t=0))/\(t=m->a (it f t k)=true))/\∀a,SI f N k S m a->SN f N (k+1) a:=by
 have r:∀j,j<k->¬na f j k:=λj d c=>by
  have:=(h k b).2 ⟨⟨j,d,c⟩,p⟩
  grind
 obtain⟨o,E,A,F⟩:=P.per_spec b;have s:2<=ui f N k:=by
  apply gx;intro C;have e:ui f N k=1:=Oa;rw[e]at o;exact p o
 have y:tq f N k=true:=(P.lead_iff b).2 r;refine⟨ui f N k,s,A,by rw[vg,gl ⟨y,s⟩],λt a g D=> ?_,λa g x v=> ?_⟩
 ·have i:=P.it_lt b t;refine⟨i,λz=>⟨?_,?_⟩,?_⟩
  ·cases e:a (it f t k)with
   |false=>rfl
   |true=>
    exfalso;rcases(g _ i).1 e with e|⟨l,q,w⟩
    ·obtain⟨⟨j,d,c⟩,_⟩:=(h _ i).1 e;exact r j d (c.trans (P.reach_symm b ⟨t,rfl⟩))
    ·exact P.it_unlike b z q w.symm
  ·constructor
   ·grind
   ·rintro rfl;rfl
  ·rintro rfl;exact(g _ i).2 (.inr ⟨0,by omega,o⟩)
 ·rw[g x v,h x v];constructor
  ·rintro(⟨⟨j,d,c⟩,n⟩|⟨l,q,rfl⟩)
   ·grind
   ·refine⟨⟨k,by omega,l,rfl⟩,λn=> ?_⟩;have e:=N3 P b n ⟨l,rfl⟩
    grind
  ·rintro⟨⟨j,d,c⟩,n⟩;by_cases e:j=k
   ·subst e;exact .inr (P.reach_small b c)
   grind
theorem SI.step{f:Nat->Nat}{N k t:Nat}{S a:Nat->Bool}(h:SI f N k S t a):SI f N k S (t+1) (λx=>x==it f t k||a x):=λy b=>by
 show(y==it f t k||a y)=true↔_;rw[kD,h y b,kz]
 grind
def bL(N:Nat)(S:Nat->Bool):np:=(List.range N).map λx=> .bool (S x)
theorem aiq(N:Nat)(S:Nat->Bool):(bL N S).length=N:=by simp[bL]
theorem aip{N:Nat}{S:Nat->Bool}{c:Nat}(h:c<N):(bL N S)[c]? =some (.bool (S c)):=by simp[bL,h]
theorem air{N:Nat}{S:Nat->Bool}{c:Nat}(h:c<N):(bL N S).set c (.bool true)=bL N (λx=>x==c||S x):=by
 refine ib λi=> ?_
 grind [bL]
theorem aeX(N:Nat):List.replicate N (Value.bool false)=bL N λ_=>false:=by
 refine jd (by simp[bL]) λi a b=> ?_;simp[bL]
def oT(f:Nat->Nat)(k t:Nat):iF:=40::inT (xO f t k)
theorem acQ{N:Nat}{f:Nat->Nat}(d:N<=12)(P:Pm N f){k t:Nat}(b:k<N)(e:t<=12):(oT f k t).length<=100:=by
 have h:=Nn (c:=xO f t k) λx a=>by
  unfold xO at a;obtain⟨i,_,rfl⟩:=gK.1 a;have:=P.it_lt b i;exact Oa
 grind [rY,oT]
theorem xH{N:Nat}{f:Nat->Nat}(a:N<=12)(P:Pm N f):∀k,k<=N->(nc (mg f N k)).length<=101*k
 |0,_=>by simp[mg,mY,nc]
 |k+1,c=>by
  have d:=xH a P k Oa;rw[vg];by_cases h:tq f N k=true/\2<=ui f N k
  ·have b:=acQ a P (t:=ui f N k) (show k<N by omega) (by have:=(P.per_spec (show k<N by omega)).2.2.1;omega);rw[gl h,uQ,gz];have e:Hc (xO f (ui f N k) k)=oT f k (ui f N k)++[41]:=rfl
   grind
  grind
theorem agu(f:Nat->Nat)(k:Nat):oT f k 0=[40]:=by simp[oT,xO,inT,wU]
theorem agt(f:Nat->Nat)(k t:Nat):oT f k (t+1)=(oT f k t++if t=0 then[]else[32])++Lib.decDigits (it f t k):=by
 unfold oT inT;rw[IJ,jf];by_cases h:t=0
 ·subst h;rw[gl rfl];simp[xO,wU,Lib.join_one]
 ·rw[gh h,jG,mR,Xf _ _ _ (by
   intro e;have:=jA List.length e
   grind [rY])]
  exact On
theorem I0O(v:Value)(l:gP)(N:Nat)(f:Nat->Nat)(w:World)(hl:Sl w v l)(P:Wh l N f):
 Calls prog 64 #[v] w λn w'=>n= .returned (.string (gJ (YS f N)))/\gm w w':=by
 obtain⟨aF,cp,a,rfl,hN,aW,E⟩:=hl.open;obtain rfl:a=N:=Kx;have ag:=P.n12;have H:=gb P.at';have af:=gb (λ(k:Nat)(aH:Nat->Bool)(h:SN f a k aH)(o:k<a)=>SN.skip P.pm h o);have aa:=gb (λ(k:Nat)(aH:Nat->Bool)(h:SN f a k aH)(o:k<a)=>SN.cyc P.pm h o);have HW:=gd (YS f a=if nc (mg f a a)=[]then[40,41]else nc (mg f a a)) rfl;have HD:=gb LQ;have av:=gb (aeX a);have Z:=gb (aiq a);have Y:=gb (λaH j=> @aip a aH j);have ar:=gb (λaH j=> @air a aH j);have az:=gd (nc (mg f a 0)=[]) rfl;have ad:=gd (∀k j,mg f a (k+1)=mg f a k++[j]->nc (mg f a (k+1))=nc (mg f a k)++Hc j) (λk j h=>by rw[h,uQ]);have aC:=gb (λ(k I:Nat)(o:k<a)(ht:I<=12)=>acQ ag P.pm o ht);have aA:=gb (xH ag P.pm);have ae:=gd (SN f a 0 λ_=>false) (λx hx=>⟨λh=>Sb,λ⟨⟨a1,hj,_⟩,_⟩=>absurd hj Oa⟩);clear hl P;generalize bL a=G at*;go_enter func64,ntmps64;go_wp2_with (at_make;refine nQ (w:=w) _ _ 93 4 (.bool false) 1 rfl rfl underlying93 info4 rfl Oc w.heap.size _ a rfl rfl rfl Oa (fZ _) ?_;intro w6 am ak ap);have al:Ow 4 w.heap.size w6 (.slice (some ⟨w.heap.size,0,none⟩) a a) (G λ_=>false):=by rw[<-av.out];exact am
 have ah:gm w w6:=(f0 _ _).grown ak (fZ _) (λk h=>by cases h);clear am ak;go_loopw [3,5,6,7,8] (λU T _ _ _ wr=>∃(k:Nat)(aH:Nat->Bool),k<=a/\T= .int .i64 k/\U= .string (gJ (nc (mg f a k)))/\Hid (SN f a k aH)/\Ow 4 w.heap.size wr (.slice (some ⟨w.heap.size,0,none⟩) a a) (G aH)/\gm w wr/\w.heap.size<wr.heap.size) (λ_ T _ _ _ _=>a-(intOf T).toNat)
 case atStart=>exact⟨0,λ_=>false,ge _,rfl,by rw[az.out];rfl,ae,al,ah,ap⟩
 case round=>
  obtain⟨k,aH,o,rfl,rfl,Q,c,b,e⟩:=hrel;clear al ah ap;by_cases q:k<a
  ·have aK:(k:Int)<a:=(by omega);have D:=c.cell k (by rw[Z.out];exact q);rw[Y.out aH k q]at D;obtain⟨J,aq,rfl,ai,C⟩:=E Oa;have aj:=(b.cell (p:=⟨J,aq+k,none⟩) ai).trans (C k q);rw[H.out _ q]at aj;have HC:=gb C;by_cases r:aH k=true\/f k=k
   ·obtain⟨s1,s2⟩:=af.out k aH Q.out q r;have S1:=gb s1;have S2:=gd (nc (mg f a (k+1))=nc (mg f a k)) (by rw[s2]);have HX:=ju c b e;clear s1 s2 c b e C E;cases i:aH k with
    |true=>
     rw[i]at D;clear r i;exact SG
    |false=>
     rw[i]at D;have y:f k=k:=r.resolve_left (by grind);rw[y]at aj;clear r i y;exact SG
   ·have i:aH k=false:=(by grind);have y:f k≠k:=λh=>r (.inr h);obtain⟨m,m2,mN,c1,c2,c3⟩:=aa.out k aH Q.out q i y;have C1:=gb (ad.out k _ c1);have C2:=gb c2;have C3:=gb c3;have aE:=gb (agu f k);have aD:=gb (agt f k);have fS:=gb (λI=>aC.out k I q);have aN:=aA.out k o;have aR:(gJ (nc (mg f a k))).size<=2000:=Kj;have aB:=gd (oT f k m++[41]=Hc (xO f m k)) rfl;have aO:((f k:Int)==k)=false:=Oo;have aY:¬(f k:Int)=k:=Oa;rw[i]at D;have HX:=ju c b e;have aw:=gd (SI f a k aH 0 aH) (λa2 hy=>⟨.inl,λh=>h.resolve_right λ⟨aF,ha,_⟩=>absurd ha Oa⟩);have ax:=gb (λI g=> @SI.step f a k I aH g);have aP:=gd (it f 0 k=k) rfl;have ay:=gd (∀I,it f (I+1) k=f (it f I k)) (λ_=>rfl);clear c1 c2 c3 c b e r i C E y;generalize oT f k=O at*;generalize xO f m k=ob at*;generalize SI f a k aH=SJ at*;generalize nc (mg f a k)=BT at*;obtain⟨W0,aI⟩:∃W0,W0=wr:=⟨_,rfl⟩;subst aI;go_wp2;go_loopg [6,7,8] m (λaG U x _ X=>∃(I:Nat)(g:Nat->Bool),I+aG=m/\x= .int .i64 (it f I k)/\U= .string (gJ (O I))/\Hid (SJ I g)/\Ow 4 w.heap.size X (.slice (some ⟨w.heap.size,0,none⟩) a a) (G g)/\gm w X/\w.heap.size<X.heap.size)
    case atStart=>exact⟨0,aH,iL _,rfl,by rw[aE.out];rfl,aw,HX.out.1,HX.out.2.1,HX.out.2.2⟩
    case round=>
     obtain⟨I,g,ht,rfl,rfl,t,c,b,e⟩:=hrel;generalize aU:gk=gi at*;obtain⟨s,K,L⟩:=C2.out I g t.out Oa;have S:=c.cell (it f I k) (by rw[Z.out];exact s);rw[Y.out _ _ s]at S;have aQ:((it f I k:Nat):Int)<a:=Oa;by_cases aM:I<m
     ·obtain⟨q1,F⟩:=K aM;rw[q1]at S;have aT:=c.frozen (it f I k);obtain⟨V,W⟩:=c.stored (it f I k) (.bool true);rw[ar.out _ _ s]at V;have R:=b.grown W b.size (λJ n=>by cases n;omega);have an:=gS e W.size;have aJ:=(R.cell (p:=⟨J,aq+it f I k,none⟩) ai).trans (HC.out _ s);rw[H.out _ s]at aJ;have aV:gi-1<gi:=Oa;have ac:=gb (ay.out I);have aL:(gJ (O I)).size<=100:=QS;have aS:(gJ (Lib.decDigits (it f I k))).size<=2:=(by rw[iw];exact(AZ (it f I k) Oa).2.2);have A:=gb (aD.out I);have B:=gb (ax.out I g t.out);have ab:=gb (HD.out (it f I k) Oa);generalize it f I k=x at*;have d:=ju V R an;clear V W R an c b e K L q1 t;by_cases z:I=0
      ·have ao:=F.2 z;rw[gl z]at A;subst ao z;clear F;go_wp2_with fail;refine(ab.out _).mono ?_;rintro n wd ⟨rfl,rfl⟩;go_wp2;go_roundg (gi-1)
       case measure=>omega
       case rel=>exact⟨1,_,by omega,by rw[ac.out],by rw[A.out,jb,<-lu],B,d.out.1,d.out.2.1,d.out.2.2⟩
      ·have ao:¬x=k:=λn=>z (F.1 n);rw[gh z]at A;have a0:¬(x:Int)=k:=Oa;have aZ:((x:Int)==k)=false:=Oo;clear F;go_wp2_with fail;refine(ab.out _).mono ?_;rintro n wd ⟨rfl,rfl⟩;go_wp2;go_roundg (gi-1)
       case measure=>omega
       case rel=>exact⟨I+1,_,by omega,by rw[ac.out],by rw[A.out,<-lu,<-lu];rfl,B,d.out.1,d.out.2.1,d.out.2.2⟩
     ·obtain rfl:I=m:=(by omega);rw[L rfl]at S;have B:=gb (C3.out g t.out);have d:=ju c b e;have aL:(gJ (O I)).size<=100:=QS
      have au:=gd (gJ BT++gJ (O I)++⟨#[41]⟩=gJ (nc (mg f a (k+1)))) (by
       rw[C1.out,<-aB.out,<-lu,<-lu,ByteArray.append_assoc];rfl)
      generalize it f I k=x at*;clear c b e K L t;go_wp2;go_roundw
      case rel=>exact⟨k+1,g,by omega,by go_num,by rw[<-au.out],B,d.out.1,d.out.2.1,d.out.2.2⟩
      case measure=>exact gQ
  ·obtain rfl:a=k:=(by omega);have aK:¬(a:Int)<a:=Oa;have HB:=gb b;clear c b e E H af aa ad ae Q;generalize nc (mg f a a)=bt at*;by_cases M:bt=[]
   ·rw[gl M]at HW;subst M;rw[show gJ []=(⟨#[]⟩:ByteArray)from rfl];exact D6
   ·rw[gh M]at HW;have aX:(gJ bt).toList.isEmpty=false:=(by grind [Ei]);exact D6
section
attribute [local go_sem] Oper.semAt_some
theorem Wj(p:Int)(v u:Value)(taps seed:gP)(n:Int)(w:World)(j:Sl w v taps)(i:Sl w u seed)(c:∀x∈taps,ja x)(d:∀x∈seed,ja x)(h:m6 p taps seed≠0):
 Calls prog 32 #[.int .i64 p,v,u,.int .i64 n] w λe k=>e= .returned (.tuple #[.slice none 0 0,.int .i64 (m6 p taps seed)])/\gm w k:=by
 have l:(m6 p taps seed !=0)=true:=by grind
 have a:Below w.heap.size w (w.alloc (.cells #[.int .i64 n] 3)):=(f0 _ _).alloc (fZ _) _;have f:=gb (qF p v u taps seed _ (j.below a) (i.below a) c d);generalize m6 p taps seed=z at*;have b:=gb a;clear a h c d;go_enter func32,ntmps32;go_wp2_with fail;refine f.out.mono ?_;rintro e o ⟨rfl,g⟩;go_wp2;go_ret2;exact⟨rfl,b.out.trans (g.mono b.out.size)⟩
theorem Wk(p:Int)(v u:Value)(taps seed:gP)(n:Int)(w:World)(k:Sl w v taps)(j:Sl w u seed)(f:∀x∈taps,ja x)(i:∀x∈seed,ja x)(h:m6 p taps seed=0)(b:n<0\/5000<n):
 Calls prog 32 #[.int .i64 p,v,u,.int .i64 n] w λe l=>e= .returned (.tuple #[.slice none 0 0,.int .i64 1])/\gm w l:=by
 have a:Below w.heap.size w (w.alloc (.cells #[.int .i64 n] 3)):=(f0 _ _).alloc (fZ _) _;have d:=gb (qF p v u taps seed _ (k.below a) (j.below a) f i);rw[h]at d;have c:=gb a;clear a h f i;rcases b with b|b
 all_goals
  go_enter func32,ntmps32;go_wp2_with fail;refine d.out.mono ?_;rintro e o ⟨rfl,g⟩;have c1:o.cell? ⟨w.heap.size,0,none⟩=some (.int .i64 n):=(g.cell (p:=⟨w.heap.size,0,none⟩) On).trans (kY _ _ _);go_wp2;go_ret2;exact⟨rfl,c.out.trans (g.mono c.out.size)⟩
theorem ZN(p:Int)(v u:Value)(taps seed:gP)(w:World)(j:Sl w v taps)(i:Sl w u seed)(d:∀x∈taps,ja x)(g:∀x∈seed,ja x)(h:m6 p taps seed=0):
 Calls prog 32 #[.int .i64 p,v,u,.int .i64 0] w λe k=>e= .returned (.tuple #[.slice none 0 0,.int .i64 0])/\gm w k:=by
 have a:Below w.heap.size w (w.alloc (.cells #[.int .i64 0] 3)):=(f0 _ _).alloc (fZ _) _;have c:=gb (qF p v u taps seed _ (j.below a) (i.below a) d g);rw[h]at c;have b:=gb a;clear a h d g;go_enter func32,ntmps32;go_wp2_with fail;refine c.out.mono ?_;rintro e l ⟨rfl,f⟩;have c1:l.cell? ⟨w.heap.size,0,none⟩=some (.int .i64 0):=(f.cell (p:=⟨w.heap.size,0,none⟩) On).trans (kY _ _ _);go_wp2;go_ret2;exact⟨rfl,b.out.trans (f.mono b.out.size)⟩
theorem nN{A B C:World}{r c:Option Nat}(h:A.grownBy B r)(g:B.grownBy C c)(d:∀q,c=some q->q<A.heap.size->r=some q):A.grownBy C r:=
 ⟨g.os.trans h.os,g.tape.trans h.tape,g.output.trans h.output,gt h.size g.size,λk a b=>by
   have f:=h.size;rw[g.block k Oa (λe=>b (d k e.symm a).symm)]
   exact h.block k a b⟩
theorem OI.cells_at{B:Nat}{w:World}{v:Value}{l:gP}(h:OI B w v l):∀g,v.ownBlock=some g->∃o:Obj,w.heap[g]? =some o/\o.isCells=true:=by
 intro g a;rcases h.2 with⟨rfl,_⟩|⟨e,c,d,rfl,_,b,_⟩
 ·simp[Value.ownBlock]at a
 ·simp[Value.ownBlock]at a;subst a;exact⟨_,b,rfl⟩
theorem zS{A C:World}{b o L:Nat}{q a:Value}{xs:gP}{x:Int}{c:Obj}(f:OI b A q xs)(p:Boxed A o 45 q)(I:o<b)(H:b<=A.heap.size)
 (J:C.ownsRow b 3 1 a L (xs.map (Value.int .i64)++[.int .i64 x])) (E:L=xs.length+1) (d:(A.alloc c).grownBy C q.ownBlock) (n:a.ownBlock=q.ownBlock\/a.ownBlock=some (A.alloc c).heap.size):
 Boxed C o 45 q/\Boxed (C.setCell ⟨o,0,none⟩ a) o 45 a/\OI b (C.setCell ⟨o,0,none⟩ a) a (xs++[x])/\(∀V:World,V.heap.size=b->V.grownBy A (some o)->V.grownBy (C.setCell ⟨o,0,none⟩ a) (some o))/\
  KeepsOthers A (C.setCell ⟨o,0,none⟩ a)/\(∀B,b<=B->aeO B A (C.setCell ⟨o,0,none⟩ a) q)/\y0 A q a:=by
 have t:q.ownBlock≠some o:=λe=>by have:=(f.lt o e).1;omega
 have k:Boxed C o 45 q:=(p.alloc c).kept d (λe=>t e.symm);have j:OI b C a (xs++[x]):=by
  unfold OI Ow
  grind
 have v:a.ownBlock≠some o:=λe=>by have:=(j.lt o e).1;omega
 have N:A.heap.size+1<=C.heap.size:=by have:=d.size;simpa using this
 have M:(C.setCell ⟨o,0,none⟩ a).heap.size=C.heap.size:=OK;refine⟨k,k.set a,j.kept (JP C o a) (.inr v),?_,?_,?_,?_⟩
 ·intro V F s;refine nN (nN (nN s (oH A c none) (λ_ e=>by cases e)) d (λr e K=> ?_)) (JP C o a) (λr e _=>by omega);have:=(f.lt r e).1;exact Oa
 ·refine((KeepsOthers.alloc A c).trans (KeepsOthers.of_grownBy d λw P l G=> ?_)).trans (oD _ _ _);obtain⟨O,g,i⟩:=(f.alloc c).cells_at w l
  grind
 ·intro B D;refine⟨by omega,λr z g i=> ?_⟩;rw[kr C ⟨o,0,none⟩ a r Oo,d.block r Oo (λe=>i e.symm)];exact Below.heap_alloc A c r g
 ·intro y e;rcases n with h|h
  ·grind
  ·right;rw[h]at e;simp at e;exact Oa
theorem aii(p:Int)(v u:Value)(taps seed:gP)(n:Nat)(w:World)(D:Sl w v taps)(C:Sl w u seed)(hb:∀x∈taps,ja x)(o:∀x∈seed,ja x)(h:m6 p taps seed=0)(aH:1<=n)(aI:n<=5000):
 Calls prog 32 #[.int .i64 p,v,u,.int .i64 n] w λe w'=>(∃ah,e= .returned (.tuple #[ah,.int .i64 0])/\OI w.heap.size w' ah (kE p taps seed n))/\gm w w':=by
 have aa:=wL h;have y:Below w.heap.size w (w.alloc (.cells #[.int .i64 n] 3)):=(f0 _ _).alloc (fZ _) _;have V:=gb (qF p v u taps seed _ (D.below y) (C.below y) hb o);rw[h]at V;have HV:=gb D;have HU:=gb C;obtain⟨g,c1,d,rfl,aC,aE,_⟩:=D.open;obtain⟨i,c2,f,rfl,aD,aF,_⟩:=C.open;have HR:=gb aa;have S:=gb y;clear y h hb o D C aa;obtain⟨i0,hi,ak,al,am⟩:=ml info3;refine pL.1 (Bz (F:=Fence.wide) (n:=0) func32 rfl trivial ?_);refine vI.2 ?_;simp only[ntmps32,jT,iP,jk,Nat.reduceAdd,Nat.reduceSub,lX,lY,nw,mt,ko,jD];have aG:((n:Int)==0)=false:=Oo;go_wp2_with fail;refine V.out.mono ?_;rintro e a ⟨rfl,z⟩;have ab:a.cell? ⟨w.heap.size,0,none⟩=some (.int .i64 n):=(z.cell (p:=⟨w.heap.size,0,none⟩) On).trans (kY _ _ _);have ay:w.heap.size+1<=a.heap.size:=by have:=z.size;simpa using this
 have T:=gb (S.out.trans (z.mono S.out.size));go_wp2_with fail;refine(adr p g i d c1 f c2 _).mono ?_;rintro e b ⟨rfl,j⟩;have aJ:b.heap.size=a.heap.size+4:=by rw[j];simp
 have ad:Boxed b a.heap.size 45 (.slice none 0 0):=by
  rw[j];exact(((lT a 45 (.slice none 0 0)).alloc _).alloc _).alloc _
 have o:gm w b:=by
  rw[j];exact((((T.out.alloc T.out.size _).alloc Oo _).alloc Oo _).alloc Oo _)
 have ag:b.cell? ⟨w.heap.size,0,none⟩=some (.int .i64 n):=by
  rw[j]
  have h1:Below a.heap.size a ((((a.alloc (.cells #[.slice none 0 0] 45)).alloc (.cells #[.int .i64 p] 3)).alloc (.cells #[.slice g d c1] 45)).alloc (.cells #[.slice i f c2] 45)):=
   ((((f0 _ _).alloc (fZ _) _).alloc On _).alloc Oo _).alloc Oo _
  exact(h1.cell (p:=⟨w.heap.size,0,none⟩) ay).trans ab
 have ae:Boxed b (a.heap.size+1) 3 (.int .i64 p):=by
  rw[j];have:=((lT (a.alloc (.cells #[.slice none 0 0] 45)) 3 (.int .i64 p)).alloc (.cells #[.slice g d c1] 45)).alloc (.cells #[.slice i f c2] 45);exact OK
 have B:Boxed b (a.heap.size+1+1) 45 (.slice g d c1):=by
  rw[j];have:=(lT ((a.alloc (.cells #[.slice none 0 0] 45)).alloc (.cells #[.int .i64 p] 3)) 45 (.slice g d c1)).alloc (.cells #[.slice i f c2] 45);exact OK
 have af:Boxed b (a.heap.size+1+1+1) 45 (.slice i f c2):=by
  rw[j];have:=lT (((a.alloc (.cells #[.slice none 0 0] 45)).alloc (.cells #[.int .i64 p] 3)).alloc (.cells #[.slice g d c1] 45)) 45 (.slice i f c2);exact OK
 have ao:=gb ad;have U:=gb o;have av:=gb ag;have aq:=gb ae;have au:=gb B;have ar:=gb af;clear j ad o ag ae B af z ab;simp only[iV];go_wp2_with fail;have ac:∀(A:World),b.grownBy A (some a.heap.size)->ZM p taps seed (a.heap.size+1+1+1) (a.heap.size+1+1) (a.heap.size+1) (.slice i f c2) (.slice g d c1) A/\gm w A/\A.cell? ⟨w.heap.size,0,none⟩=some (.int .i64 n):=by
  intro A hg;have O:gm w A:=U.out.grown hg U.out.size (λk e=>by grind);refine⟨⟨(aq.out.kept hg On).cell,(au.out.kept hg Oo).cell,(ar.out.kept hg Oo).cell,HV.out.below O,HU.out.below O⟩,O,?_⟩;refine(nW (hg.block w.heap.size Oa ?_)).trans av.out
  grind
 have G:=gb ac;clear ac
 refine N0 (gf:=187) (lb:= #[.pointer (some ⟨a.heap.size+1+1+1,0,none⟩),.pointer (some ⟨a.heap.size+1+1,0,none⟩),.pointer (some ⟨a.heap.size+1,0,none⟩)]) rfl
  (jI func187 Ob Ob) rfl (adp p taps seed HR.out _ _ _ (.slice i f c2) (.slice g d c1) n)
  (λk ai A=>k<n/\OI b.heap.size A ai (kE p taps seed k)/\Boxed A a.heap.size 45 ai/\b.grownBy A (some a.heap.size))
  (λs k ai A=>s= .exit 1/\OI b.heap.size A ai (kE p taps seed n)/\Boxed A a.heap.size 45 ai/\b.grownBy A (some a.heap.size))
  ?_ ?_ ?_ ?_ ?_ ?a1 ?assign ?body ?stop
 case assign=>
  intro az x W aB t;gi_wp2;exact t
 ·rintro k ai A an aA ⟨h1,h2,h3,h4⟩ hg hr;exact Sp
 ·rintro s k ai A an aA ⟨h1,h2,h3,h4⟩ hg hr;exact Sp
 ·rintro k ai A ⟨h1,h2,h3,h4⟩;exact⟨(G.out A h4).1,h1,h2.cells_at⟩
 ·rintro s k ai A ⟨h1,h2,h3,h4⟩;exact h2.cells_at
 ·exact⟨by omega,OI.nil _ _,ao.out,⟨rfl,rfl,rfl,fZ _,λ_ _ _=>rfl⟩⟩
 case body=>
  rintro az k ai W ⟨h1,h2,h3,h4⟩;have hc:=h3.cell;obtain⟨_,L,M⟩:=G.out W h4;have hW:=h4.size;have P:=kJ p taps seed k;have Q:W.ownsRow b.heap.size 3 1 ai ((kE p taps seed k).map (Value.int .i64)).length ((kE p taps seed k).map (Value.int .i64)):=h2;have c:=oB h1 h2 h3 h4;have Z:=gd (kE p taps seed (k+1)=kE p taps seed k++[I4 p taps seed k]) (by grind [adq,List.range_succ]);rw[gv,P]at Q;have Y:=gb P;clear h2 h3 h4 P;generalize kE p taps seed k=xs at*;generalize I4 p taps seed k=x at*;by_cases aj:k+1=n
  ·have B:((k:Int)+1==n)=true:=(by grind);have aw:=gb aj;clear aj;gi_wp2_with (gi_at_builtin;(refine ahY _ rfl _ _ 45 rfl b.heap.size 3 i0 (.int .i64 0) 1 8 underlying45 hi ak al am rfl Oc _ _ _ rfl (Q.alloc _) ⟨W.heap.size,0,none⟩ 1 1 [.int .i64 x] rfl rfl (ahE _ _ _) SO Mm Oa Oo ?_;intro v' R r q _ N;obtain⟨g',ax,rfl⟩:=ahN r;obtain⟨l,H,I,J,K,b6,b7⟩:=zS c.out.2.1 c.out.2.2.1 Oa hW r (by rw[Y.out]) q N;have e1:=l.cell;have e2:=l.frozen;have e3:R.cell? ⟨w.heap.size,0,none⟩=some (.int .i64 n):=(nW (q.block w.heap.size Oo (λe=>by have:=(c.out.2.1.lt _ e.symm).1;omega))).trans (((f0 _ W).alloc (fZ _) _).cell (p:=⟨w.heap.size,0,none⟩) Oo|>.trans M)));exact⟨K,_,rfl,I.cast (by rw[<-aw.out,Z.out]),H,J b rfl c.out.2.2.2⟩
  ·have B:((k:Int)+1==n)=false:=(by grind);gi_wp2_with (gi_at_builtin;(refine ahY _ rfl _ _ 45 rfl b.heap.size 3 i0 (.int .i64 0) 1 8 underlying45 hi ak al am rfl Oc _ _ _ rfl (Q.alloc _) ⟨W.heap.size,0,none⟩ 1 1 [.int .i64 x] rfl rfl (ahE _ _ _) SO Mm Oa Oo ?_;intro v' R r q _ N;obtain⟨g',ax,rfl⟩:=ahN r;obtain⟨l,H,I,J,K,b6,b7⟩:=zS c.out.2.1 c.out.2.2.1 Oa hW r (by rw[Y.out]) q N;have e1:=l.cell;have e2:=l.frozen;have e3:R.cell? ⟨w.heap.size,0,none⟩=some (.int .i64 n):=(nW (q.block w.heap.size Oo (λe=>by have:=(c.out.2.1.lt _ e.symm).1;omega))).trans (((f0 _ W).alloc (fZ _) _).cell (p:=⟨w.heap.size,0,none⟩) Oo|>.trans M)));exact⟨K,_,⟨by omega,I.cast (by rw[Z.out]),H,J b rfl c.out.2.2.2⟩,b6 _ Oa,b7⟩
 case stop=>
  rintro E s k ai W hD ⟨rfl,h2,h3,h4⟩ t;have hc:=h3.cell;obtain⟨_,L,M⟩:=G.out W h4;have c:=gR h2 L;have X:=gb t;clear h2 h3 h4 L t;go_wp2;refine⟨by simp,.inl ⟨_,_,rfl,vG X.out,?_⟩⟩;refine⟨.tuple #[ai,.int .i64 0],?_,⟨ai,rfl,?_⟩,?_⟩
  ·simp[results,f32,go_sem]
  ·refine(OI.kept c.out.1 (rD W E (.deferred none)) (.inr λe=> ?_)).mono Oa;obtain⟨o2,h2,h3⟩:=c.out.1.cells_at E e;rw[X.out]at h2;cases h2;cases h3
  ·exact c.out.2.grown (rD W E (.deferred none)) c.out.2.size (λk e=>by grind)
end
section
open Go.Maps
def RM(w:World)(v:Value)(l:List (Nat->Nat)):Prop:=∃a c,v= .slice a l.length c/\(0<l.length->∃b,a=some ⟨b,0,none⟩/\b<w.heap.size/\∀i,i<l.length->w.rangeAt b (i*7) (jP (l.getD i id)))
theorem OM.rm{B:Nat}{w:World}{v:Value}{l:List (Nat->Nat)}(h:OM B w v l):RM w v l:=by
 obtain⟨a,c,rfl⟩:=h.len;refine⟨a,c,rfl,λf=> ?_⟩;obtain⟨g,b,i,_,d⟩:=h.form f;obtain⟨rfl,rfl⟩:a=some ⟨g,0,none⟩/\c=b:=by grind
 exact⟨g,rfl,d,λj e=>h.range e⟩
theorem OM.lit1(B:Nat)(w:World)(x:Nat->Nat)(a:B<=w.heap.size):OM B (w.alloc (.cells (jP x).toArray 179)) (.slice (some ⟨w.heap.size,0,none⟩) 1 1) [x]:=by
 have:=amj (base:=B) (e:=179) (size:=7) w (jP x).toArray 1 a Mm (by rw[agk]);unfold OM;simpa [Hq]using this
theorem Fx(x:Nat->Nat):(jP x).toArray= #[.int .i64 ((x 0:Nat):Int),.int .i64 ((x 1:Nat):Int),.int .i64 ((x 2:Nat):Int),.int .i64 ((x 3:Nat):Int),.int .i64 ((x 4:Nat):Int),.int .i64 ((x 5:Nat):Int),.int .i64 ((x 6:Nat):Int)]:=rfl
theorem aga(n:Nat)(v:Value)(ms:List (Nat->Nat))(w:World)(hn:n<=7)(hv:RM w v ms)(hm:∀m∈ms,Mv n m)(bz:ms.length<=1000000):
 Calls prog 194 #[v] w λe d=>(∃a2,e= .returned a2/\OM w.heap.size d a2 (GL n ms))/\gm w d:=by
 have a8:=gb (λB=>Hz B);have ax:=gb (BI.start hm);obtain⟨va,vc,rfl,a1⟩:=hv;have HV:=gb a1;clear a1;go_enter func194,ntmps194;go_wp2_with fail;refine(a8.out _).mono ?_;rintro e B ⟨rfl,am⟩;have B1:=gb am;have aZ:=am.size;clear am;unfold Vk;have bj:= @run_makeMap prog;have aT:=OM.lit1 w.heap.size B id aZ;have ab:OM w.heap.size ((B.alloc (.cells (jP id).toArray 179)).alloc (.map #[] 0)) (.slice (some ⟨B.heap.size,0,none⟩) 1 1) [id]:=aT.below ((f0 _ _).alloc (fZ _) _);have aX:=ab.range (i:=0) On;have aq:=KM.new (κ:=gP) 179 kF (B.alloc (.cells (jP id).toArray 179));have aj:=(B1.out.alloc aZ (.cells (jP id).toArray 179)).alloc Oo (.map #[] 0);rw[iV]at aq;have az:=gb aq;have ag:=gb ab;have af:=gb aj;have i1:(prog.info? 179).map (·.size)=some (jP id).length:=M3;have M:=Ve (x:=id) (λi hi=>hi);rw[xN]at M;clear aT ab aq aj;rw[Fx id]
 go_wp2_with (first
  |(refine ii rfl 179 _ rfl B.heap.size 0 rfl (jP id) _ aX underlying179 rfl i1 ?_;clear aX)
  |(refine F4 rfl _ _ _ 224 rfl 179 zr abG underlying224 rfl az.out Mm (NR id) 0 (xN id) rfl M Oc ?_;intro w2 aP an)
  |fail)
 have aG:∀y,y∈ins (NR id) ([]:lO)↔∃x∈[(id:Nat->Nat)],NR x=y:=λy=>by
  rw[Fq]
  grind
 have a:=oB (ag.out.kept an (.inr DQ)) aP aG (af.out.grown an Oo (λb e=>by grind));obtain⟨A,aH⟩:∃A,B.heap.size+1=A:=⟨_,rfl⟩;have bA:B.heap.size≠A:=Oa;have bt:w.heap.size<=A:=Oa;rw[aH]at a⊢;clear aP an aG az ag af bj M aH;generalize B.heap.size=OB at*;go_loopw [3,5,7,8,9,10] (λv3 v5 _ _ _ _ wr=>∃(l:List (Nat->Nat))(i N:Nat)(S:lO),v5= .int .i64 i/\Hid (BI n ms l i 0)/\OM w.heap.size wr v3 l/\(∀G,v3.ownBlock=some G->G≠A)/\N<=l.length/\KM 179 kF wr A N S/\Hid (∀y,y∈S↔∃x∈l,NR x=y)/\gm w wr) (λ_ v5 _ _ _ _ _=>lL n+1-(intOf v5).toNat)
 case atStart=>exact⟨[id],0,1,_,rfl,ax.out,a.out.1,λG k=>by simp[Value.ownBlock]at k;omega,fZ _,a.out.2.1,a.out.2.2.1,a.out.2.2.2⟩
 case round=>
  clear a ax;obtain⟨l,i,N,S,rfl,f,q,O,L,k,K,D⟩:=hrel;obtain⟨la,U,rfl⟩:=q.len;have aR:=f.out.len;have R:=f.out.il;by_cases aS:i<l.length
  ·have aN:(i:Int)<((l.length:Nat):Int):=(by omega);have a:=afU q O L k K.out D;clear q O L k K D;go_wp2_with fail;go_loopw [3,7,8,9,10,26] (λv3 _ _ _ _ aw wr=>∃(l:List (Nat->Nat))(j N:Nat)(S:lO),aw= .int .i64 j/\j<=ms.length/\i<l.length/\Hid (BI n ms l i j)/\OM w.heap.size wr v3 l/\(∀G,v3.ownBlock=some G->G≠A)/\N<=l.length/\KM 179 kF wr A N S/\Hid (∀y,y∈S↔∃x∈l,NR x=y)/\gm w wr) (λ_ _ _ _ _ aw _=>ms.length-(intOf aw).toNat)
   case atStart=>exact⟨l,0,N,S,rfl,ge _,aS,f.out,a.out.1,a.out.2.1,a.out.2.2.1,a.out.2.2.2.1,a.out.2.2.2.2.1,a.out.2.2.2.2.2⟩
   case round=>
    clear a f aR R aN aS;obtain⟨l,j,N,S,rfl,hj,R,f,q,O,L,k,K,D⟩:=hrel;obtain⟨la,U,rfl⟩:=q.len;by_cases ap:j<ms.length
    ·have bh:(j:Int)<((ms.length:Nat):Int):=(by omega);obtain⟨b,rfl,c,ae⟩:=HV.out Oa;obtain⟨m,ar⟩:∃m,ms.getD j id=m:=⟨_,rfl⟩;have ae:=ae j ap;rw[ar]at ae;have aA:=gb ar;clear ar;have aW:wr.rangeAt b (j*7) (jP m):=λP J hq=>(D.cell (p:=⟨b,j*7+P,none⟩) c).trans (ae P J hq);have i2:(prog.info? 179).map (·.size)=some (jP m).length:=M3;have aD:hU (wr.alloc (.cells #[.int .i64 0,.int .i64 0,.int .i64 0,.int .i64 0,.int .i64 0,.int .i64 0,.int .i64 0] 179)) wr.heap.size 179 (jP λ_=>0):=hU.new wr _ _;have a3:=gb aD;have a:=afU q O L k K.out D;clear q O L k K D aD ae
     go_wp2_with (first
      |(refine ii rfl 179 _ rfl b (j*7) rfl (jP m) _ aW underlying179 rfl i2 ?_;clear aW)
      |(refine ke rfl 179 _ _ rfl wr.heap.size (jP m) rfl rfl a3.out DW i2 (rR _) ?_
        intro w5 aE bf)
      |fail)
     obtain⟨o,oc,eo,_,aU⟩:=a.out.1.form Oa;obtain⟨rfl,rfl⟩:la=some ⟨o,0,none⟩/\U=oc:=(by simpa using eo);have aa:gm wr w5:=((f0 _ _).alloc (fZ _) _).grown bf On (λb e=>by simp_all);have ai:=f.out.mvI' R;have ah:=f.out.mvM ap;rw[aA.out]at ah;obtain⟨x,ak⟩:∃x,l.getD i id=x:=⟨_,rfl⟩;rw[ak]at ai;have a9:=gb ak;have a5:=gb (a.out.1.below aa);have av:=a5.out.range R;rw[ak]at av;have aY:=aE.range;have ix:(prog.info? 179).map (·.size)=some (jP x).length:=M3;have a0:=underlying179;have HT:=gb (λba=>abr x m ba (ai.lt7 hn) (ah.lt7 hn));have bw:(i:Int)<((l.length:Nat):Int):=Oa;have bm:o<w5.heap.size:=gS aU aa.size;have bo:wr.heap.size<w5.heap.size:=aE.lt;have a7:=gb (λd (c:gm w5 d)=>(λP J hq=>(c.cell (p:=⟨o,i*7+P,none⟩) bm).trans (av P J hq):d.rangeAt o (i*7) (jP x)));have a6:=gb (λd (c:gm w5 d)=>(λP J hq=>(c.cell (p:=⟨wr.heap.size,0+P,none⟩) bo).trans (aY P J hq):d.rangeAt wr.heap.size 0 (jP m)));unfold Vk at HT;clear ak eo av aY
     refine IY [30,31,32,33,34,35,8] [λv _=>v= .slice (some ⟨o,0,none⟩) l.length U,λv _=>v= .int .i64 (i:Int),λv _=>v= .pointer (some ⟨o,i*7,none⟩),λv _=>v= .agg (jP x).toArray,λv _=>v= .agg (jP m).toArray,λv _=>v= .agg (jP (λi=>m (x i))).toArray,
      λv d=>∃b,v= .pointer (some ⟨b,0,none⟩)/\w5.heap.size<=b/\hU d b 179 (jP λ_=>0)] Ob Ob rfl rfl
      ⟨m8 _,m8 _,m8 _,m8 _,m8 _,m8 _,λv B w2 ⟨b,H,I,Q⟩ _ c=>⟨b,H,I,Q.below c⟩,trivial⟩
      ⟨λg w X c E s h=>ng _ rfl (h _ _ (E 3 rfl) (f0 _ _)),λg w X c E s h=>ng _ rfl (h _ _ (E 5 rfl) (f0 _ _)),?_,?_,?_,?_,?_,trivial⟩ ?_
     ·intro g d X c E s h;have h0:g.tmps[30]?.getD undef= .slice (some ⟨o,0,none⟩) l.length U:=iW (s 0 Oc Ob);have H:g.tmps[31]?.getD undef= .int .i64 (i:Int):=iW (s 1 Oc Ob);refine tS _ ?_ (h _ _ rfl (f0 _ _));clear h E s;go_simp
     ·intro g d X c E s h;have I:g.eval (.tmp 32)=_:=s 2 Oc Ob;exact R6 179 _ rfl o (i*7) I (jP x) _ (a7.out d c) a0 rfl ix (h _ _ rfl (f0 _ _))
     ·intro g d X c E s h;exact R6 179 _ rfl wr.heap.size 0 (E 7 rfl) (jP m) _ (a6.out d c) a0 rfl i2 (h _ _ rfl (f0 _ _))
     ·intro g d X c E s h;have Q:g.eval (.tmp 33)=_:=s 3 Oc Ob;have h4:g.eval (.tmp 34)=_:=s 4 Oc Ob;refine nf _ _ _ #[_,_] rfl (by rw[lD,jG,jG,mR,Q,h4]) _ func246 Ob Ob ?_;refine(HT.out _).mono ?_;rintro e w2 ⟨rfl,aj⟩;exact⟨_,rfl,h _ _ rfl aj⟩
     ·intro g d X c E s h;refine ?_;go_simp;exact h _ _ ⟨_,rfl,c.size,hU.new _ _ _⟩ ((f0 _ _).alloc (fZ _) _)
     ·rintro bB w6 ⟨h0,H,I,Q,h4,h5,⟨Y,h6,be,aF⟩,_⟩ aI;simp only[Nat.reduceAdd]at h0 H I Q h4 h5 h6;simp only[j7,Act.put,gU,io,iC,kf,lH,iP,jk,Nat.reduceAdd];rw[h0,H,I,Q,h4,h5,h6];obtain⟨z,hz⟩:∃z,pY x m=z:=⟨_,rfl⟩;have bq:∀i,i<7->z i<7:=(by rw[<-hz];exact(zd ai ah).lt7 hn);have bd:Mv n z:=(by rw[<-hz];exact zd ai ah);rw[show(λi=>m (x i))=z from hz];have HZ:=gd (pY (l.getD i id) (ms.getD j id)=z) (by rw[a9.out,aA.out,hz]);have M:=Ve bq;rw[xN]at M;have iz:(prog.info? 179).map (·.size)=some (jP z).length:=M3;have ac:gm wr w6:=aa.trans (aI.mono aa.size);have bs:A<wr.heap.size:=a.out.2.2.2.1.lt;have bu:wr.heap.size<=Y:=gt aa.size be;have bp:=a.out.2.2.2.2.2.size;have bx:=f.out.len;have aJ:=(rJ n Oa).2;have t:=vd aF ac (a.out.1.below ac) (a.out.2.2.2.1.below ac) (a.out.2.2.2.2.2.trans (ac.mono bp));clear aF aI h0 H I Q h4 h5 h6 ac aa hz;by_cases ao:NR z∈S
      ·have T:z∈l:=by
        obtain⟨y,hy,he⟩:=(a.out.2.2.2.2.1 _).1 ao
        rwa [<-agl hn ((f.out.gen y hy).mv hm) bd he]
       have W:=gb (f.out.there (by rw[HZ.out];exact T))
       go_wp2_with (first
        |(refine ke rfl 179 _ _ rfl Y (jP z) rfl rfl t.out.1 DW iz (rR _) ?_
          intro w7 Z F;have r:=ju (t.out.2.2.1.kept F (.inr Dl)) (t.out.2.2.2.1.kept F Oo) (t.out.2.2.2.2.grown F t.out.2.2.2.2.size (λb e=>by cases e;omega));have r7:=Z.range
          clear Z F)
        |(refine ii rfl 179 _ rfl Y 0 rfl (jP z) _ r7 underlying179 rfl iz ?_)
        |(refine yA rfl _ _ 224 rfl 179 zr underlying224 rfl r.out.2.1 (NR z) (xN z) M ?_
          intro aB zb al;obtain rfl:zb=true:=al.2 ao
          clear al)
        |fail)
       go_roundw
       case rel=>exact⟨l,j+1,N,S,by go_num,by omega,R,W.out,r.out.1,a.out.2.1,a.out.2.2.1,r.out.2.1,gb a.out.2.2.2.2.1,r.out.2.2⟩
       case measure=>exact gQ
      ·have T:¬z∈l:=λC=>ao ((a.out.2.2.2.2.1 _).2 ⟨z,C,rfl⟩);have W:=gb (f.out.add R ap (by rw[HZ.out];exact T));rw[HZ.out]at W;have bn:(Lit.int .i64 ((l.length:Nat):Int)).wf=true:=WalkArith.wf_i64 Oa;have bb:N<maxLen:=(by have:=a.out.2.2.1;unfold maxLen;omega);have bi:l.length<=1000000000:=Oa;have bl:A≠o:=λe=>a.out.2.1 o DQ e.symm;have br:=Fx z
       go_wp2_with (first
        |(refine ke rfl 179 _ _ rfl Y (jP z) rfl rfl t.out.1 DW iz (rR _) ?_
          intro w7 Z F;have r:=vd Z (t.out.2.2.1.kept F (.inr Dl)) (t.out.2.2.2.1.kept F Oo) (t.out.2.2.2.2.grown F t.out.2.2.2.2.size (λb e=>by cases e;omega)) (gt t.out.2.1.size F.size);have r7:=Z.range
          clear Z F)
        |(refine ii rfl 179 _ rfl Y 0 rfl (jP z) _ r7 underlying179 rfl iz ?_)
        |(refine yA rfl _ _ 224 rfl 179 zr underlying224 rfl r.out.2.2.1 (NR z) (xN z) M ?_
          intro aB zb al;obtain rfl:zb=false:=OK
          clear al)
        |(refine Et rfl _ _ _ 224 rfl 179 kF zr abG underlying224 A N S rfl r.out.2.2.1 bb (NR z) ((l.length:Nat):Int) (xN z) rfl M bn ?_
          intro w8 aQ ad;have V:=oB (r.out.2.1.kept ad (.inr Dl)) aQ (r.out.2.2.2.1.grown ad r.out.2.2.2.1.size (λb e=>by cases e;omega)) (gt r.out.2.2.2.2 ad.size);have r8:=(r.out.1.kept ad Oo).range
          clear aQ ad r7)
        |(refine ii rfl 179 _ rfl Y 0 rfl (jP z) _ r8 underlying179 rfl iz ?_;rw[br])
        |(refine yy z w8 _ _ 136 rfl rfl underlying136 info179 w.heap.size (.slice (some ⟨o,0,none⟩) l.length U) l rfl V.out.1 rfl bi V.out.2.2.1.size (hU.new w8 179 (jP z)).range ((f0 _ _).alloc (fZ _) _) ?_
          intro aC aB w9 bc aM bg bv)
        |fail)
       go_roundw
       case rel=>
        refine⟨l++[z],j+1,N+1,ins (NR z) S,by go_num,by omega,by simp;omega,W.out,bc,λG k=> ?_,by simp;exact a.out.2.2.1,V.out.2.1.kept aM (by simp[Value.ownBlock];exact bl),gb λy=> ?_,V.out.2.2.1.grown aM V.out.2.2.1.size (λb e=>(a.out.1.lt b e).1)⟩
        ·obtain rfl:aC=G:=(by simpa [Value.ownBlock]using k);rcases bg with C|C
         ·exact a.out.2.1 aC C
         ·have:=V.out.2.2.2;exact Oa
        ·rw[Fq,a.out.2.2.2.2.1];constructor
         ·rintro(rfl|⟨J,hu,rfl⟩)
          ·exact OK
          ·exact⟨J,by simp[hu],rfl⟩
         ·rintro⟨J,hu,rfl⟩;rcases li.1 hu with C|C
          ·exact .inr ⟨J,C,rfl⟩
          exact OK
       case measure=>exact gQ
    ·obtain aO:j=ms.length:=(by omega);have bh:¬(j:Int)<((ms.length:Nat):Int):=Oa;have W:=gb ((show BI n ms l i ms.length by rw[<-aO];exact f.out).next R);have a:=afU q O L k K.out D;have aR:=f.out.len;have aJ:=(rJ n Oa).2;clear q O L k K D aO;go_wp2;go_roundw
     case rel=>exact⟨l,i+1,N,S,by go_num,W.out,a.out.1,a.out.2.1,a.out.2.2.1,a.out.2.2.2.1,a.out.2.2.2.2.1,a.out.2.2.2.2.2⟩
     case measure=>exact gQ
  ·obtain rfl:i=l.length:=(by omega);have aN:¬((l.length:Nat):Int)<((l.length:Nat):Int):=Oa;obtain⟨o,oc,eo,_,aU⟩:=q.form Oa;obtain⟨rfl,rfl⟩:la=some ⟨o,0,none⟩/\U=oc:=(by grind);have aJ:=(rJ n Oa).2;have HG:=gb (abq l w.heap.size o U wr q Oa);have a4:=gb (λG k=>(q.lt G k).1);have ay:=gb D;clear q O L k K D eo;go_wp2_with fail;refine HG.out.mono ?_;rintro e w2 ⟨rfl,l',au,aV,ab,aL⟩;have aK:l'=GL n ms:=by
    have T:∀x,x∈l'↔sQ ms x:=λx=>(au.mem_iff).trans (f.out.done x);refine aeE hm T ?_;have bk:l'.Nodup:=au.nodup_iff.2 f.out.nd;refine List.Pairwise.imp_of_mem ?_ (List.pairwise_and_iff.2 ⟨aV,bk⟩);rintro g b ha c ⟨H,I⟩;have Pa:=((T g).1 ha).mv hm;have Pb:=((T b).1 c).mv hm;have H:¬Tm b g<0:=Oa;rw[ae8 hn Pb Pa]at H;rcases jh (sE n g) (sE n b)with C|C
    ·exact C
    ·exact absurd (FK Pa Pb Oa) I
   have HF:=gb aK;have ag:=gb ab;have af:=gb (ay.out.grown aL ay.out.size (λb e=>a4.out b (by simpa [Value.ownBlock]using e)));clear aV aK ab aL au;go_wp2;go_ret;exact⟨⟨_,rfl,by rw[<-HF.out];exact ag.out⟩,af.out⟩
end
theorem abw:(prog.info? 9).map (λi=>(i.zero,i.size,i.bytes))=some (some (.string ByteArray.empty),1,16):=Ob
theorem JX(v:Value)(l:gP)(w:World)(a:Sl w v l)(b:jV l≠0):
 Calls prog 40 #[v] w λe h=>e= .returned (.tuple #[.string (gJ []),.int .i64 (jV l)])/\gm w h:=by
 have d:=gb (xh v l w a);obtain⟨i,j,N,rfl,k,o,g⟩:=a.open;have n:(jV l !=0)=true:=iT.2 b;clear b a g;generalize jV l=E at*;go_enter func40,ntmps40;go_wp2_with fail;refine d.out.mono ?_;rintro e p ⟨rfl,c⟩;have f:=gb c;clear c;go_wp2;go_ret2;exact⟨rfl,f.out⟩
def bdT(L:kl)(k:Nat):iF:=nc ((L.take k).filter λc=>decide (2<=c.length))
theorem GK{L:kl}{k:Nat}(h:k<L.length):bdT L (k+1)=bdT L k++if 2<=(L.getD k []).length then Hc (L.getD k [])else[]:=by
 unfold bdT;rw[jH,o8,gc,gn h];simp only[al5,iQ];by_cases a:2<=(L[k]).length
 ·rw[gl a,aeI (by grind),List.filter_nil,uQ]
 grind
theorem Th{L:kl}(h:∀i,i<L.length->∀x∈L.getD i [],x<12)(a:∀i,i<L.length->(L.getD i []).length<=12):∀i,i<=L.length->(bdT L i).length<=100*i
 |0,_=>by simp[bdT,nc]
 |i+1,g=>by
  have d:=Th h a i Oa;have e:=(Nn (c:=L.getD i []) λx j=>by grind);have f:=a i Oa;rw[GK Oa,gz];by_cases b:2<=(L.getD i []).length
  ·rw[gl b]
   grind [Hc]
  grind
theorem V4(v:Value)(l:gP)(N:Nat)(f:Nat->Nat)(w:World)(H:Sl w v l)(P:Wh l N f)(hE:jV l=0):
 Calls prog 40 #[v] w λe w'=>e= .returned (.tuple #[.string (gJ (YS f N)),.int .i64 0])/\gm w w':=by
 have H1:=gb (xh v l w H);rw[hE]at H1;have HC:=gb (λw1 (a:gm w w1)=>WK v l N f w1 (H.below a) P);obtain⟨aR,aB,aQ,rfl,hN,aV,aM⟩:=H.open;have aS:=P.n12
 have M:=gd (∀i,i<(mY f N N).length->∀x∈(mY f N N).getD i [],x<12) (λi d x p=>by
  rw[gc,gn d,iQ]at p;have B:=iH d;unfold mY at B;obtain⟨k,G,e⟩:=gK.1 B;unfold mY at p;rw[<-e]at p;have:=P.pm.orb_lt (gC.1 (xc.1 G).1) x p
  exact Oa)
 have Q:=gd (∀i,i<(mY f N N).length->((mY f N N).getD i []).length<=12) (λi d=>by
  rw[gc,gn d,iQ];have B:=iH d;unfold mY at B⊢;obtain⟨k,G,e⟩:=gK.1 B;rw[<-e,rY];have:=(P.pm.per_spec (gC.1 (xc.1 G).1)).2.2.1
  exact Oa)
 have ae:=gd ((mY f N N).length<=12) (by
  grind [mY])
 have HW:=gd (YS f N=if bdT (mY f N N) (mY f N N).length=[]then[40,41]else bdT (mY f N N) (mY f N N).length) (by
  unfold YS aij mg bdT
  grind)
 have ab:=gb (λav aC=>GK (L:=mY f N N) (k:=av) aC);have aw:=gd (bdT (mY f N N) 0=[]) rfl;have aa:=gb (Th M.out Q.out);have r:=gd (((mY f N N).map lR).length=(mY f N N).length) (gv _);have af:=gd (∀i,i<(mY f N N).length->((mY f N N).map lR).getD i []=lR ((mY f N N).getD i [])) (λi d=>by simp[d]);clear hE H aM P;generalize YS f N=WT at*;generalize mY f N N=L at*;obtain⟨Z,T⟩:∃Z,L.length=Z:=⟨_,rfl⟩;rw[T]at HW M Q ae r af aa;simp only[T]at ab;clear T;have aY:=ae.out;generalize bdT L=h at*;go_enter func40,ntmps40;go_wp2_with fail;refine H1.out.mono ?_;rintro e w1 ⟨rfl,aj⟩;have J:=gb aj;clear aj;go_wp2_with fail;refine(HC.out _ J.out).mono ?_;rintro e w2 ⟨⟨u,rfl,j⟩,ak⟩;obtain⟨ua,uc,z⟩:=j.len;rw[r.out]at z;subst z;have I:=gR j (J.out.trans (ak.mono J.out.size));clear j ak;go_wp2_with fail;go_loopw [5,7,8,10,19] (λv5 _ _ _ X wr=>∃i:Nat,X= .int .i64 i/\i<=Z/\v5= .string (gJ (h i))/\gm w2 wr) (λ_ _ _ _ X _=>Z-(intOf X).toNat)
 case atStart=>exact⟨0,rfl,ge _,by rw[aw.out];rfl,f0 _ _⟩
 case round=>
  obtain⟨i,rfl,d,rfl,a⟩:=hrel;by_cases A:i<Z
  ·have aK:(i:Int)<Z:=(by omega);have j:=I.out.1.below a;obtain⟨gu,cu,z,_,_⟩:=j.form (by rw[r.out];omega);rw[r.out]at z;obtain⟨rfl,rfl⟩:ua=some ⟨gu,0,none⟩/\uc=cu:=(by grind);obtain⟨aZ,aO,D⟩:=j.get i (by rw[r.out];exact A);rw[af.out i A]at D;have aq:=Q.out i A;have U:=M.out i A;have g:=ab.out i A;obtain⟨C,hC⟩:∃C,L.getD i []=C:=⟨_,rfl⟩;rw[hC]at D aq U g;clear hC j z;obtain⟨qa,qc,y⟩:=D.len;rw[oM]at y;subst y;obtain⟨c,F⟩:∃c,C.length=c:=⟨_,rfl⟩;have E:=gR D a;have ac:=gb U;have b:=gb F;clear D a U;rw[F]at aO aq g;by_cases h2:2<=c
   ·have aD:¬(c:Int)<2:=(by omega);rw[gl h2]at g;have K:=gb g;clear g F;obtain⟨n,aE⟩:∃n,n=wr:=⟨_,rfl⟩;subst aE;go_wp2_with fail;go_loopw [8,10,28] (λv8 _ Y wr=>∃t:Nat,Y= .int .i64 t/\t<=c/\(∃q:np,Hid (q=(C.take t).map λx=>Value.string (gJ (Lib.decDigits x)))/\Hid (q.length=t)/\Ow 9 n.heap.size wr v8 q)/\gm n wr) (λ_ _ Y _=>c-(intOf Y).toNat)
    case atStart=>exact⟨0,rfl,ge _,⟨[],gb rfl,gb rfl,Ow.nil _ _ _⟩,f0 _ _⟩
    case round=>
     obtain⟨t,rfl,ht,⟨q,ai,s,o⟩,a⟩:=hrel;by_cases W:t<c
     ·have aP:(t:Int)<c:=(by omega);have ao:C.getD t 0∈C:=by
       rw[gc,gn (by rw[b.out];exact W)]
       grind
      have aX:=ac.out _ ao;have V:=E.out.1.below a;obtain⟨gq,cq,y,_,_⟩:=V.form (by grind [oM]);rw[oM,b.out]at y;obtain⟨rfl,rfl⟩:qa=some ⟨gq,0,none⟩/\qc=cq:=(by grind);have aG:=V.cell t (by rw[oM,b.out];exact W);rw[show(lR C).getD t 0=((C.getD t 0:Nat):Int)by grind [lR]]at aG
      have az:=gd (C.take (t+1)=C.take t++[C.getD t 0]) (by
       rw[jH,gc,gn (by rw[b.out];exact W)]
       rfl)
      have aN:q.length<=1000000000000:=(by rw[s.out];omega);have au:=a.size;have R:=gR o a;clear o a V y ao;generalize C.getD t 0=x at*;go_wp2_with fail;refine(Xd x Oa wr).mono ?_;rintro e w6 ⟨rfl,rfl⟩;go_wp2_with (at_builtin;refine jt w6 _ _ 37 9 (.string ByteArray.empty) 16 rfl rfl underlying37 abw rfl Oc n.heap.size _ _ rfl R.out.1 rfl rfl aN au ?_;intro g9 c9 w9 ar an aH aI);have am:Below n.heap.size w6 w9:=(f0 _ _).grown an au (λaA e=>(R.out.1.lt aA e).1);have ag:=gR ar (R.out.2.trans am);clear ar an aH aI am;go_roundw
      case rel=>
       refine⟨t+1,by go_num,by omega,⟨q++[.string (gJ (Lib.decDigits x))],gb ?_,gb ?_,ag.out.1⟩,ag.out.2⟩
       ·rw[az.out,jf,ai.out];rfl
       ·rw[gz,s.out];rfl
      case measure=>exact gQ
     ·obtain rfl:t=c:=(by omega);have aP:¬(t:Int)<t:=Oa;obtain⟨gw,cw,ew,_,aJ⟩:=o.form (by rw[s.out];omega);rw[s.out]at ew;subst ew
      have ah:=gd (∀(k:Nat) x,(C.map λx=>gJ (Lib.decDigits x))[k]? =some x->wr.cell? ⟨gw,0+k,none⟩=some (.string x)) (λk x G=>by
       have aL:k<C.length:=by
        grind
       rw[iL,o.cell k (by rw[s.out,<-b.out];exact aL),ai.out,ie (by rw[b.out];omega)]
       grind)
      have aF:=o.cap.1
      have O:=gd (Lib.join ((C.map λx=>gJ (Lib.decDigits x)).map (·.data.toList)) (gJ [32]).data.toList=inT C) (by
       unfold inT;rw[jL]
       rfl)
      have ap:=(Nn (c:=C) λx p=>by have:=ac.out x p;omega);have ad:=gb (Xe gw 0 cw (C.map λx=>gJ (Lib.decDigits x)) (gJ [32]) wr ah.out aJ (by rw[gv,b.out];omega) (by rw[gv,b.out];exact aF) (by rw[O.out];rw[b.out]at ap;omega));rw[gv,b.out,O.out]at ad;have HB:=gb a;rw[b.out]at ap;have aU:(gJ (h i)).size<=1200:=by
       have:=aa.out i d
       grind [iw]
      have ay:=gd (gJ (h i)++((⟨#[40]⟩:ByteArray)++⟨(inT C).toArray⟩++⟨#[41]⟩)=gJ (h (i+1))) (by
       rw[K.out];unfold Hc;rw[<-lu];have e1:((⟨#[40]⟩:ByteArray)++⟨(inT C).toArray⟩++⟨#[41]⟩)=(gJ [40]++gJ (inT C))++gJ [41]:=rfl
       grind [lu])
      clear o a ah O;go_wp2_with fail;refine ad.out.mono ?_;rintro e w6 ⟨rfl,al⟩;have ax:=gb (HB.out.trans (al.mono HB.out.size));clear al;go_wp2;go_roundw
      case rel=>exact⟨i+1,by go_num,by omega,by rw[ay.out],E.out.2.trans (ax.out.mono E.out.2.size)⟩
      case measure=>exact gQ
   ·have aD:(c:Int)<2:=(by omega);rw[gh h2,jb]at g;have K:=gb g;clear g F;go_wp2;go_roundw
    case rel=>exact⟨i+1,by go_num,by omega,by rw[K.out],E.out.2⟩
    case measure=>exact gQ
  ·obtain rfl:i=Z:=(by omega);have aK:¬(i:Int)<i:=Oa;have aT:=gb (I.out.2.trans (a.mono I.out.2.size));clear a;by_cases S:h i=[]
   ·rw[S,gl rfl]at HW;rw[S,show gJ []=(⟨#[]⟩:ByteArray)from rfl];exact DV
   ·rw[gh S]at HW;have aW:(gJ (h i)).toList.isEmpty=false:=(by grind [Ei]);generalize h i=bt at*;exact DV
section
open Go.Shelf
attribute [local go_sem] Oper.semAt_some
def qI(l:gP)(k:Nat):gP:=(List.range k).map λj=>l[j]?.getD 0
theorem Br(l:gP)(k:Nat):qI l (k+1)=qI l k++[l[k]?.getD 0]:=by simp[qI,jc]
theorem F0(l:gP)(k:Nat):(qI l k).length=k:=by simp[qI]
theorem YO(l:gP):qI l l.length=l:=by
 apply jd
 ·simp[qI]
 grind [qI]
theorem R3(l:gP){k:Nat}(a:k<=l.length):qI l k=l.take k:=by
 apply jd
 ·simp[qI,a]
 grind [qI]
theorem R4(F:Fence)(n:Nat)(y:F.fn 269)(H:F.round=none)(R:1<=n)(r l h b g a t:Nat)(e:gP)(S:a*8<=140737488351232)(D:b<h)(J o:gP->World->Prop)
 (C:∀c x W,J c W->c.length<a->YieldAt F (n-1) prog r #[.int .i64 x] W λf d=>
   (f= .returned (.bool true)/\J (c++[x]) d/\Below h W d)\/(f= .returned (.bool false)/\o (c++[x]) d))
 (W:World) (M:W.cell? ⟨l,0,none⟩=some (.slice (some ⟨b,g,none⟩) a t)) (E:∀j,j<a->W.cell? ⟨b,g+j,none⟩=some (.int .i64 (e[j]?.getD 0))) (w:J [] W):
 CallsIn F n prog 269 #[.func (.yield r) #[] #[],.pointer (some ⟨l,0,none⟩)] W λf d=>(∃I,f= .returned I)/\
  ((∃s,s=qI e a/\J s d)\/(∃c,(∃k,k<=a/\c=qI e k)/\o c d)):=by
 refine aeo func269 rfl y ?_ H;simp only[ntmps269,jT,iP,jk,Nat.reduceAdd,Nat.reduceSub,lX,lY,nw,mt,ko,jD];gi_wp2
 gi_loopw [7] (λi wr=>∃k:Nat,k<=a/\i= .int .i64 k/\J (qI e k) wr/\Below h W wr)
  (λi _=>a-(intOf i).toNat)
 case atStart=>exact⟨0,ge _,rfl,w,f0 _ _⟩
 case round=>
  obtain⟨k,P,rfl,z,q⟩:=hrel;have O:k<a->wr.cell? ⟨b,g+k,none⟩=some (.int .i64 (e[k]?.getD 0)):=λv=>(q.cell (p:=⟨b,g+k,none⟩) D).trans (E k v);by_cases Q:k<a
  ·obtain⟨L,U,assign,body,T,B⟩:=C _ (e[k]?.getD 0) wr z (by grind [F0]);gi_wp2;refine B.mono ?_;rintro f K (⟨rfl,N,G⟩|⟨rfl,A⟩)
   ·gi_wp2;go_roundw
    case rel=>exact⟨k+1,by omega,by simp,by grind [Br],q.trans G⟩
    case measure=>simp[intOf];omega
   ·gi_wp2;refine su (ahP rfl _ _ _) rfl ?_;exact⟨⟨_,rfl⟩,.inr ⟨_,⟨k+1,by omega,(Br _ _).symm⟩,A⟩⟩
  ·obtain rfl:k=a:=(by omega);gi_wp2;go_end0
   grind
theorem YP(F:Fence)(n:Nat)(d:F.fn 218)(f:F.round=none)(a:Option Addr)(c b:Nat)(w:World):
 CallsIn F n prog 218 #[.slice a c b] w λe g=>e= .returned (.func (.func 269) #[] #[.pointer (some ⟨w.heap.size,0,none⟩)])/\g=w.alloc (.cells #[.slice a c b] 45):=by
 refine aeo func218 rfl d ?_ f;simp only[ntmps218,jT,iP,jk,Nat.reduceAdd,Nat.reduceSub,lX,lY,nw,mt,ko,jD];gi_wp2;go_ret;exact⟨rfl,rfl⟩
theorem F1(F:Fence)(n:Nat)(q:F.fn 269)(B:F.round=none)(z:1<=n)(c d:Nat)(b e g:Nat)(a:gP)(A:a.length*8<=140737488351232)(w:World)(r:c<w.heap.size)(K:d<=w.heap.size)
 (x:w.cell? ⟨c,0,none⟩=some (.slice (some ⟨b,e,none⟩) a.length g)) (v:b<d) (s:∀j,j<a.length->w.cell? ⟨b,e+j,none⟩=some (.int .i64 (a[j]?.getD 0))):
 SeqStopsK F n prog 269 #[.pointer (some ⟨c,0,none⟩)] (λD:Int=> #[Value.int .i64 D]) (Below d) (λk=>k=a) (λi=>i<+:a) a.length w:=λC J l W h _ _ t o=>by
 have y:=(h.cell (p:=⟨c,0,none⟩) r).trans x;refine(R4 F n q B z C c d b e a.length g a A v J l t W y (λj f=>(h.cell (p:=⟨b,e+j,none⟩) (by grind)).trans (s j f)) o).mono ?_;rintro G E ⟨H,⟨k,rfl,f⟩|⟨i,⟨L,I,rfl⟩,f⟩⟩
 ·grind [YO]
 grind [R3]
theorem EC(c b i q:Nat)(d:gP)(w:World)(aa:d.length<=1000)(C:c<w.heap.size)(r:b<w.heap.size)
 (l:w.cell? ⟨c,0,none⟩=some (.slice (some ⟨b,i,none⟩) d.length q)) (G:∀j,j<d.length->w.cell? ⟨b,i+j,none⟩=some (.int .i64 (d[j]?.getD 0))):
 Calls prog 291 #[.slice none 0 0,.func (.func 269) #[] #[.pointer (some ⟨c,0,none⟩)]] w λA o=>(∃v,A= .returned v/\OI w.heap.size o v d)/\gm w o:=by
 obtain⟨R,I,O,P,Q⟩:=ml info3;refine pL.1 (Bz (F:=Fence.wide) (n:=5) func291 rfl trivial ?_);simp only[ntmps291,jT,iP,jk,Nat.reduceAdd,Nat.reduceSub,lX,lY,nw,mt,ko,jD];gi_wp2;have z:=lT w 45 (.slice none 0 0);have k:Below w.heap.size w (w.alloc (.cells #[.slice none 0 0] 45)):=(f0 _ w).alloc (fZ _) _
 refine alT rfl Oc (gf:=269) (lb:= #[.pointer (some ⟨c,0,none⟩)]) rfl trivial (enters_of func269 Ob rfl)
  (F1 Fence.wide 4 trivial rfl Oa c w.heap.size b i q d Oa (w.alloc (.cells #[.slice none 0 0] 45)) Oo On ((k.cell (p:=⟨c,0,none⟩) C).trans l) r (λj J=>(k.cell (p:=⟨b,i+j,none⟩) r).trans (G j J))) belowK_t (belowK_b On) (f0 _ _) (λ_=>rfl)
  (λa W=>(∃v,Boxed W w.heap.size 45 v/\W.ownsRow w.heap.size 3 1 v a.length (a.map (Value.int .i64))/\(v= .slice none 0 0↔a=[]))/\gm w W)
  (λ_ _ _=>False)
  (OwnFrom.and (Own.from (holdsRow_own w.heap.size w.heap.size 45 3 1 (λa:gP=>a.length) (λa:gP=>a.map (Value.int .i64)) (λa v=>v= .slice none 0 0↔a=[])) _) (ownFrom_below (fZ _) On))
  (λ_ _ _ _ _ M _ _=>M)
  ⟨⟨_,z,pJ _ _ _ _,by simp⟩,k⟩
  (λx=>{tmps:= #[.slice none 0 0,.func (.func 269) #[] #[.pointer (some ⟨c,0,none⟩)],.pointer (some ⟨w.heap.size,0,none⟩),undef,.slice none 0 0,.int .i64 x,.func (.func 269) #[] #[.pointer (some ⟨c,0,none⟩)],.int .i64 x,undef,undef,undef,undef,undef],defers:=[]}) ?assign ?body ?done ?stop
 case assign=>
  intro S x W T f;gi_wp2;exact f
 case body=>
  rintro S a x W ⟨⟨v,h,g,L⟩,e⟩ ab;have l:=h.cell;gi_wp2_with (gi_at_builtin;(refine wpListIn_append_own _ rfl _ _ 45 rfl w.heap.size 3 R (.int .i64 0) 1 8 underlying45 I O P Q rfl Oc _ _ _ rfl (g.alloc _) ⟨W.heap.size,0,none⟩ 1 1 [.int .i64 x] rfl rfl (ahE _ _ _) SO Mm Oa (by have:=e.size;simp;omega) ?_);intro v' w1 t H _;obtain⟨X,V,rfl⟩:=ahN t;obtain⟨y,N,ac,K,s⟩:=h.appended Oc g e.size (fZ _) t H;have Y:=y.cell;have Z:=y.frozen);exact⟨K.from _,s,⟨_,N,by grind,by simp⟩,e.trans s⟩
 case done=>
  rintro D ys W E rfl ⟨⟨v,h,g,L⟩,e⟩ f;have l:=h.cell;gi_wp2;refine⟨by simp,.inl ⟨_,_,rfl,vG f,?_⟩⟩;refine⟨_,results_tmp rfl _ _ _,⟨v,rfl,?_⟩,e.trans (belowK_b (w:=w) (fZ _) W D _ _ (by simp at E;omega) f rfl rfl)⟩;have:=ownsRow_putObj g (.deferred none) f rfl
  grind [OI,Ow]
 case stop=>
  rintro D U a W _ _ B _;exact B.elim
theorem LG(c b d h:Nat)(a:gP)(w:World)(r:a.length<=1000)(k:c<w.heap.size)(n:b<w.heap.size)
 (p:w.cell? ⟨c,0,none⟩=some (.slice (some ⟨b,d,none⟩) a.length h)) (l:∀j,j<a.length->w.cell? ⟨b,d+j,none⟩=some (.int .i64 (a[j]?.getD 0))):
 Calls prog 267 #[.func (.func 269) #[] #[.pointer (some ⟨c,0,none⟩)]] w λi g=>(∃v,i= .returned v/\OI w.heap.size g v a)/\gm w g:=by
 have e:=gb (EC c b d h a w r k n p l);clear p l k n;go_enter func267,ntmps267;go_wp2_with fail;refine e.out.mono ?_;rintro i s ⟨⟨v,rfl,q⟩,o⟩;have f:=gR q o;clear q o e;go_wp2;go_ret;exact⟨⟨_,rfl,f.out.1⟩,f.out.2⟩
theorem Yr(c b f n:Nat)(a:gP)(w:World)(B:1<=a.length)(A:a.length<=12)(o:c<w.heap.size)(q:b<w.heap.size)
 (s:w.cell? ⟨c,0,none⟩=some (.slice (some ⟨b,f,none⟩) a.length n)) (p:∀j,j<a.length->w.cell? ⟨b,f+j,none⟩=some (.int .i64 (a[j]?.getD 0))):
 Calls prog 217 #[.func (.func 269) #[] #[.pointer (some ⟨c,0,none⟩)]] w λe l=>(∃v,e= .returned v/\OI w.heap.size l v (mI rg 0 a.length a))/\gm w l:=by
 have g:=gb (LG c b f n a w Oa o q s p);clear s p o q;go_enter func217,ntmps217;go_wp2_with fail;refine g.out.mono ?_;rintro e C ⟨⟨v,rfl,d⟩,r⟩;obtain⟨z,y,rfl,D,E⟩:=d.form Oa;have i:=gb (ag1 w.heap.size z a.length y a C d rfl B A);have h:=gb r;clear d r g;go_wp2_with fail;refine i.out.mono ?_;rintro e G ⟨rfl,x,t⟩;have k:=gR x (h.out.grown t h.out.size (λF e=>by grind));clear x t i;go_wp2;go_ret;exact⟨⟨_,rfl,k.out.1⟩,k.out.2⟩
end
def mU(n:Nat)(x:Int):Bool:=decide (x<0)||decide ((n:Int)<=x)
theorem LI(n:Nat)(b:Nat)(x:Int)(w:World)(f:w.cell? ⟨b,0,none⟩=some (.int .i64 n)):
 Calls prog 216 #[.int .i64 x,.pointer (some ⟨b,0,none⟩)] w λe a=>e= .returned (.bool (mU n x))/\w=a:=by
 unfold mU;by_cases c:x<0
 ·exact PL
 ·by_cases d:(n:Int)<=x
  ·exact PL
  ·exact PL
theorem EP(n:Nat)(b:Nat)(w:World)(a:w.cell? ⟨b,0,none⟩=some (.int .i64 n)):x8 216 #[.pointer (some ⟨b,0,none⟩)] (mU n) w where
 enter:=jI func216 Ob Ob
 calls:=λx _=>LI n b x w a
def pC(Y:gP):Nat->Int
 |0=>0
 |i+1=>pC Y i+Y.getD i 0
def tL(i:Nat):Int:=((i*(i+1)/2:Nat):Int)
def Iw(Y:gP)(N:Nat):Bool:=(List.range N).any λi=>decide (pC Y (i+1)<tL i)
def Ha(Y:gP)(N:Nat):Bool:= !Iw Y N&&decide (pC Y N=((N*(N-1)/2:Nat):Int))
def BB(l:gP):Bool×Int:=if 9<l.length then(false,3)else if l.length=0 then(false,2)else if l.any (mU l.length)=true then(false,1)else(Ha (mI rg 0 l.length l) l.length,0)
theorem AG{Y:gP}{N i:Nat}(hi:i<N)(h:pC Y (i+1)<tL i):Iw Y N=true:=iG.2 ⟨i,gC.2 hi,gy h⟩
theorem af8{Y:gP}{N:Nat}(h:∀i,i<N->¬pC Y (i+1)<tL i):Iw Y N=false:=by
 cases a:Iw Y N with
 |false=>rfl
 |true=>
  obtain⟨i,c,b⟩:=iG.1 a
  grind
theorem VL{Y:gP}{c:Nat}(h:∀i,i<Y.length->0<=Y.getD i 0/\Y.getD i 0<=c):∀i,i<=Y.length->0<=pC Y i/\pC Y i<=i*c
 |0,_=>⟨qR _,by simp[pC]⟩
 |i+1,b=>by
  have a:=VL h i Oa
  grind [pC]
theorem V3(v:Value)(l:gP)(w:World)(hv:Sl w v l)(V:∀x∈l,ja x):
 Calls prog 135 #[v] w λe F=>e= .returned (.tuple #[.bool (BB l).1,.int .i64 (BB l).2])/\gm w F:=by
 have aF:=(f0 w.heap.size w).alloc (fZ _) (.cells #[.int .i64 (l.length:Int)] 3);have cD:(w.alloc (.cells #[.int .i64 (l.length:Int)] 3)).cell? ⟨w.heap.size,0,none⟩=some (.int .i64 (l.length:Int)):=kY _ _ _;have HC:=gb (kU 216 #[.pointer (some ⟨w.heap.size,0,none⟩)] (mU l.length) v l _ (hv.below aF) V (EP l.length w.heap.size _ cD));obtain⟨O,f,N,rfl,hN,ba,ay⟩:=hv.open;have dt:=hN.out;have aQ:=gb aF;by_cases h9:9<N
 ·have hE:=gd (BB l=(false,3)) Dp;rw[hE.out];rw[dt]at HC aQ;have am:(9:Int)<N:=Oa;exact Ql
 ·by_cases t:N=0
  ·subst t;have hE:=gd (BB l=(false,2)) Dp;rw[hE.out];rw[dt]at HC aQ;exact Ql
  ·have am:¬(9:Int)<N:=(by omega);have aI:((N:Int)==0)=false:=(by grind);cases i:l.any (mU l.length)with
   |true=>
    have hE:=gd (BB l=(false,1)) Dp;rw[hE.out];rw[i]at HC;rw[dt]at HC aQ;clear aF cD hv ba ay dt hN hE h9 t i;go_enter func135,ntmps135;go_wp2_with fail;refine HC.out.mono ?_;rintro e w2 ⟨rfl,rfl⟩;exact SU
   |false=>
    have hE:=gd (BB l=(Ha (mI rg 0 N l) N,0)) Dp;rw[hE.out];obtain⟨Z,_⟩:=Au (lt:=rg) (d:=0) (λO b al=>by grind [rg]) (λO b f h1 h2=>by grind [rg]) l;rw[dt]at Z;have Q:(mI rg 0 N l).length=N:=(by rw[At,dt]);have z:∀H,H<(mI rg 0 N l).length->0<=(mI rg 0 N l).getD H 0/\(mI rg 0 N l).getD H 0<=(9:Nat):=λH hi=>by
     grind [List.getElem_mem,mU]
    have ai:=gb (VL z);obtain⟨b,g,rfl,S,U⟩:=ay Oa
    have K:=gd (∀a:World,gm w a->∀c,c<a.heap.size->a.cell? ⟨c,0,none⟩=some (.slice (some ⟨b,g,none⟩) N f)->Calls prog 217 #[.func (.func 269) #[] #[.pointer (some ⟨c,0,none⟩)]] a λe M=>(∃v,e= .returned v/\OI a.heap.size M v (mI rg 0 N l))/\gm a M) (λa R c an aN=>by
     have:=Yr c b g f l a Oa Oa an (gS S R.size) (by grind) (λj h=>(R.cell (p:=⟨b,g+j,none⟩) S).trans (U j Oa));rw[dt]at this
     exact this)
    have L:=gd (∀a:World,Calls prog 218 #[.slice (some ⟨b,g,none⟩) N f] a λe F=>e= .returned (.func (.func 269) #[] #[.pointer (some ⟨a.heap.size,0,none⟩)])/\F=a.alloc (.cells #[.slice (some ⟨b,g,none⟩) N f] 45)) (λa=>pL.1 (YP Fence.wide 3 trivial rfl _ _ _ a));rw[i]at HC;rw[dt]at HC aQ cD;have aC:=gb cD;have ag:=gd (pC (mI rg 0 N l) 0=0) rfl;have ah:=gd (∀H,pC (mI rg 0 N l) (H+1)=pC (mI rg 0 N l) H+(mI rg 0 N l).getD H 0) (λH=>rfl);have ad:=gb (λH=>AG (Y:=mI rg 0 N l) (N:=N) (i:=H));have ac:=gd ((∀H,H<N->¬pC (mI rg 0 N l) (H+1)<tL H)->Iw (mI rg 0 N l) N=false) af8;have r:=gd (Ha (mI rg 0 N l) N=(!Iw (mI rg 0 N l) N&&decide (pC (mI rg 0 N l) N=((N*(N-1)/2:Nat):Int)))) rfl;generalize mI rg 0 N l=Y at*;generalize Iw Y N=LB at*;generalize pC Y=SI at*;generalize Ha Y N=CB at*;have aJ:1<=N:=Oa;have aK:N<=9:=Oa;have eF:=gb Q;have aG:=gb z;clear aF cD hv ba ay dt hN hE t i Z Q z U V;go_enter func135,ntmps135;go_wp2_with fail;refine HC.out.mono ?_;rintro e w2 ⟨rfl,rfl⟩;go_wp2_with fail;refine(L.out _).mono ?_;rintro e o ⟨rfl,n⟩;have A:gm w o:=by rw[n];exact aQ.out.alloc aQ.out.size _
    have P:=K.out o A (w.heap.size+1) (by rw[n];simp) (by
     exact OK)
    have X:o.cell? ⟨w.heap.size,0,none⟩=some (.int .i64 (N:Int)):=OK;have J:=gb P;have af:=gb X;have I:=gb A;have au:w.heap.size<o.heap.size:=(by rw[n];simp;omega);clear n P X A;simp only[iV];go_wp2_with fail;refine J.out.mono ?_;rintro e G ⟨⟨v4,rfl,k⟩,B⟩;have ax:G.cell? ⟨w.heap.size,0,none⟩=some (.int .i64 (N:Int)):=(B.cell (p:=⟨w.heap.size,0,none⟩) au).trans af.out;obtain⟨aH,c4,rfl,aO,aP⟩:=k.form Df;rw[eF.out]at k;have ak:=gb k;have q:=gb (I.out.trans (B.mono I.out.size));rw[eF.out];clear k B J K L HC;have aD:=gb ax;have aE:Hid (gm w G):=q;go_wp2_with fail;go_loopw [5,6,7,24] (λaB _ _ x wr=>∃H:Nat,x= .int .i64 H/\H<=N/\aB= .int .i64 (SI H)/\Hid (∀j,j<H->¬SI (j+1)<tL j)/\wr=G) (λ_ _ _ x _=>N-(intOf x).toNat)
    case atStart=>exact⟨0,rfl,ge _,by rw[ag.out],gb (λj h=>by omega),rfl⟩
    case round=>
     obtain⟨H,rfl,aS,rfl,HJ,rfl⟩:=hrel;by_cases W:H<N
     ·have av:(H:Int)<N:=(by omega);have c1:=ak.out.cell H (by rw[eF.out];exact W);have C:=ah.out H;have aM:=ai.out (H+1) Df;have ar:(H:Int)+1=((H+1:Nat):Int):=Oa;have aw:(H:Int)*((H+1:Nat):Int)=((H*(H+1):Nat):Int):=(gI _ _).symm;have ao:((H*(H+1):Nat):Int).tdiv 2=tL H:=(by grind [tL]);have aq:H*(H+1)<=90:=by
       have:=gE (show H<=9 by omega) (show H+1<=10 by omega);exact Oa
      have aL:0<=tL H/\tL H<=45:=(by grind);have aV:=iE (tL H) Oa;have az:=iE (SI H+Y.getD H 0) Oa;have ae:=gb (ad.out H W);have s:=gd (¬SI (H+1)<tL H->∀j,j<H+1->¬SI (j+1)<tL j) (λal j h=>Qh);rw[<-C]at az;have aT:=C.symm;clear C;generalize aa:SI (H+1)=s1 at*;have aj:=gb aa;clear aa;generalize SI H=D at*;generalize Y.getD H 0=aW at*;generalize tL H=T at*;generalize H*(H+1)=aA at*;have ap:H+1<=N:=Oa;have aR:N-(H+1)<N-H:=Oa;have aU:=iE ((H+1:Nat):Int) Oa;generalize H+1=i1 at*;by_cases y:s1<T
      ·have HE:=gd (CB=false) (by rw[r.out,ae.out y];rfl);clear s;go_wp2;go_ret2;exact⟨by rw[HE.out];rfl,q.out⟩
      ·have ab:=gb (s.out y);clear s;go_wp2;go_roundw
       case rel=>exact⟨i1,rfl,ap,by rw[aj.out],ab,by grind⟩
       case measure=>exact gQ
     ·obtain rfl:H=N:=(by omega);have av:¬(H:Int)<H:=Oa;have HL:=gb (ac.out (λj h=>by have:=HJ.out j h;omega));rw[HL.out,Bool.not_false,BH]at r;have ar:(H:Int)-1=((H-1:Nat):Int):=Oa;have aw:(H:Int)*((H-1:Nat):Int)=((H*(H-1):Nat):Int):=(gI _ _).symm;have ao:((H*(H-1):Nat):Int).tdiv 2=((H*(H-1)/2:Nat):Int):=(by grind);have aq:H*(H-1)<=81:=gt (gE (show H<=9 by omega) (show H-1<=9 by omega)) Oa;generalize SI H=D at*;have HX:=gd (∀E:Int,(D==E)=decide (D=E)) (λE=>by grind);generalize y:H*(H-1)/2=T at*;generalize H*(H-1)=aA at*;generalize H-1=im at*;go_wp2;go_ret2;exact⟨by rw[r.out,<-HX.out];rfl,q.out⟩
end Go.Proofs.YtnnaadmegeeinaaGreatDoor
