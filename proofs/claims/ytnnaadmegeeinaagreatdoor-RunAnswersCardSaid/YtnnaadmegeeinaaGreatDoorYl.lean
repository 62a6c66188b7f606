/-
  Part 12 of a proof: what it proves stands in the last text.
-/
import Derived.Test.YtnnaadmegeeinaaGreatDoorYk
import Derived.ArgAppend
set_option linter.all false
set_option maxHeartbeats 8000000
set_option maxRecDepth 100000
namespace Go.Proofs.YtnnaadmegeeinaaGreatDoor
open Tryz Go.Proofs.Tryz
open Go.RowKit
def nV:=@List.mem_of_mem_take
def vC:=@decide_eq_decide
def YW:=@Bool.and_assoc
def YY:=@Int.add_mul_emod_self_left
def amd:=@Function.comp_def
theorem MT{p:Prop}(h:p:=by
 clear hF ft;go_wp2;go_roundw
 case rel=>exact⟨ah+1,A+n,by omega,cq,by go_num,by omega,by rw[dK.out];simp_all,by trivial⟩
 case measure=>exact gQ):p:=h
theorem Sk{p:Prop}(h:p:=by
 go_wp2;go_region;go_wp2;go_roundw
 case rel=>exact⟨j+1,by omega,by go_num,HX.out.1,HX.out.2.1,HX.out.2.2⟩
 case measure=>exact gQ):p:=h
theorem SC{p:Prop}(h:p:=by
 go_wp2;go_region;go_wp2;go_roundw
 case rel=>exact⟨j+1,by omega,by go_num,HX.out.1,HX.out.2⟩
 case measure=>exact gQ):p:=h
theorem SO{p:Prop}(h:p:=by simp[Value.oneCell']):p:=h
theorem SY{p:Prop}(h:p:=by
 rcases jh n n0 with hl|hl
 ·exact .inr ⟨hl,be.out n hl⟩
 ·obtain rfl:n=n0:=by omega
  exact .inl ⟨rfl,cy.out⟩):p:=h
theorem Up{p:Prop}(h:p:=by
 go_wp2;go_quiet (fail);go_wp2;go_ret
 exact⟨by rw[HE.out];rfl,gM HA.out.2 _⟩):p:=h
theorem Uu{p:Prop}(h:p:=by
 go_wp2;go_roundw
 case rel=>exact⟨n+1,by omega,by go_num,HX.out.1,HX.out.2⟩
 case measure=>exact gQ):p:=h
theorem UD{p:Prop}(h:p:=by
 obtain⟨H,hi,rfl⟩:=l0.1 hx
 grind):p:=h
theorem UE{p:Prop}(h:p:=by rw[show(pv D).toArray.size=7 from jT.trans ((jS D).trans fg)];kernel_rfl):p:=h
theorem Ds{p:Prop}(h:p:=by have:=h 0;omega):p:=h
theorem DF{p:Prop}(h:p:=by
 go_wp2;go_ret
 exact⟨by rw[HE.out];rfl,HO.out.2⟩):p:=h
theorem Kn{p:Prop}(h:p:=by
 refine⟨λh=>by omega,λ⟨H,hi,_,hl⟩=> ?_⟩
 grind):p:=h
theorem Kz{p:Prop}(h:p:=by unfold pg;grind):p:=h
theorem PA{p:Prop}(h:p:=by
 by_cases e:j=H
 ·grind
 ·exact hH.out j Oa):p:=h
theorem PN{p:Prop}(h:p:=by
 constructor
 ·intro h;by_cases hl:x k<y k
  ·exact⟨k,h1,h2,hl⟩
  exact Oa
 ·rintro⟨H,hi,he,hl⟩
  grind):p:=h
theorem PX{p:Prop}(h:p:=by
 rw[kZ];intro hc;have:=gF.1 hc (g-1) (gC.2 Oa)
 grind):p:=h
theorem QB{p:Prop}(h:p:=by
 rintro e aj ⟨rfl,rfl⟩;go_wp2;go_meet
 exact OK):p:=h
theorem QT{p:Prop}(h:p:=by
 intro hc;obtain⟨x,hx,cB⟩:=iG.1 hc
 exact UD):p:=h
theorem yf(x y:Nat->Nat):Tm x y<0↔oU 7 x y:=by
 rcases p4 (f:=x) (g:=y) 7 with h|⟨k,h1,h2,a⟩
 ·rw[Tn h];exact Kn
 ·rw[To h1 h2 a];exact PN
theorem AA(N:Nat)(x:Nat->Nat):¬oU N x x:=λ⟨i,_,_,h⟩=>Oa
theorem xG{N:Nat}{x y z:Nat->Nat}(e:oU N x y)(f:oU N y z):oU N x z:=by
 obtain⟨i,d,b,l⟩:=e;obtain⟨j,g,c,n⟩:=f;rcases ny i j with h|h|h
 ·exact⟨i,d,λk a=>(b k a).trans (c k Oa),by grind⟩
 ·subst h;exact⟨i,d,λk a=>(b k a).trans (c k a),by omega⟩
 ·exact⟨j,g,λk a=>(b k Oa).trans (c k a),by grind⟩
theorem T8{N:Nat}(x y:Nat->Nat):(∀H,H<N->x H=y H)\/oU N x y\/oU N y x:=by
 rcases p4 (f:=x) (g:=y) N with h|⟨H,h1,h2,a⟩
 ·grind
 ·rcases jh (x H) (y H)with h|h
  ·exact .inr (.inl ⟨H,h1,h2,h⟩)
  ·exact Kc
theorem xF{N:Nat}{x y z:Nat->Nat}(h:∀i,i<N->x i=y i):(oU N x z↔oU N y z)/\(oU N z x↔oU N z y):=by
 refine⟨⟨λ⟨i,a,b,d⟩=>⟨i,a,λj c=>by grind,by grind⟩,λ⟨i,a,b,d⟩=>⟨i,a,λj c=>by grind,by grind⟩⟩,⟨λ⟨i,a,b,d⟩=>⟨i,a,λj c=>by grind,by grind⟩,λ⟨i,a,b,d⟩=>⟨i,a,λj c=>by grind,by grind⟩⟩⟩
theorem AB{N:Nat}{x y z:Nat->Nat}(a:¬oU N x y)(b:¬oU N y z):¬oU N x z:=by
 grind [T8,xF,xG]
theorem ab0{n:Nat}(d:n<=7){x y:Nat->Nat}(P:Mv n x)(Q:Mv n y):oU 7 x y↔sE n x<sE n y:=by
 rw[aj0 P Q];constructor
 ·rintro⟨i,c,b,a⟩;by_cases h:i<n
  ·exact⟨i,h,b,a⟩
  ·rw[P.st i Oa,Q.st i Oa]at a;omega
 ·rintro⟨i,c,b,a⟩;exact⟨i,by omega,b,a⟩
theorem ae8{n:Nat}(a:n<=7){x y:Nat->Nat}(P:Mv n x)(Q:Mv n y):Tm x y<0↔sE n x<sE n y:=(yf x y).trans (ab0 a P Q)
theorem JB{P:Program}{ops:Array Oper}{rest:List Oper}{o:Oper}{a:Act}{Q:Exit->Act->World->Prop}{w:World}{x:Int}{H:Nat}(i:World)(s y:Operand)(g:TypeId)
 (F:o.guard=none) (M:o.op= .call {callee:= .builtin .append,args:= #[s,y],argTypes:= #[g,g]})
 (O:P.underlying g=some (.slice 3)) (hi:(P.info? 3).map (λq=>(q.zero,q.size,q.bytes))=some (some (.int .i64 0),1,8))
 (k:Option Addr) (L c0:Nat) (l:gP) (N:a.eval s= .slice k L L) (R:Sl i (.slice k L c0) l) (D:l.length=L) (ab:L<=100) (S:a.eval y= .slice (some ⟨H,0,none⟩) 1 1)
 (h:∀d c,OI i.heap.size c d (l++[x])->i.grownBy c none->wpList P ops Q rest (a.put o.dst d) c)
 (b:gm i w) (aA:w.cell? ⟨H,0,none⟩=some (.int .i64 x)):
 wpList P ops Q (o::rest) a w:=by
 obtain⟨W,G,T,U,V⟩:=ml hi;obtain⟨Y,c',v,aa,E⟩:=R.out;simp only[iU]at v;obtain⟨C,e2,e3⟩:=v;subst C;refine wpList_append_grows w F s y g M 3 W (.int .i64 0) 1 8 O G T U V rfl Oc k L L (l.map (Value.int .i64)) N ?_ (by simp[D]) ?_ ⟨H,0,none⟩ 1 1 [.int .i64 x] S rfl ?_ ?_ Oa Mm Oa ?_
 ·grind
 ·intro Z B j ag hj;by_cases n:j<l.length
  ·obtain⟨A,X,r,J,aA⟩:=E Oa;rw[B]at r;cases r;rw[gY,gn n]at hj;simp at hj;subst hj;have f:=(b.cell (p:=⟨A,X+j,none⟩) J).trans (aA j n);rw[gc,gn n]at f;rw[F7];exact f
  grind
 ·exact Mt
 ·intro ag t;simp at t;subst t;rfl
 ·intro d c h1 e;refine h d c ?_ ⟨e.os.trans b.os,e.tape.trans b.tape,e.output.trans b.output,gt b.size e.size,λz I K=>(e.block z (by have:=b.size;omega) K).trans (b.block z I)⟩;have f:Ow 3 w.heap.size c d ((l++[x]).map (Value.int .i64)):=by
   grind [Ow]
  exact OI.mono (show OI w.heap.size c d (l++[x])from f) b.size
def GA(n k:Nat)(l:gA)(W:Nat)(v:Value)(d:Ending)(w':World):Prop:=∃(a:Option Addr)(c b:Nat),d= .returned (.tuple #[.slice a c b,.bool (xa n k l).isSome])/\∀r,xa n k l=some r->Sl w' (.slice a c b) (jj r)/\(k=0/\ .slice a c b=v/\r=l\/OI W w' (.slice a c b) (jj r))
theorem aa0(n:Nat)(l:gA)(a c R:Nat):Zd n l a c (R+1)=(Zd n l a c R&&decide (l.getD (a+n*R) 0≠c)):=by
 grind [Zd]
theorem agw(l:gA)(c:Nat):decide ((c:Int)∈jj l)=decide (c∈l):=by
 rw[vC];unfold jj
 grind
theorem acR(l:gA)(i:Nat):(jj l).drop i=jj (l.drop i):=by unfold jj;rw[List.map_drop]
theorem CV(n:Nat)(aP:1<=n)(aQ:n<=8):∀(k R:Nat)(l:gA)(a:Option Addr)(c:Nat)(w:World),k<=n->l.length=n*R+(n-k)->n*R+n<=64->(∀x∈l,x<n)->Sl w (.slice a l.length c) (jj l)->
 Calls prog 199 #[.int .i64 n,.slice a l.length c,.int .i64 ((n-k:Nat):Int)] w λV g=>GA n k l w.heap.size (.slice a l.length c) V g/\gm w g
 |0,R,l,a,c,w,hk,Y,o,aa,q=>by
  have aw:((n-0:Nat):Int)=n:=Oa;have am:=gd (xa n 0 l=some l) rfl;have S:=gb q;rw[aw];clear aw Y aa q;generalize l.length=N at*;go_enter func199,ntmps199;go_wp2;go_ret2;exact⟨⟨_,_,_,by rw[am.out];rfl,λah j=>by rw[am.out]at j;cases j;exact⟨S.out,.inl ⟨rfl,rfl,rfl⟩⟩⟩,f0 _ _⟩
 |k+1,R,l,a,c,w,hk,Y,o,aa,q=>by
  obtain⟨b,ar⟩:∃b,n-(k+1)=b:=⟨_,rfl⟩;have a4:b<n:=Oa;have av:l.length=n*R+b:=Oa;have aq:n-k=b+1:=Oa
  have IH:=gb (λ(x:Nat)(v:Option Addr)(c2:Nat)(f:World)(hx:x<n)(L:Sl f (.slice v (l.length+1) c2) (jj (l++[x])))=>(show Calls prog 199 #[.int .i64 n,.slice v (l.length+1) c2,.int .i64 ((b:Int)+1)] f λV g=>GA n k (l++[x]) f.heap.size (.slice v (l.length+1) c2) V g/\gm f g from by
   have U:(l++[x]).length=l.length+1:=On
   have h:=CV n aP aQ k R (l++[x]) v c2 f Oa Oa o (λO hy=>by
    grind) (by grind)
   rw[U,aq]at h
   exact h))
  obtain⟨d,al⟩:∃d,n*R=d:=⟨_,rfl⟩;have a3:l.length<=c:=by
   obtain⟨a',c',e,K,_⟩:=q.out
   grind
  have aA:=gb (λ(f:World)(x:Nat)(W:gm w f)=>(show Calls prog 250 #[.slice (if c=d then a else a.map (·.add d)) b (c-d),.int .i64 x] f λe g=>e= .returned (.bool (decide (x∈l.drop d)))/\f=g from by
   have K:=(q.below W).slice (lo:=d) (hi:=l.length) Oa (fZ _);rw[show l.length-d=b by omega,acR,show(jj (l.drop d)).take b=jj (l.drop d)from ie (by rw[jw,ow];omega)]at K;have L:=B3 _ _ (x:Int) f K;rw[agw]at L
   exact L))
  have dB:=gd (l.length=0/\b=0/\d=0\/∃i s,a=some ⟨i,s,none⟩/\i<w.heap.size/\∀r,r<l.length->w.cell? ⟨i,s+r,none⟩=some (.int .i64 ((l.getD r 0:Nat):Int))) (by
   rcases jz l.length with h0|h0
   ·exact Oa
   ·obtain⟨a',c',e,_,L⟩:=q.out
    grind [mL])
  have af:=gd (∀ah,b+n*ah<d↔ah<R) (λah=>by
   rw[<-al];constructor
   ·intro h;refine gx λhc=> ?_;have:=iI n (show R<=ah by omega);exact Oa
   ·intro h;have:=iI n (show ah+1<=R by omega)
    grind)
  have aD:=gd (∀x,Zc n l b x=(!decide (x∈l.drop d)&&Zd n l b x R)) (λx=>by
   grind [Zc,Nat.mul_div_cancel_left])
  have S:=gb (λ(f:World)(W:gm w f)=>q.below W);have aC:=gb (aaX n k l);have P:=gb (λx C=>ai9 (n:=n) (k:=k) (c:=x) (l:=l) (C:=C));have ak:=gb (λx C ah=>afJ (n:=n) (k:=k) (c:=x) (l:=l) (C:=C) (r:=ah));have aF:=gb (afI n k l);have aI:=gb (λx (h:x<n)=>I3 h);have aB:=gb (agM n);have aJ:=gb (aa0 n l b);have ai:=gb (tA l);have ag:=gb (jw l);have aG:=gd (∀ah,n*(ah+1)=n*ah+n) (λah=>mb n ah);have az:=gb (f0 w.heap.size w);rw[ar]at P ak⊢;have a1:l.length<=64:=Oa;have a2:d+n<=64:=Oa;have a7:(l.length:Int)-b=d:=Oa;have a5:((b:Int)==n)=false:=(by grind);have aY:d<=l.length:=Oa;have aZ:(l.length:Int)-d=b:=Oa;have a0:l.length-d=b:=Oa;have aU:=gb av;clear aa q Y hk ar aq al o av;unfold GA;generalize xa n (k+1) l=t at*;generalize l.length=N at*;go_enter func199,ntmps199;go_wp2;go_loopw [23] (λiv wr=>∃x:Nat,x<=n/\iv= .int .i64 x/\Hid (exS n k l (List.range' x (n-x))=t)/\gm w wr) (λiv _=>n-(intOf iv).toNat)
  case atStart=>exact⟨0,ge _,rfl,gb aC.out.symm,az.out⟩
  case round=>
   obtain⟨x,a8,rfl,o,G⟩:=hrel;by_cases ay:x<n
   ·have aS:(x:Int)<n:=(by omega);have Q:=gd (exS n k l (x::List.range' (x+1) (n-(x+1)))=t) (by rw[<-aI.out x ay];exact o.out);have bN:=gb G;have I:=gb (aA.out wr x G);have ae:=gb (aD.out x);have aK:=gb (aJ.out x);clear G o;obtain⟨D,hD⟩:∃D,decide (x∈l.drop d)=D:=⟨_,rfl⟩;rw[hD]at I ae;clear hD
    have ac:=gd (c=d->Calls prog 250 #[.slice a b 0,.int .i64 x] wr λe g=>e= .returned (.bool D)/\wr=g) (λe=>by
     have:=I.out;rw[gl e,e,jU]at this
     exact this)
    have ad:=gd (¬c=d->Calls prog 250 #[.slice (a.map (·.add d)) b (c-d),.int .i64 x] wr λe g=>e= .returned (.bool D)/\wr=g) (λe=>by
     have:=I.out;rw[gh e]at this
     exact this)
    clear I;go_upto_region 7 with fail;go_cut [10]from 24 to 68 (λaT wc=>aT= .bool (!D)/\wc=wr)
    case first=>
     go_wp2_with fail
     ·have aO:c=d:=(by assumption);subst aO;refine(ac.out rfl).mono ?_;exact QB
     ·refine(ad.out (by assumption)).mono ?_;exact QB
    case rest=>
     obtain⟨rfl,aR⟩:=hcut;subst aR;clear ac ad;go_wp2;go_loopw [10,11] (λfv T wq=>∃ah A:Nat,ah<=R/\Hid (A=b+n*ah)/\T= .int .i64 A/\A<=100/\fv= .bool (!D&&Zd n l b x ah)/\wq=wc) (λ_ T _=>d-(intOf T).toNat)
     case atStart=>exact⟨0,b,ge _,gb rfl,rfl,by omega,by unfold Zd;simp,rfl⟩
     case round=>
      obtain⟨ah,A,a6,H,rfl,aV,rfl,rfl⟩:=hrel;by_cases aW:A<d
      ·have aL:(A:Int)<d:=(by omega);have ab:ah<R:=(af.out ah).1 (by have:=H.out;omega);have cq:=gd (A+n=b+n*(ah+1)) (by rw[aG.out,H.out];omega);obtain⟨i,s,rfl,aM,ap⟩:∃i s,a=some ⟨i,s,none⟩/\i<w.heap.size/\∀r,r<N->w.cell? ⟨i,s+r,none⟩=some (.int .i64 ((l.getD r 0:Nat):Int)):=Pe;have c1:=(bN.out.cell (p:=⟨i,s+A,none⟩) aM).trans (ap A Oa);have aX:A<N:=Oa;have J:=gb (aK.out ah);rw[<-H.out]at J;clear ap;generalize l.getD A 0=O at*;cases hF:(!D&&Zd n l b x ah)with
       |false=>
        have dK:=gd ((!D&&Zd n l b x (ah+1))=false) (by
         rw[J.out,<-YW,hF]
         rfl)
        clear hF;go_wp2;go_roundw
        case rel=>exact⟨ah+1,A+n,by omega,cq,by go_num,by omega,by rw[dK.out],by trivial⟩
        case measure=>exact gQ
       |true=>
        by_cases ft:O=x
        ·have aN:((O:Int)==x)=true:=by simp_all
         have dK:=gd ((!D&&Zd n l b x (ah+1))=false) (by
          rw[J.out,<-YW,hF,gp (λh=>h ft)]
          rfl)
         exact MT
        ·have aN:((O:Int)==x)=false:=by rw[gL];omega
         have dK:=gd ((!D&&Zd n l b x (ah+1))=true) (by
          rw[J.out,<-YW,hF,gy ft]
          rfl)
         exact MT
      ·have aL:¬(A:Int)<d:=(by omega);have ab:ah=R:=by
        have:=(af.out ah).2;have K:=H.out;exact Oa
       rw[ab,<-ae.out];clear ab;cases hF:Zc n l b x with
       |false=>
        have HN:=gd (exS n k l (List.range' (x+1) (n-(x+1)))=t) (by rw[<-Q.out];exact(P.out x _ (.inl hF)).symm);clear hF;go_wp2;go_roundw
        case rel=>exact⟨x+1,by omega,by go_num,gb HN.out,bN.out⟩
        case measure=>exact gQ
       |true=>
        have aE:=gb hF;have ax:=S.out wr bN.out;clear hF;go_wp2_with (first|(at_builtin;refine JB wr _ _ 45 rfl rfl underlying45 info3 a N c (jj l) rfl ax ag.out Oa rfl ?_ ((f0 _ _).alloc (fZ _) _) (kY _ _ _);intro v4 w4 z au)|fail);obtain⟨v,c2,rfl⟩:=z.len;have Z:(jj l++[(x:Int)]).length=N+1:=(by rw[gz,ag.out];rfl);rw[Z]at z⊢;rw[<-ai.out]at z;have ao:=bN.out.grown au bN.out.size (λk e=>by cases e);have E:=gb (IH.out x v c2 w4 ay (z.sl (by rw[ai.out,Z];omega)));have B:=gb ao;have aH:=gb z;clear z au ao ax Z;unfold GA at E;cases j:xa n k (l++[x])with
        |none=>
         have HN:=gd (exS n k l (List.range' (x+1) (n-(x+1)))=t) (by rw[<-Q.out];exact(P.out x _ (.inr j)).symm);rw[j]at E;clear j;refine E.out.mono ?_;rintro e6 w6 ⟨⟨pa,pn,pc,rfl,M⟩,y⟩;have F:=gb (B.out.trans (y.mono B.out.size));clear y M;go_wp2;go_roundw
         case rel=>exact⟨x+1,by omega,by go_num,gb HN.out,F.out⟩
         case measure=>exact gQ
        |some r'=>
         have HN:=gd (t=some r') (by rw[<-Q.out];exact ak.out x _ r' aE.out j);rw[j]at E;clear j;refine E.out.mono ?_;rintro e6 w6 ⟨⟨pa,pn,pc,rfl,M⟩,y⟩;have X:=M r' rfl;have an:OI w.heap.size w6 (.slice pa pn pc) (jj r'):=by
          rcases X.2 with⟨_,U,e2⟩|h
          ·rw[U,e2];exact(aH.out.below y).mono bN.out.size
          ·exact h.mono B.out.size
         have F:=ju X.1 an (B.out.trans (y.mono B.out.size));clear y M X an;go_wp2;go_ret2;exact⟨⟨_,_,_,by rw[HN.out];rfl,λr2 eK=>by rw[HN.out]at eK;cases eK;exact⟨F.out.1,.inr F.out.2.1⟩⟩,F.out.2.2⟩
   ·obtain rfl:x=n:=(by omega);have aS:¬(x:Int)<x:=Oa;have HN:=gd (t=none) (by rw[<-o.out,aB.out,aF.out]);have bN:=gb G;clear G o;exact MQ
def Za(P t base:Nat)(d:gA)(a:gA):Nat->gA
 |0=>a
 |i+1=>(Za P t base d a i).set (base+i) (((Za P t base d a i).getD (base+i) 0+(P-t)*d.getD i 0)%P)
def Zb(P deg k:Nat)(d:gA)(a:gA):Nat->gA
 |0=>a
 |s+1=>Za P ((Zb P deg k d a s).getD (k-s) 0) (k-s-deg) d (Zb P deg k d a s) (deg+1)
def dvB(P deg k:Nat)(d a:gA):Bool:=decide (Zb P deg k d a (k+1-deg)=List.replicate 7 0)
theorem lQ{P:Nat}{l:gA}(h:∀j,l.getD j 0<P){i x:Nat}(a:x<P):∀j,(l.set i x).getD j 0<P:=by
 intro j;rw[gc,jx];by_cases e:i=j
 ·grind
 exact OK
theorem E0(P t base:Nat)(d a:gA):∀i,(Za P t base d a i).length=a.length
 |0=>rfl
 |i+1=>by rw[Za,jY,E0 P t base d a i]
theorem LY{P t base:Nat}{d a:gA}(h:∀j,a.getD j 0<P):∀i j,(Za P t base d a i).getD j 0<P
 |0=>h
 |i+1=>lQ (LY h i) (iD _ Ds)
theorem TL(P deg k:Nat)(d a:gA):∀s,(Zb P deg k d a s).length=a.length
 |0=>rfl
 |s+1=>by rw[Zb,E0,TL P deg k d a s]
theorem aaO{P deg k:Nat}{d a:gA}(h:∀j,a.getD j 0<P):∀s j,(Zb P deg k d a s).getD j 0<P
 |0=>h
 |s+1=>LY (aaO h s) _
theorem Ho(P deg k:Nat)(d a:gA)(w:World)(hP:2<=P)(aw:P<=64)(hd:d.length=7)(ha:a.length=7)(U:∀j,d.getD j 0<P)(S:∀j,a.getD j 0<P)(h1:1<=deg)(h2:deg<=k)(h3:k<=6):
 Calls prog 235 #[.int .i64 P,.agg (pv d).toArray,.int .i64 deg,.agg (pv a).toArray,.int .i64 k] w λan w'=>an= .returned (.bool (dvB P deg k d a))/\gm w w':=by
 have Q:hU ((w.alloc (.cells (pv d).toArray 168)).alloc (.cells (pv a).toArray 168)) w.heap.size 168 (pv d):=(hU.new w _ _).alloc _;have z:hU ((w.alloc (.cells (pv d).toArray 168)).alloc (.cells (pv a).toArray 168)) (w.alloc (.cells (pv d).toArray 168)).heap.size 168 (pv a):=hU.new _ _ _;rw[iV]at z;have o:=ju Q z (((f0 w.heap.size w).alloc (fZ _) (.cells (pv d).toArray 168)).alloc On (.cells (pv a).toArray 168));clear Q z;have v:=gb (λs=>(TL P deg k d a s).trans ha);have G:=gb (λs j=>aaO (deg:=deg) (k:=k) (d:=d) S s j);have H:=gd (Zb P deg k d a 0=a) rfl;have J:=gd (∀s,Zb P deg k d a (s+1)=Za P ((Zb P deg k d a s).getD (k-s) 0) (k-s-deg) d (Zb P deg k d a s) (deg+1)) λs=>rfl;have ad:=gb (λt e (x:gA) i=>E0 P t e d x i);have ah:=gb (λt e (x:gA) (l:∀j,x.getD j 0<P) i j=>LY (t:=t) (base:=e) (d:=d) l i j);have ab:=gd (∀t e (x:gA),Za P t e d x 0=x) λt e x=>rfl;have af:=gd (∀t e (x:gA) i,Za P t e d x (i+1)=(Za P t e d x i).set (e+i) (((Za P t e d x i).getD (e+i) 0+(P-t)*d.getD i 0)%P)) λt e x i=>rfl;have r:=gd (dvB P deg k d a=decide (Zb P deg k d a (k+1-deg)=List.replicate 7 0)) rfl;have aa:=gb U;have X:∀x y,x<=64->y<P->x*y<=4096:=λx y hx hy=>gE hx (show y<=64 by omega);have HM:=gb X;generalize dvB P deg k d a=ak at*;obtain⟨O,R⟩:∃O,O=Zb P deg k d a:=⟨_,rfl⟩;rw[<-R]at v G H J r;clear R U S X;go_enter func235,ntmps235;go_wp2;go_loopw [11,12,13,14,26] (λx _ _ _ _ wr=>∃s b:Nat,s+b=k/\deg<=b+1/\x= .int .i64 b/\hU wr w.heap.size 168 (pv d)/\hU wr (w.heap.size+1) 168 (pv (O s))/\gm w wr) (λx _ _ _ _ _=>(intOf x).toNat)
 case atStart=>exact⟨0,k,by omega,by omega,rfl,o.out.1,by rw[H.out];exact o.out.2.1,o.out.2.2⟩
 case round=>
  clear o;obtain⟨s,b,aF,aI,rfl,h,f,g⟩:=hrel;by_cases ay:deg<=b
  ·have aq:k-s=b:=(by omega);have E:=J.out s;rw[aq]at E;have C:=v.out s;have D:=G.out s;have aJ:=D b;have T:=f.cell b;rw[m5 Oa]at T;have p:=ju h f g;have aj:=gb E;have q:=ab.out ((O s).getD b 0) (b-deg) (O s);have ae:=gb (λi=>(ad.out ((O s).getD b 0) (b-deg) (O s) i).trans C);have ai:=gb (ah.out ((O s).getD b 0) (b-deg) (O s) D);have ag:=gb (af.out ((O s).getD b 0) (b-deg) (O s));have az:(deg:Int)<=b:=Oa;have aK:(b:Int)<7:=Oa;have aG:(b:Int)-deg=((b-deg:Nat):Int):=Oa;have ac:=gb q;clear h f g D E q;generalize hI:Za P ((O s).getD b 0) (b-deg) d (O s)=I at*;clear hI;generalize (O s).getD b 0=t at*;generalize b-deg=c at*;go_wp2;go_loopw [13,14,26] (λ_ _ i F=>∃j:Nat,j<=deg+1/\i= .int .i64 j/\hU F w.heap.size 168 (pv d)/\hU F (w.heap.size+1) 168 (pv (I j))/\gm w F) (λ_ _ i _=>deg+1-(intOf i).toNat)
   case atStart=>exact⟨0,by omega,rfl,p.out.1,by rw[ac.out];exact p.out.2.1,p.out.2.2⟩
   case round=>
    clear p T;obtain⟨j,hj,rfl,h,f,g⟩:=hrel;by_cases aC:j<deg+1
    ·have ar:=ae.out j;have W:=ag.out j;have B:=f.cell (c+j);rw[m5 Oa]at B;have V:=f.frozen (c+j);have A:=h.cell j;rw[m5 Oa]at A;have n:=hU.stored (w:=wr.drew) f (c+j) (.int .i64 ((((I j).getD (c+j) 0+(P-t)*d.getD j 0)%P:Nat):Int));rw[r9,<-W]at n;have aE:=ai.out j (c+j);have au:=aa.out j;have hm:=HM.out (P-t) (d.getD j 0) Oa au;have HX:=ju (hU.kept (w:=wr.drew) h n.2 On) n.1 ((g.drew).grown n.2 g.size (λk l=>by grind));have n1:(P:Int)-t=((P-t:Nat):Int):=Oa;have n2:((P-t:Nat):Int)*((d.getD j 0:Nat):Int)=(((P-t)*d.getD j 0:Nat):Int):=(gI _ _).symm;have n3:(((I j).getD (c+j) 0:Nat):Int)+(((P-t)*d.getD j 0:Nat):Int)=(((I j).getD (c+j) 0+(P-t)*d.getD j 0:Nat):Int):=Oa;have n4:((((I j).getD (c+j) 0+(P-t)*d.getD j 0:Nat)):Int).tmod (P:Int)=((((I j).getD (c+j) 0+(P-t)*d.getD j 0)%P:Nat):Int):=(gO _ _).symm;have n5:(c:Int)+j=((c+j:Nat):Int):=Oa;have aA:(j:Int)<7:=Oa;have ax:c+j<7:=Oa;have aB:(j:Int)<deg+1:=Oa;have A:wr.drew.cell? ⟨w.heap.size,j,none⟩=_:=A;have B:wr.drew.cell? ⟨w.heap.size+1,c+j,none⟩=_:=B;have V:wr.drew.frozen? ⟨w.heap.size+1,c+j,none⟩=false:=V;clear h f g n W ar;generalize (I j).getD (c+j) 0=K at*;generalize d.getD j 0=am at*;generalize P-t=pt at*;generalize ao:c+j=at' at*;clear ao;generalize pt*am=Z at*;have aH:K+Z<=5000:=Oa;generalize av:K+Z=sm at*;clear av;generalize sm%P=aL at*;exact Sk
    ·obtain rfl:j=deg+1:=(by omega);have HX:=ju h f g;clear h f g;go_wp2;go_roundw
     case rel=>exact⟨s+1,b-1,by omega,by omega,by go_num,HX.out.1,by rw[aj.out];exact HX.out.2.1,HX.out.2.2⟩
     case measure=>exact gQ
  ·have Y:s=k+1-deg:=(by omega);rw[<-Y]at r;have C:=v.out s;have aD:¬(deg:Int)<=b:=Oa;have HB:=gb g;have r2:=f.range;have i1:(prog.info? 168).map (·.size)=some (pv (O s)).length:=(by rw[jS,C];kernel_rfl);obtain⟨i0,q,_⟩:=ml info3;have ap:=Ja (P:=prog) wr 9998 underlying168 underlying3 q Ob (xs:=(O s).map λx:Nat=>(x:Int)) (ys:=(List.replicate 7 0).map λx:Nat=>(x:Int)) (by grind) On;have L:((O s).map λx:Nat=>(x:Int)).map (Value.int .i64)=pv (O s):=(by simp[pv]);have M:(((List.replicate 7 0).map λx:Nat=>(x:Int)).map (Value.int .i64)).toArray= #[.int .i64 0,.int .i64 0,.int .i64 0,.int .i64 0,.int .i64 0,.int .i64 0,.int .i64 0]:=rfl;have N:decide (((O s).map λx:Nat=>(x:Int))=((List.replicate 7 0).map λx:Nat=>(x:Int)))=ak:=by
    rw[r.out];refine vC.2 ⟨λl=> ?_,λl=>by rw[l]⟩;have:=jA (List.map Int.toNat) l;simpa [jL,amd]using this
   rw[L,M,N]at ap;clear h f g L M N Y;generalize pv (O s)=al at*;go_wp2_with (refine ii rfl 168 _ rfl (w.heap.size+1) 0 rfl al _ r2 underlying168 rfl i1 ?_);go_ret;exact⟨rfl,HB.out⟩
def WR(P g n:Nat):gA:=(jo P n 7).set g 1
def irD(P k:Nat)(lk:gA)(g:Nat):Bool:=(List.range (P^g)).all λn=> !(dvB P g k (WR P g n) lk)
def yp(P k:Nat)(low:gA):Bool:=(List.range (k/2)).all λi=>irD P k (low.set k 1) (i+1)
theorem ajp{P k g n:Nat}{lk:gA}(b:n<P^g)(h:dvB P g k (WR P g n) lk=true):irD P k lk g=false:=by
 rw[kZ];intro a;have:=gF.1 a n (gC.2 b)
 grind
theorem af1{P k g:Nat}{lk:gA}(h:∀n,n<P^g->dvB P g k (WR P g n) lk=false):irD P k lk g=true:=
 gF.2 λn a=>by grind
theorem ajo{P k g:Nat}{low:gA}(a:1<=g)(b:2*g<=k)(h:irD P k (low.set k 1) g=false):yp P k low=false:=PX
theorem af0{P k:Nat}{low:gA}(h:∀g,1<=g->2*g<=k->irD P k (low.set k 1) g=true):yp P k low=true:=
 gF.2 λi a=>h (i+1) Oa (by grind)
theorem ai4{P g n:Nat}(a:2<=P):∀j,(WR P g n).getD j 0<P:=by
 refine lQ (λj=> ?_) Oa;rw[gc];by_cases h:j<7
 ·simp[jo,h];exact iD _ Oa
 grind [jo]
theorem TK(P g n:Nat):(WR P g n).length=7:=by simp[WR,jo]
theorem tn(P k:Nat)(low:gA)(w:World)(L:2<=P)(X:P<=64)(aU:1<=k)(aK:k<=6)(hq:P^k<=64)(hl:low.length=7)(ae:∀j,low.getD j 0<P):
 Calls prog 183 #[.int .i64 P,.int .i64 k,.agg (pv low).toArray] w λe w'=>e= .returned (.bool (yp P k low))/\gm w w':=by
 have ad:(low.set k 1).length=7:=by grind
 have aO:(pv low).set k (Value.int .i64 1)=pv (low.set k 1):=r9 low k 1;have H:=gd (hU (w.alloc (.cells ((pv low).set k (Value.int .i64 1)).toArray 168)) w.heap.size 168 (pv (low.set k 1))/\Below w.heap.size w (w.alloc (.cells ((pv low).set k (Value.int .i64 1)).toArray 168))) ⟨by grind [hU.new],(f0 w.heap.size w).alloc (fZ _) _⟩;have aN:(pv low)[k]? =some (.int .i64 ((low.getD k 0:Nat):Int)):=m5 Oa;have ac:∀j,(low.set k 1).getD j 0<P:=lQ ae Oa;have ao:=gb (λn v (h:n<128)=>tU P n v L X h);have ap:=gb (λg n v (c:1<=g) (t:g<=k)=>Ho P g k (WR P g n) (low.set k 1) v L X (TK P g n) ad (ai4 L) ac c t aK);have ar:=gb (λg n c h=>ajp (P:=P) (k:=k) (g:=g) (n:=n) (lk:=low.set k 1) c h);have aw:=gb (λg h=>af1 (P:=P) (k:=k) (g:=g) (lk:=low.set k 1) h);have aj:=gb (λg c t h=>ajo (P:=P) (k:=k) (g:=g) (low:=low) c t h);have al:=gb (λh=>af0 (P:=P) (k:=k) (low:=low) h);have aC:=gd (∀i,P^(i+1)=P^i*P) λi=>rfl;have aB:=gd (P^0=1) rfl;have T:=gd (∀i,i<=k->P^i<=64) (λi hi=>gt (gN Oa hi) hq);have aq:=gd (∀n,(jo P n 7).length=7) (λn=>kg P n 7);have av:=gd (∀g n,(jo P n 7).set g 1=WR P g n) λg n=>rfl;have au:=gb (λg n=>TK P g n);have aV:(k:Int)<7:=Oa;generalize yp P k low=U at*;obtain⟨f,Z⟩:∃f:Nat->Nat,f=λi=>P^i:=⟨_,rfl⟩;have s:=gd (∀i,P^i=f i) (λi=>by rw[Z]);generalize low.set k 1=b at*;generalize low.getD k 0=aY at*;clear Z ac ae hq aO;go_enter func183,ntmps183;go_wp2;go_loopw [7,8,9,10,20,27] (λC _ _ _ _ _ wr=>∃g:Nat,1<=g/\2*g<=k+2/\C= .int .i64 g/\Hid (∀p,1<=p->p<g->irD P k b p=true)/\hU wr w.heap.size 168 (pv b)/\gm w wr) (λC _ _ _ _ _ _=>k+2-(intOf C).toNat)
 case atStart=>exact⟨1,by omega,by omega,rfl,gb (λg c t=>by omega),H.out.1,H.out.2⟩
 case round=>
  clear H aN;obtain⟨g,aa,aQ,rfl,x,q,l⟩:=hrel;by_cases aH:2*g<=k
  ·have aI:2*(g:Int)<=k:=(by omega);have I:=gR q l;have ax:=gb x.out;clear q l x;go_wp2;go_loop [8,20] (λaP i=>∃j:Nat,j<=g/\i= .int .i64 j/\aP= .int .i64 (f j:Nat)) (λ_ i=>g-(intOf i).toNat)
   case atStart=>exact⟨0,ge _,rfl,by rw[<-s.out,aB.out];rfl⟩
   case round=>
    obtain⟨j,hj,rfl,rfl⟩:=hrel;have aL:=T.out j Oa;rw[s.out]at aL;by_cases aT:j<g
    ·have hs:=aC.out j;rw[s.out,s.out]at hs;have ab:=T.out (j+1) Oa;rw[s.out]at ab;have n1:(f j:Int)*P=((f (j+1):Nat):Int):=Oa;have aJ:(j:Int)<g:=Oa;clear hs;obtain⟨ah,R⟩:∃ah,ah=f (j+1):=⟨_,rfl⟩;rw[<-R]at n1 ab;have HY:=gb R;clear R;generalize f j=C at*;go_wp2;go_round
     case rel=>exact⟨j+1,by omega,by go_num,by rw[HY.out]⟩
     case measure=>exact gQ
    ·obtain rfl:j=g:=(by omega);have aJ:¬(j:Int)<j:=Oa;go_wp2;go_loopw [9,10,27] (λ_ _ i wq=>∃n:Nat,n<=f j/\i= .int .i64 n/\Hid (∀d,d<n->dvB P j k (WR P j d) b=false)/\hU wq w.heap.size 168 (pv b)/\gm w wq) (λ_ _ i _=>f j-(intOf i).toNat)
     case atStart=>exact⟨0,ge _,rfl,gb (λn h=>by omega),I.out.1,I.out.2⟩
     case round=>
      clear I;obtain⟨n,hn,rfl,y,q,l⟩:=hrel;by_cases aM:n<f j
      ·have aW:(n:Int)<(f j:Int):=(by omega);have an:=gb (ao.out n wr Oa);have am:=gb (λv=>ap.out j n v aa Oa);have ay:=gb (ar.out j n (by rw[s.out];exact aM))
       have az:=gd (dvB P j k (WR P j n) b=false->∀d,d<n+1->dvB P j k (WR P j d) b=false) (λh d af=>by
        by_cases e:d=n
        ·rw[e];exact h
        ·exact y.out d Oa)
       have ak:=gb (aj.out j aa aH);have G:=gR q l;have fg:=aq.out n;have aG:=av.out j n;have aF:=au.out j n;have aR:(j:Int)<7:=Oa;have aS:j<7:=Oa;clear y q l;generalize dvB P j k (WR P j n) b=ai at*;generalize WR P j n=E at*;generalize jo P n 7=D at*;go_wp2_with fail;refine an.out.mono ?_;rintro e a ⟨rfl,N⟩;have J:=G.out.1.below N;have z:=G.out.2.trans (N.mono G.out.2.size);have aX:w.heap.size<a.heap.size:=J.lt;have V:=J.alloc (.cells (pv (List.replicate 7 0)).toArray 168);have K:hU (a.alloc (.cells (pv (List.replicate 7 0)).toArray 168)) a.heap.size 168 ([]++pv (List.replicate 7 0)):=hU.new a _ _;have t1:=K.there;have t2:(a.alloc (.cells (pv (List.replicate 7 0)).toArray 168)).there a.heap.size 0 (pv D).toArray.size:=by
        rw[show(pv D).toArray.size=7 from jT.trans ((jS D).trans fg)];exact t1
       have i2:(prog.info? 168).map (·.size)=some (pv D).toArray.size:=UE;have ag:hU ((a.alloc (.cells (pv (List.replicate 7 0)).toArray 168)).setCells a.heap.size 0 (pv D)) a.heap.size 168 (pv D):=hU.setCells (pv D) [] (pv (List.replicate 7 0)) _ K (by rw[jS,jS,fg,x6]);have Q:=iu (b:=a.heap.size) (pv D) 0 (a.alloc (.cells (pv (List.replicate 7 0)).toArray 168));have W:=V.kept Q (λe=>by simp_all);have Y:=(z.alloc z.size (.cells (pv (List.replicate 7 0)).toArray 168)).grown Q (gt z.size On) (λk h=>by cases h;omega);have r:=ju ag W Y;have i5:(prog.info? 168).map (·.size)=some (pv E).length:=(by rw[jS,aF];kernel_rfl);have i6:(prog.info? 168).map (·.size)=some (pv b).length:=(by rw[jS,ad];kernel_rfl);clear J z V K t1 ag Q W Y N
       go_wp2_with (first
        |(refine iA rfl 168 _ _ rfl a.heap.size 0 (pv D).toArray rfl rfl t2 i2 (vl D) ?_;show wpList _ _ _ _ _ ((a.alloc (.cells (pv (List.replicate 7 0)).toArray 168)).setCells a.heap.size 0 (pv D));generalize ((a.alloc (.cells (pv (List.replicate 7 0)).toArray 168)).setCells a.heap.size 0 (pv D))=B at r⊢;have c14:=r.out.1.cell j;rw[m5 Oa]at c14;have aE:=r.out.1.frozen j;have A:hU (B.setCell ⟨a.heap.size,j,none⟩ (.int .i64 1)) a.heap.size 168 (pv E)/\B.grownBy (B.setCell ⟨a.heap.size,j,none⟩ (.int .i64 1)) (some a.heap.size):=(by have:=hU.stored (w:=B) (b:=a.heap.size) (xs:=pv D) r.out.1 j (.int .i64 ((1:Nat):Int));rw[r9,aG]at this;exact this);have S:=r.out.2.1.kept A.2 (λe=>by simp_all);have r5:=A.1.range;have r6:=S.range;have F:=gR S (r.out.2.2.grown A.2 r.out.2.2.size (λk h=>by cases h;omega));clear t2 i2 A S)
        |(refine ii rfl 168 _ rfl a.heap.size 0 rfl (pv E) _ r5 underlying168 rfl i5 ?_)
        |(refine ii rfl 168 _ rfl w.heap.size 0 rfl (pv b) _ r6 underlying168 rfl i6 ?_))
       refine(am.out _).mono ?_;rintro e w6 ⟨rfl,O⟩;have o:=gR (F.out.1.below O) (F.out.2.trans (O.mono F.out.2.size));clear O r5 r6 c14 aE;cases ai with
       |true=>
        have M:U=false:=ak.out (ay.out rfl);subst M;go_wp2;go_ret;exact⟨rfl,o.out.2⟩
       |false=>
        have aA:=gb (az.out rfl);go_wp2;go_roundw
        case rel=>exact⟨n+1,by omega,by go_num,aA,o.out.1,o.out.2⟩
        case measure=>exact gQ
      ·obtain rfl:n=f j:=(by omega);have HD:=gb (aw.out j (λd af=>y.out d (by rw[<-s.out];exact af)));have o:=gR q l;clear q l y;go_wp2;go_roundw
       case rel=>
        refine⟨j+1,by omega,by omega,by go_num,gb (λp c t=> ?_),o.out.1,o.out.2⟩;by_cases e:p=j
        ·rw[e];exact HD.out
        ·exact ax.out p c Oa
       case measure=>exact gQ
  ·have aI:¬2*(g:Int)<=k:=(by omega);have M:U=true:=al.out (λp c t=>x.out p c Oa);subst M;have o:=gb l;clear q l x;go_wp2;go_ret;exact⟨rfl,o.out⟩
def kq(p k:Int)(u:Value):Value:= .agg #[.int .i64 p,.int .i64 k,u]
theorem J0(p k:Int)(w:World)(f:ja k)(d:SR w)(h:jp p k=0):
 Calls prog 102 #[.int .i64 p,.int .i64 k] w λe o=>e= .returned (.tuple #[kq 0 0 (.slice none 0 0),.int .i64 1])/\gm w o:=by
 have c:=gb (λb (l:gm w b)=>uh p k b f (d.below l));rw[h]at c;clear h d f;have a:Below w.heap.size w (w.alloc (.cells #[.int .i64 0,.int .i64 0,.slice none 0 0] 60)):=(f0 _ _).alloc (fZ _) _;have g:=gb a;have i:=gb (c.out _ a);clear a;go_enter func102,ntmps102;go_wp2_with fail;refine i.out.mono ?_;rintro e b ⟨rfl,rfl⟩;go_wp2;have j:hU (w.alloc (.cells #[.int .i64 0,.int .i64 0,.slice none 0 0] 60)) w.heap.size 60 [.int .i64 0,.int .i64 0,.slice none 0 0]:=hU.new w _ _;have n:=gV (P:=prog) _ _ _ 60 _ _ j.range underlying60 rfl Ob;refine⟨rfl,.tuple #[kq 0 0 (.slice none 0 0),.int .i64 1],?_,rfl,g.out⟩;show((results _ _).run _ _)=_;simp[results,f102,asAddr,n,kq]
theorem aaH(P n:Nat){k:Nat}(a:k<=7):(jo P n 7).take k=jo P n k:=by
 unfold jo;rw[<-List.map_take,List.take_range]
 grind
theorem ph{P n:Nat}(a:2<=P)(m:Nat):∀j,(jo P n m).getD j 0<P:=by
 intro j;rw[gc];by_cases h:j<m
 ·simp[jo,h];exact iD _ Oa
 grind [jo]
theorem zk(p k:Int)(a:Option Addr)(n c:Nat):(#[Value.int .i64 p,Value.int .i64 k,Value.slice a n c]:Array Value).all (·.oneCell')=true:=SO
def nZ(l:gA):gP:=l.map λx:Nat=>(x:Int)
theorem alL(l:gA):pv l=(nZ l).map (Value.int .i64):=by simp[pv,nZ]
theorem V5(P K n0:Nat)(w:World)(hp:SR w)(h:jp P K≠0)(aw:n0<jp P K)(hy:yp P K (jo P n0 7)=true)(Y:∀n,n<n0->yp P K (jo P n 7)=false):
 Calls prog 102 #[.int .i64 P,.int .i64 K] w λe w'=>(∃u,e= .returned (.tuple #[kq P K u,.int .i64 0])/\OI w.heap.size w' u (nZ (jo P n0 K)))/\gm w w':=by
 obtain⟨P',K',e1,e2,ax,v,aB,ao,ap,ay,H⟩:=lU h;obtain rfl:P=P':=Oa;obtain rfl:K=K':=Oa;have M:=gb (λf (l:gm w f)=>uh P K f (by grind [ja]) (hp.below l));have hz:(!(jp P K==0))=true:=by simp[h]
 rw[hz,H]at M;rw[H]at aw;have ag:=gb (λn f (h:n<128)=>tU P n f v Oa h);have aj:=gb (λn f=>tn P K (jo P n 7) f v Oa ao ap ay (kg P n 7) (ph v 7));have be:=gb Y;have cy:=gb hy;have ah:=gd (∀n,(jo P n 7).length=7) (λn=>kg P n 7);have ak:=gd (∀n,(jo P n 7).take K=jo P n K) (λn=>aaH P n Oa);have S:hU (w.alloc (.cells #[.int .i64 0,.int .i64 0,.slice none 0 0] 60)) w.heap.size 60 [.int .i64 0,.int .i64 0,.slice none 0 0]:=hU.new w _ _;have B:Below w.heap.size w (w.alloc (.cells #[.int .i64 0,.int .i64 0,.slice none 0 0] 60)):=(f0 _ _).alloc (fZ _) _;have t:=gR S B;have L:=gb (M.out _ B);have aC:(K:Int)<=7:=Oa;clear B S h hp hy Y hz H ax;generalize P^K=az at*;go_enter func102,ntmps102;go_wp2_with fail;refine L.out.mono ?_;rintro e f ⟨rfl,rfl⟩;clear L;go_wp2;go_loopw [8,9,20] (λ_ _ q wr=>∃n:Nat,n<=n0/\q= .int .i64 n/\hU wr w.heap.size 60 [.int .i64 0,.int .i64 0,.slice none 0 0]/\gm w wr) (λ_ _ q _=>n0-(intOf q).toNat)
 case atStart=>exact⟨0,ge _,rfl,t.out.1,t.out.2⟩
 case round=>
  clear t;obtain⟨n,hn,rfl,O,l⟩:=hrel;have aD:(n:Int)<az:=Oa;have af:=gb (ag.out n wr Oa);have ai:=gb (aj.out n);have s:=gR O l;have fg:=ah.out n;have al:=gb (ak.out n);clear O l
  have hB:=gd (n=n0/\yp P K (jo P n 7)=true\/n<n0/\yp P K (jo P n 7)=false) (by
   exact SY)
  generalize yp P K (jo P n 7)=aA at*;generalize jo P n 7=D at*;go_wp2_with fail;refine af.out.mono ?_;rintro e a ⟨rfl,C⟩;have x:=s.out.1.below C;have p:=s.out.2.trans (C.mono s.out.2.size);have aF:w.heap.size<a.heap.size:=x.lt;have Q:=x.alloc (.cells (pv (List.replicate 7 0)).toArray 168);have z:hU (a.alloc (.cells (pv (List.replicate 7 0)).toArray 168)) a.heap.size 168 ([]++pv (List.replicate 7 0)):=hU.new a _ _;have t1:=z.there;have t2:(a.alloc (.cells (pv (List.replicate 7 0)).toArray 168)).there a.heap.size 0 (pv D).toArray.size:=by
   grind [jS]
  have i2:(prog.info? 168).map (·.size)=some (pv D).toArray.size:=UE;have ab:hU ((a.alloc (.cells (pv (List.replicate 7 0)).toArray 168)).setCells a.heap.size 0 (pv D)) a.heap.size 168 (pv D):=hU.setCells (pv D) [] (pv (List.replicate 7 0)) _ z (by grind [jS]);have F:=iu (b:=a.heap.size) (pv D) 0 (a.alloc (.cells (pv (List.replicate 7 0)).toArray 168));have R:=Q.kept F (λe=>by grind);have U:=(p.alloc p.size (.cells (pv (List.replicate 7 0)).toArray 168)).grown F (gt p.size On) (λad h=>by grind);have g:=ju ab R U;have i5:(prog.info? 168).map (·.size)=some (pv D).length:=Oa;clear x p Q z t1 ab F R U C
  go_wp2_with (first
   |(refine iA rfl 168 _ _ rfl a.heap.size 0 (pv D).toArray rfl rfl t2 i2 (vl D) ?_;show wpList _ _ _ _ _ ((a.alloc (.cells (pv (List.replicate 7 0)).toArray 168)).setCells a.heap.size 0 (pv D));generalize ((a.alloc (.cells (pv (List.replicate 7 0)).toArray 168)).setCells a.heap.size 0 (pv D))=w4 at g⊢;have r5:=g.out.1.range;clear t2 i2)
   |(refine ii rfl 168 _ rfl a.heap.size 0 rfl (pv D) _ r5 underlying168 rfl i5 ?_))
  refine(ai.out _).mono ?_;rintro e i ⟨rfl,o⟩;have c:=ju (g.out.1.below o) (g.out.2.1.below o) (g.out.2.2.trans (o.mono g.out.2.2.size));clear o r5;rcases hB.out with⟨rfl,rfl⟩|⟨hl,rfl⟩
  ·have Z:=OI.lit0 w.heap.size i c.out.2.2.size;have E:=c.out.2.2.alloc c.out.2.2.size (.cells #[] 3);have A:=c.out.1.alloc (.cells #[] 3);have T:=c.out.2.1.alloc (.cells #[] 3);have J:=gR T E;have au:=A.lt;have ac:Rd (i.alloc (.cells #[] 3)) (.slice (some ⟨a.heap.size,0,none⟩) K 7) ((pv D).take K):=by
    refine⟨some ⟨a.heap.size,0,none⟩,7,by grind [jS],by grind,λ_=>⟨a.heap.size,0,rfl,au,λq hi=> ?_⟩⟩;rw[i8]at hi;rw[iL,A.cell,o9,gl Oa]
   have aa:∀ae∈(pv D).take K,ae.oneCell'=true:=λae hx=>by
    have:=nV hx;simp only[pv,gK]at this;obtain⟨aG,_,rfl⟩:=this;rfl
   have av:(([]:gP).map (Value.int .i64)).length+((pv D).take K).length<=1000000000000:=(by grind);have V:w.heap.size<=(i.alloc (.cells #[] 3)).heap.size:=E.size;clear A T E;have ar:(([]:gP).map (Value.int .i64)++(pv D).take K).length=K:=(by grind [jS]);have r:=gd (w.heap.size<i.heap.size) c.out.2.1.lt;have i9:(prog.info? 60).map (·.size)=some 3:=Ob
   go_wp2_with (first
    |(at_builtin;refine nP (w:=i.alloc (.cells #[] 3)) _ _ 45 3 (.int .i64 0) 8 rfl rfl underlying45 info3 rfl Oc w.heap.size (.slice (some ⟨i.heap.size,0,none⟩) 0 0) (.slice (some ⟨a.heap.size,0,none⟩) K 7) (([]:gP).map (Value.int .i64)) ((pv D).take K) rfl Z rfl ac aa av V ?_;intro v8 k I G X;obtain⟨d,c8,N⟩:=I.len;rw[ar]at N;subst N;have y:=J.out.1.kept G (λe=>by simp only[Value.ownBlock,gH]at e;have:=r.out;omega);have t8:k.there w.heap.size 0 (#[Value.int .i64 (P:Int),Value.int .i64 (K:Int),Value.slice d K c8]:Array Value).size:=y.there;have j:=oB y (J.out.2.grown G V (λad h=>by simp only[Value.ownBlock,gH]at h;have:=r.out;omega)) I X;clear y I G X Z ac aa)
    |(refine iA rfl 60 _ _ rfl w.heap.size 0 #[Value.int .i64 (P:Int),Value.int .i64 (K:Int),Value.slice d K c8] rfl rfl t8 i9 (zk _ _ _ _ _) ?_;show wpList _ _ _ _ _ (k.setCells w.heap.size 0 [Value.int .i64 (P:Int),Value.int .i64 (K:Int),Value.slice d K c8])))
   have am:hU (k.setCells w.heap.size 0 [Value.int .i64 (P:Int),Value.int .i64 (K:Int),Value.slice d K c8]) w.heap.size 60 [Value.int .i64 (P:Int),Value.int .i64 (K:Int),Value.slice d K c8]:=hU.setCells [Value.int .i64 (P:Int),Value.int .i64 (K:Int),Value.slice d K c8] [] _ k j.out.1 rfl;have W:=iu (b:=w.heap.size) [Value.int .i64 (P:Int),Value.int .i64 (K:Int),Value.slice d K c8] 0 k;have an:=j.out.2.1.grown W j.out.2.1.size (λad h=>by grind)
   have aE:=j.out.2.2.1.kept W (.inr (λe=>by
    rcases j.out.2.2.2 _ e with h|h
    ·simp only[Value.ownBlock,gH]at h;have:=r.out;omega
    exact Oa))
   have aq:=gV (P:=prog) _ _ _ 60 _ _ am.range underlying60 rfl i9;refine⟨rfl,.tuple #[kq P K (.slice d K c8),.int .i64 0],?_,⟨_,rfl,?_⟩,an⟩
   ·show((results _ _).run _ _)=_;simp[results,f102,asAddr,aq,kq]
   ·unfold OI;rw[<-alL,<-al.out]
    grind [pv,List.map_take]
  ·have HX:=gR c.out.2.1 c.out.2.2;exact Uu
def rN(P r c d:Nat):Nat:=(r+(P-c*d%P))%P
theorem Vw{P r c d:Nat}(e:0<P):(((r:Int)-((c*d:Nat):Int)).tmod (P:Int)+(P:Int)).tmod (P:Int)=((rN P r c d:Nat):Int):=by
 have f: -(P:Int)<((r:Int)-((c*d:Nat):Int)).tmod (P:Int):=by
  rcases Int.le_total 0 ((r:Int)-((c*d:Nat):Int))with h|h
  ·have:=Int.tmod_nonneg (P:Int) h;omega
  ·have a:=sI (-((r:Int)-((c*d:Nat):Int))) (show(0:Int)<P by omega);rw[Int.neg_tmod]at a;exact Oa
 rw[jC Oa,Int.add_emod_right];have b:(((r:Int)-((c*d:Nat):Int)).tmod (P:Int))%(P:Int)=((r:Int)-((c*d:Nat):Int))%P:=by
  have:=Int.mul_tdiv_add_tmod ((r:Int)-((c*d:Nat):Int)) (P:Int);generalize ((r:Int)-((c*d:Nat):Int)).tmod (P:Int)=t at*;generalize ((r:Int)-((c*d:Nat):Int)).tdiv (P:Int)=q at*;rw[<-this,Int.add_comm,YY]
 rw[b];unfold rN;rw[JF];have i:c*d%P<P:=iD _ e;have g:=jN (c*d) P
 rw[show(((r+(P-c*d%P):Nat)):Int)=((r:Int)-((c*d:Nat):Int))+(P:Int)*(((c*d/P:Nat):Int)+1)by
  grind,YY]
def BG(P c base:Nat)(d:gA)(a:gA):Nat->gA
 |0=>a
 |j+1=>(BG P c base d a j).set (base+j) (rN P ((BG P c base d a j).getD (base+j) 0) c (d.getD j 0))
def zA(P n k:Nat)(d:gA)(a:gA):Nat->gA
 |0=>a
 |s+1=>BG P ((zA P n k d a s).getD (k-s) 0) (k-s-n) d ((zA P n k d a s).set (k-s) 0) n
def rdZ(a:gA):Bool:=a.all (·==0)
def rdB(P n k:Nat)(d low:gA):Bool:=rdZ (zA P n k d (low++[1]) (k+1-n))
theorem qG(P c base:Nat)(d a:gA):∀j,(BG P c base d a j).length=a.length
 |0=>rfl
 |j+1=>by rw[BG,jY,qG P c base d a j]
theorem alM{P r c d:Nat}(h:0<P):rN P r c d<P:=iD _ h
theorem FI{P c base:Nat}{d a:gA}(h:∀j,a.getD j 0<P):∀i j,(BG P c base d a i).getD j 0<P
 |0=>h
 |i+1=>lQ (FI h i) (alM Ds)
theorem mM(P n k:Nat)(d a:gA):∀s,(zA P n k d a s).length=a.length
 |0=>rfl
 |s+1=>by rw[zA,qG,jY,mM P n k d a s]
theorem vm{P n k:Nat}{d a:gA}(h:∀j,a.getD j 0<P):∀s j,(zA P n k d a s).getD j 0<P
 |0=>h
 |s+1=>FI (lQ (vm h s) Ds) _
theorem kO(l:gA):(nZ l).length=l.length:=by simp[nZ]
theorem mJ(l:gA)(i:Nat):(nZ l).getD i 0=((l.getD i 0:Nat):Int):=by
 grind [nZ]
theorem AW(l:gA)(i x:Nat):(nZ l).set i (x:Int)=nZ (l.set i x):=by simp[nZ,pG]
theorem ajF(l:gA)(x:Nat):nZ l++[(x:Int)]=nZ (l++[x]):=by simp[nZ]
theorem ajY{a:gA}{i:Nat}(hi:i<a.length)(h:a.getD i 0≠0):rdZ a=false:=by
 rw[kZ];intro b;rw[gc,gn hi,iQ]at h;have:=gF.1 b _ (iH hi)
 grind
theorem agL{a:gA}(h:∀H,H<a.length->a.getD H 0=0):rdZ a=true:=
 gF.2 λx hx=>UD
theorem VP(x:Int){P:Nat}(b:0<P): -(P:Int)<x.tmod (P:Int)/\x.tmod (P:Int)<(P:Int):=by
 refine⟨?_,sI x Oa⟩;rcases Int.le_total 0 x with h|h
 ·have:=Int.tmod_nonneg (P:Int) h;omega
 ·have a:=sI (-x) (show(0:Int)<P by omega);rw[Int.neg_tmod]at a;exact Oa
theorem IX(P n k:Nat)(d low:gA)(v u:Value)(w:World)(hv:Sl w v (nZ d))(hu:Sl w u (nZ low))(hP:2<=P)(bc:P<=64)(hd:d.length=n)(V:low.length=k)(an:∀j,d.getD j 0<P)(aj:∀j,low.getD j 0<P)(h1:1<=n)(h2:n<=k)(h3:k<=6):
 Calls prog 225 #[v,u,.int .i64 P] w λQ w'=>Q= .returned (.bool (rdB P n k d low))/\gm w w':=by
 have ak:∀j,(low++[1]).getD j 0<P:=by
  intro j;rw[gc,yS];split
  ·rw[<-gc];exact aj j
  grind
 have H:=gb (λs=>(mM P n k d (low++[1]) s).trans (show(low++[1]).length=k+1 by simp[V]));have ac:=gb (λs j=>vm (n:=n) (k:=k) (d:=d) ak s j);have ae:=gd (zA P n k d (low++[1]) 0=low++[1]) rfl;have af:=gd (∀s,zA P n k d (low++[1]) (s+1)=BG P ((zA P n k d (low++[1]) s).getD (k-s) 0) (k-s-n) d ((zA P n k d (low++[1]) s).set (k-s) 0) n) λs=>rfl;have aL:=gb (λt b (x:gA) i=>qG P t b d x i);have aP:=gb (λt b (x:gA) (h:∀j,x.getD j 0<P) i j=>FI (c:=t) (base:=b) (d:=d) h i j);have aJ:=gd (∀t b (x:gA),BG P t b d x 0=x) λt b x=>rfl;have aN:=gd (∀t b (x:gA) i,BG P t b d x (i+1)=(BG P t b d x i).set (b+i) (rN P ((BG P t b d x i).getD (b+i) 0) t (d.getD i 0))) λt b x i=>rfl;have A:=gd (rdB P n k d low=rdZ (zA P n k d (low++[1]) (k+1-n))) rfl;have aH:=gb an;have aT:=gb (λaa B d=>Vw (P:=P) (r:=aa) (c:=B) (d:=d) Oa);have aE:=gb (ajF low 1);have ax:∀x y,x<P->y<P->x*y<=4096:=λx y hx z=>gE (show x<=64 by omega) (show y<=64 by omega);have HM:=gb ax;have aI:=gd (∀j,(nZ d)[j]?.getD 0=((d.getD j 0:Nat):Int)) (λj=>by rw[<-mJ,gc]);generalize rdB P n k d low=ba at*;have aB:=hu;obtain⟨ah,B,N,rfl,hN,bk,U⟩:=hv.open;obtain rfl:N=n:=by rw[<-hN.out,kO];exact hd
 obtain⟨a',c',K,rfl,hK,bm,a3⟩:=hu.open;obtain rfl:K=k:=by rw[<-hK.out,kO];exact V
 obtain⟨O,hO⟩:∃O,O=zA P N K d (low++[1]):=⟨_,rfl⟩;rw[<-hO]at H ac ae af A;have X:=OI.lit0 w.heap.size w (fZ _);have aA:Rd (w.alloc (.cells #[] 3)) (.slice a' K c') ((nZ low).map (Value.int .i64)):=Sl.below aB ((f0 _ _).alloc (fZ _) _);have a5:=wj (nZ low);have a2:(([]:gP).map (Value.int .i64)).length+((nZ low).map (Value.int .i64)).length<=1000000000000:=by grind [kO]
 have al:w.heap.size<=(w.alloc (.cells #[] 3)).heap.size:=On;have aF:=gb ((f0 w.heap.size w).alloc (fZ _) (.cells #[] 3));have ab:=gd ((nZ low).length=K) (by rw[kO,V]);clear hO an aj ax ak hv hu aB a3;go_enter func225,ntmps225
 go_wp2_with (first
  |(at_builtin;refine nP (w:=w.alloc (.cells #[] 3)) _ _ 45 3 (.int .i64 0) 8 rfl rfl underlying45 info3 rfl Oc w.heap.size (.slice (some ⟨w.heap.size,0,none⟩) 0 0) (.slice a' K c') (([]:gP).map (Value.int .i64)) ((nZ low).map (Value.int .i64)) rfl X rfl aA a5 a2 al ?_;intro v8 w8 ay ap a4;have E:OI w.heap.size w8 v8 (nZ low):=ay;have R:=X.grown aF.out ap al;have aC:=R.size;have a1:(nZ low).length<=1000000000000:=(by grind);obtain⟨a8,c8,e8⟩:=E.len;rw[ab.out]at e8;subst e8;have aG:=gb R;clear ay ap a4 X aA R)
  |(at_builtin;refine g8 w8 _ _ 45 rfl rfl underlying45 info3 w.heap.size (.slice a8 K c8) (nZ low) rfl E rfl a1 aC ?_;intro g c9 w9 az aq aY aZ;rw[ab.out]at*;have G:=gR az (E.grown aG.out aq aC);clear az aq aY aZ E))
 have aU:=gb (λx=>VP x (P:=P) Oa);go_loopw [10,11,12] (λx _ _ wr=>∃s a:Nat,s+a=K/\N<=a+1/\x= .int .i64 a/\OI w.heap.size wr (.slice (some ⟨g,0,none⟩) (K+1) c9) (nZ (O s))/\gm w wr) (λx _ _ _=>(intOf x).toNat)
 case atStart=>exact⟨0,K,by omega,by omega,rfl,by rw[ae.out,<-aE.out];exact G.out.1,G.out.2⟩
 case round=>
  clear G;obtain⟨s,a,bo,bq,rfl,e,f⟩:=hrel;by_cases bf:N<=a
  ·have a0:K-s=a:=(by omega);have Y:=af.out s;rw[a0]at Y;have r:=H.out s;have W:=ac.out s;have a7:=W a;have am:=e.cell a (by grind [kO]);rw[mJ]at am;have D:=e.frozen a;have l:=e.stored a ((0:Nat):Int);rw[AW]at l;have Z:OI w.heap.size (wr.setCell ⟨g,a,none⟩ (.int .i64 0)) (.slice (some ⟨g,0,none⟩) (K+1) c9) (nZ ((O s).set a 0))/\wr.grownBy (wr.setCell ⟨g,a,none⟩ (.int .i64 0)) (some g):=l;have ao:=(e.lt g rfl).1;have M:=gR Z.1 (f.grown Z.2 f.size (λk h=>by grind));have aS:=gb Y;have ar:=aJ.out ((O s).getD a 0) (a-N) ((O s).set a 0);have aM:=gb (λi=>(aL.out ((O s).getD a 0) (a-N) ((O s).set a 0) i).trans (show((O s).set a 0).length=K+1 by grind));have aQ:=gb (aP.out ((O s).getD a 0) (a-N) ((O s).set a 0) (lQ W Oa));have aO:=gb (aN.out ((O s).getD a 0) (a-N) ((O s).set a 0));have bg:(N:Int)<=a:=Oa;have br:(a:Int)<K+1:=Oa;have bp:(a:Int)-N=((a-N:Nat):Int):=Oa;have be:a-N+N=a:=Oa;have aK:=gb ar;clear e f W Y ar l Z;generalize hI:BG P ((O s).getD a 0) (a-N) d ((O s).set a 0)=I at*;clear hI;generalize (O s).getD a 0=t at*;generalize aX:a-N=c at*;clear aX;go_wp2;go_loopw [12] (λi F=>∃j:Nat,j<=N/\i= .int .i64 j/\OI w.heap.size F (.slice (some ⟨g,0,none⟩) (K+1) c9) (nZ (I j))/\gm w F) (λi _=>N-(intOf i).toNat)
   case atStart=>exact⟨0,by omega,rfl,by rw[aK.out];exact M.out.1,M.out.2⟩
   case round=>
    clear M am D;obtain⟨j,hj,rfl,e,f⟩:=hrel;by_cases T:j<N
    ·have aw:=aM.out j;have au:=aO.out j;have q:=e.cell (c+j) (by rw[kO,aw];omega);rw[mJ]at q;have D:=e.frozen (c+j);obtain⟨b,aD,rfl,aW,hc⟩:=U Oa;have S:=(f.cell (p:=⟨b,aD+j,none⟩) aW).trans (hc j T);rw[aI.out]at S;have l:=OI.stored (w:=wr.drew) e (c+j) ((rN P ((I j).getD (c+j) 0) t (d.getD j 0):Nat):Int);rw[AW,<-au]at l;have bn:=aQ.out j (c+j);have a6:=aH.out j;have hm:=HM.out t (d.getD j 0) a7 a6;have ao:=(e.lt g rfl).1;have HX:=gR l.1 ((f.drew).grown l.2 f.size (λk h=>by cases h;exact ao));have n4:=aT.out ((I j).getD (c+j) 0) t (d.getD j 0);have n2:(t:Int)*((d.getD j 0:Nat):Int)=((t*d.getD j 0:Nat):Int):=(gI _ _).symm;have n6:=aU.out ((((I j).getD (c+j) 0:Nat):Int)-((t*d.getD j 0:Nat):Int));have n5:(c:Int)+j=((c+j:Nat):Int):=Oa;have bd:((c+j:Nat):Int)<K+1:=Oa;have bi:(j:Int)<N:=Oa;have S:wr.drew.cell? ⟨b,aD+j,none⟩=_:=S;have q:wr.drew.cell? ⟨g,c+j,none⟩=_:=q;have D:wr.drew.frozen? ⟨g,c+j,none⟩=false:=D;clear e f l au aw hc U;generalize (I j).getD (c+j) 0=av at*;generalize d.getD j 0=ai at*;generalize rN P av t ai=aa at*;generalize aV:c+j=at' at*;clear aV;generalize t*ai=a9 at*;generalize hx:((av:Int)-a9).tmod (P:Int)=x at*;exact SC
    ·obtain rfl:j=N:=(by omega);have HX:=gR e f;clear e f;go_wp2;go_roundw
     case rel=>exact⟨s+1,a-1,by omega,by omega,by go_num,by rw[aS.out];exact HX.out.1,HX.out.2⟩
     case measure=>exact gQ
  ·have hs:s=K+1-N:=(by omega);rw[<-hs]at A;have r:=H.out s;have bl:¬(N:Int)<=a:=Oa;have HO:=gR e f;have ad:=gb (λi hi h=>ajY (a:=O s) (i:=i) hi h);have ag:=gb (λh=>agL (a:=O s) h);rw[r]at ad ag;have aR:=gb r;clear e f hs U;generalize rdZ (O s)=bb at*;go_wp2;go_loopw [13] (λi F=>∃j:Nat,j<=K+1/\i= .int .i64 j/\Hid (∀o,o<j->(O s).getD o 0=0)/\wr=F) (λi _=>K+1-(intOf i).toNat)
   case atStart=>exact⟨0,by omega,rfl,gb (λi h=>by omega),rfl⟩
   case round=>
    obtain⟨j,hj,rfl,C,rfl⟩:=hrel;by_cases T:j<K+1
    ·have bj:(j:Int)<K+1:=(by omega);have q:=HO.out.1.cell j (by rw[kO,aR.out];omega);rw[mJ]at q;have J:=gb (ad.out j T)
     have L:=gd ((O s).getD j 0=0->∀o,o<j+1->(O s).getD o 0=0) (λh o bh=>by
      by_cases Q:o=j
      ·rw[Q];exact h
      ·exact C.out o Oa)
     clear C r;generalize (O s).getD j 0=y at*;by_cases z:y=0
     ·have hq:((y:Int) !=0)=false:=(by simp_all);have HX:=gb (L.out z);clear z L J;go_wp2;go_roundw
      case rel=>exact⟨j+1,by omega,by go_num,HX,by trivial⟩
      case measure=>exact gQ
     ·have hq:((y:Int) !=0)=true:=(by simp;omega);have HE:=gb (A.out.trans (J.out z));clear z L J;exact DF
    ·obtain rfl:j=K+1:=(by omega);have HE:=gb (A.out.trans (ag.out C.out));clear C r;exact DF
def pg(p x:Int):Bool:=decide (x<0)||decide (p<=x)
def rdD(P k:Nat)(low:gA)(g:Nat):Bool:=(List.range (P^g)).all λc=> !(rdB P g k (jo P c g) low)
def rdF(P k:Nat)(low:gA):Bool:=(List.range (k/2)).all λi=>rdD P k low (i+1)
def pD(low:gP):gA:=low.map Int.toNat
def th(p k:Int)(low:gP):Int:=if jp p k=0 then 1 else if low.length≠k.toNat then 2 else if low.any (pg p)=true then 1 else if rdF p.toNat k.toNat (pD low)=true then 0 else 4
theorem E6{p k:Int}{low:gP}(h:jp p k=0):th p k low=1:=gl h
theorem L8{p k:Int}{low:gP}(h:jp p k≠0)(a:low.length≠k.toNat):th p k low=2:=by rw[th,gh h,gl a]
theorem L9{p k:Int}{low:gP}(h:jp p k≠0)(a:low.length=k.toNat){i:Nat}(hi:i<low.length)(b:pg p (low[i]?.getD 0)=true):th p k low=1:=by
 rw[th,gh h,gh Oa,gl]
 grind
theorem aa4{p k:Int}{low:gP}(h:jp p k≠0)(a:low.length=k.toNat)(b:∀H,H<low.length->pg p (low[H]?.getD 0)=false):th p k low=if rdF p.toNat k.toNat (pD low)=true then 0 else 4:=by
 rw[th,gh h,gh Oa,gh];exact QT
theorem ad2{p:Int}{low:gP}(h:∀i,i<low.length->pg p (low[i]?.getD 0)=false):nZ (pD low)=low:=by
 apply jd
 ·simp[nZ,pD]
 grind [pg,nZ,pD]
theorem RQ{P:Nat}{low:gP}(a:0<P)(h:∀i,i<low.length->pg P (low[i]?.getD 0)=false):∀j,(pD low).getD j 0<P:=by
 grind [pg,pD]
theorem ajV{P k g c:Nat}{low:gA}(b:c<P^g)(h:rdB P g k (jo P c g) low=true):rdD P k low g=false:=by
 rw[kZ];intro a;have:=gF.1 a c (gC.2 b)
 grind
theorem agJ{P k g:Nat}{low:gA}(h:∀c,c<P^g->rdB P g k (jo P c g) low=false):rdD P k low g=true:=
 gF.2 λn a=>by grind
theorem ajW{P k g:Nat}{low:gA}(a:1<=g)(b:2*g<=k)(h:rdD P k low g=false):rdF P k low=false:=PX
theorem agK{P k:Nat}{low:gA}(h:∀g,1<=g->2*g<=k->rdD P k low g=true):rdF P k low=true:=
 gF.2 λi a=>h (i+1) Oa (by grind)
theorem Zl(P K:Nat)(u:Value)(low:gP)(w:World)(t:Sl w u low)(M:jp P K≠0)(az:low.length=K)(am:∀x∈low,ja x):
 Calls prog 142 #[kq P K u] w λe w'=>e= .returned (.int .i64 (th P K low))/\gm w w':=by
 obtain⟨P',K',e1,e2,a1,ap,bb,a9,aX,aq,a0⟩:=lU M;obtain rfl:P=P':=Oa;obtain rfl:K=K':=Oa;have HO:=gb (λi=>qw P K i (by grind [ja]) (by grind [ja]));have Y:=gb (λH E h=>L9 M (low:=low) Oa (i:=H) E h);have J:=gb (λh=>aa4 M (low:=low) Oa h);rw[iZ,iZ]at J;have X:=gb (λh=>ad2 (p:=P) (low:=low) h);have W:=gb (λh=>RQ (P:=P) (low:=low) Oa h);have aP:=gd ((pD low).length=K) (by grind [pD]);have aF:=gd (∀H,H<K->ja (low[H]?.getD 0)) (λH E=>am _ (by grind));have aO:=gb t;obtain⟨o,q,N,rfl,hN,ba,an⟩:=t.open;obtain rfl:N=K:=Ut;rw[az]at Y J X W;have hq:(((jp (P:Int) (N:Int):Nat):Int)==0)=false:=by grind
 have ay:=gb (λg c d h=>ajV (P:=P) (k:=N) (g:=g) (c:=c) (low:=pD low) d h);have aA:=gb (λg h=>agJ (P:=P) (k:=N) (g:=g) (low:=pD low) h);have aB:=gb (λg d s h=>ajW (P:=P) (k:=N) (g:=g) (low:=pD low) d s h);have aD:=gb (λh=>agK (P:=P) (k:=N) (low:=pD low) h);have aw:=gb (λc g i (R:c<=64) (hg:g<=6)=>tN P c g i Oa Oa Oa Oa);have ah:=gb (λg c (C:Value) (i:World) (F:∀j,(pD low).getD j 0<P) (ad:nZ (pD low)=low) (d:1<=g) (s:g<=N) (G:Sl i C (nZ (jo P c g))) (t:Sl i (.slice o N q) low)=>IX P g N (jo P c g) (pD low) C (.slice o N q) i G (by grind) ap Oa (kg P c g) aP.out (ph ap g) F d s aX);have aK:=gd (∀H,P^(H+1)=P^H*P) λH=>rfl;have aJ:=gd (P^0=1) rfl;have ag:=gd (∀H,H<=N->P^H<=64) (λH E=>gt (gN Oa E) aq);have ai:hU (w.alloc (.cells #[.int .i64 (P:Int),.int .i64 (N:Int),.slice o N q] 60)) w.heap.size 60 [.int .i64 (P:Int),.int .i64 (N:Int),.slice o N q]:=hU.new w _ _;have V:=gR ai ((f0 w.heap.size w).alloc (fZ _) (.cells #[.int .i64 (P:Int),.int .i64 (N:Int),.slice o N q] 60));have bc:((N:Int) !=N)=false:=On;have aG:=gb an;generalize th (P:Int) (N:Int) low=ae at*;generalize jp (P:Int) (N:Int)=a3 at*;obtain⟨f,hf⟩:∃f:Nat->Nat,f=λH=>P^H:=⟨_,rfl⟩;have A:=gd (∀H,P^H=f H) (λH=>by rw[hf]);clear hf t an a1 a0 aq az am ai M;unfold kq;go_enter func142,ntmps142;go_wp2_with fail;refine(HO.out _).mono ?_;rintro e i ⟨rfl,rfl⟩;go_wp2;generalize w.alloc (.cells #[.int .i64 (P:Int),.int .i64 (N:Int),.slice o N q] 60)=w0 at*;go_loopw [4] (λx wr=>∃H:Nat,H<=N/\x= .int .i64 H/\Hid (∀j,j<H->pg P (low[j]?.getD 0)=false)/\hU wr w.heap.size 60 [.int .i64 (P:Int),.int .i64 (N:Int),.slice o N q]/\gm w wr) (λx _=>N-(intOf x).toNat)
 case atStart=>exact⟨0,ge _,rfl,gb (λj hj=>by omega),V.out.1,V.out.2⟩
 case round=>
  clear V;obtain⟨H,E,rfl,hH,a,b⟩:=hrel;have v:=a.cell 0;have y:=a.cell 1;have z:=a.cell 2;simp only[gW,ij]at v y z;have HA:=gR a b;by_cases F:H<N
  ·obtain⟨aQ,a2,rfl,aR,R⟩:=aG.out Oa;have a6:=(b.cell (p:=⟨aQ,a2+H,none⟩) aR).trans (R H F);have aW:=aF.out H F;have D:=gb (Y.out H F);have B:=gd (pg P (low[H]?.getD 0)=false->∀j,j<H+1->pg P (low[j]?.getD 0)=false) (λh j hj=>PA);have a5:(H:Int)<N:=Oa;clear R hH a b;generalize low[H]?.getD 0=x at*;unfold ja at aW;by_cases I:x<0
   ·have hd:decide (x<0)=true:=gy I;have HE:=gb (D.out Kz);clear D B I;exact Up
   ·have hd:decide (x<0)=false:=gp I;by_cases S:(P:Int)<=x
    ·have aT:decide ((P:Int)<=x)=true:=gy S;have HE:=gb (D.out (by grind [pg]));clear D B I S;exact Up
    ·have aT:decide ((P:Int)<=x)=false:=gp S;have L:=gb (B.out (by grind [pg]));clear D B I S;go_wp2;go_quiet (fail);go_wp2;go_roundw
     case rel=>exact⟨H+1,by omega,by go_num,L,HA.out.1,gM HA.out.2 _⟩
     case measure=>exact gQ
  ·obtain rfl:H=N:=(by omega);have aj:=J.out hH.out;have ad:=X.out hH.out;have ao:=W.out hH.out;have aM:=gb (λg c (C:Value) (i:World) d s G t=>ah.out g c C i ao ad d s G t);have af:=gb aj;clear aj ad ao ah Y J X W hH a b;generalize rdF P H (pD low)=a4 at*;go_wp2;go_loopw [5,6,7,8,9] (λm x _ _ _ wr=>∃g:Nat,1<=g/\2*g<=H+2/\x= .int .i64 g/\m= .int .i64 (f (g-1):Nat)/\Hid (∀r,1<=r->r<g->rdD P H (pD low) r=true)/\hU wr w.heap.size 60 [.int .i64 (P:Int),.int .i64 (H:Int),.slice o H q]/\gm w wr) (λ_ x _ _ _ _=>H+2-(intOf x).toNat)
   case atStart=>exact⟨1,by omega,by omega,rfl,by rw[show(1:Nat)-1=0 from rfl,<-A.out,aJ.out];rfl,gb (λg d s=>by omega),HA.out.1,HA.out.2⟩
   case round=>
    clear HA v y z;obtain⟨g,al,a8,rfl,rfl,hH,a,b⟩:=hrel;have v:=a.cell 0;have y:=a.cell 1;have z:=a.cell 2;simp only[gW,ij]at v y z;have HA:=gR a b;by_cases aU:2*g<=H
    ·have aV:2*(g:Int)<=H:=(by omega);have hs:=aK.out (g-1);rw[show g-1+1=g by omega,A.out,A.out]at hs;have aZ:=ag.out g Oa;rw[A.out]at aZ;have aY:=ag.out (g-1) Oa;rw[A.out]at aY;have n1:(f (g-1):Int)*P=((f g:Nat):Int):=Oa;have aE:=gb hH.out;clear hs a b hH;generalize f (g-1)=xm at*;go_wp2;go_loopw [7,8,9] (λx _ _ wq=>∃c:Nat,c<=f g/\x= .int .i64 c/\Hid (∀n,n<c->rdB P g H (jo P n g) (pD low)=false)/\hU wq w.heap.size 60 [.int .i64 (P:Int),.int .i64 (H:Int),.slice o H q]/\gm w wq) (λx _ _ _=>f g-(intOf x).toNat)
     case atStart=>exact⟨0,by omega,rfl,gb (λbd h=>by omega),HA.out.1,HA.out.2⟩
     case round=>
      clear HA v y z;obtain⟨c,R,rfl,Q,a,b⟩:=hrel;by_cases aS:c<f g
      ·have a7:(c:Int)<(f g:Int):=(by omega);have v:=a.cell 0;have y:=a.cell 1;have z:=a.cell 2;simp only[gW,ij]at v y z;have av:=gb (aw.out c g wr Oa Oa);have aN:=gb (λ(C:Value)(i:World) G t=>aM.out g c C i al Oa G t);have aH:=gb (ay.out g c (by rw[A.out];exact aS))
       have B:=gd (rdB P g H (jo P c g) (pD low)=false->∀n,n<c+1->rdB P g H (jo P n g) (pD low)=false) (λh n ak=>by
        by_cases e:n=c
        ·rw[e];exact h
        ·exact Q.out n Oa)
       have aC:=gb (aB.out g al aU);have HA:=gR a b;have ax:=gd ((nZ (jo P c g)).length<=17592186044416) (by rw[kO,kg];omega);clear Q a b;generalize rdB P g H (jo P c g) (pD low)=au at*;go_wp2_with fail;refine av.out.mono ?_;rintro e w2 ⟨⟨u2,rfl,ar⟩,aa⟩;have O:=HA.out.1.below aa;have k3:=O.cell 0;have k4:=O.cell 2;simp only[gW,ij]at k3 k4;have ac:=HA.out.2.trans (aa.mono HA.out.2.size);have aL:=gb (aN.out u2 w2 (OI.sl (l:=nZ (jo P c g)) ar ax.out) (aO.out.below ac));have T:=gR O ac;clear ar aa O ac v y z;go_wp2_with fail;refine aL.out.mono ?_;rintro e w3 ⟨rfl,ab⟩;have U:=gR (T.out.1.below ab) (T.out.2.trans (ab.mono T.out.2.size));clear ab k3 k4;cases au with
       |true=>
        have Z:ae=4:=(by rw[af.out,aC.out (aH.out rfl)];rfl);subst Z;go_wp2;go_ret;exact⟨rfl,U.out.2⟩
       |false=>
        have aI:=gb (B.out rfl);go_wp2;go_roundw
        case rel=>exact⟨c+1,by omega,by go_num,aI,U.out.1,U.out.2⟩
        case measure=>exact gQ
      ·obtain rfl:c=f g:=(by omega);have HD:=gb (aA.out g (λn ak=>Q.out n (by rw[<-A.out];exact ak)));have L:=gR a b;clear a b Q;go_wp2;go_roundw
       case rel=>
        refine⟨g+1,by omega,by omega,by go_num,by simp_all,gb (λr d s=> ?_),L.out.1,L.out.2⟩;by_cases e:r=g
        ·rw[e];exact HD.out
        ·exact aE.out r d Oa
       case measure=>exact gQ
    ·have aV:¬2*(g:Int)<=H:=(by omega);have Z:ae=0:=(by rw[af.out,aD.out (λr d s=>hH.out r d Oa)];rfl);subst Z;clear a b hH;go_wp2;go_ret;exact⟨rfl,HA.out.2⟩
end Go.Proofs.YtnnaadmegeeinaaGreatDoor
