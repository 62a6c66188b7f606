/-
  Part 25 of a proof: what it proves stands in the last text.
-/
import Derived.Test.YtnnaadmegeeinaaGreatDoorYx
set_option linter.all false
set_option maxHeartbeats 8000000
set_option maxRecDepth 100000
namespace Go.Proofs.YtnnaadmegeeinaaGreatDoor
open Tryz Go.Proofs.Tryz
open Go.RowKit
theorem Oq{p:Prop}(h:p:=by
 generalize (H+1)%3=ck at*;clear J;go_wp2_with (at_builtin;refine sr _ _ rfl rfl W0.heap.size _ (L2++r3 BO H) (BO H) rfl ho rfl bS aB OK OK OK ?_;intro dW w9 h9 eD)
 exact Ph):p:=h
theorem OA{p:Prop}(h:p:=by
 obtain rfl:H=3:=Oa;have HQ:=gR (show OL W0.heap.size wr.heap.size wr _ ((L1++BZ (j+1)).map xX)by rw[e8.out,<-bE.out];exact ho) J;clear ho J;go_wp2;go_roundw
 case rel=>exact⟨j+1,by have:=cy.out;go_num,by have:=cy.out;omega,HQ.out.1,HQ.out.2⟩
 case measure=>exact gQ):p:=h
theorem OY{p:Prop}(h:p:=by
 have bx:=gV (P:=prog) _ _ _ 103 _ _ hF.range underlying103 rfl cm;refine⟨rfl,.tuple #[.agg #[.int .i64 v,.slice pa pn pc],.int .i64 0],?_,⟨v,pa,pn,pc,am,by rw[HE.out],dc,⟨λm hm=>⟨dS.out m hm,ek.1 m hm⟩,ek.2⟩,λ_=>dI.out.symm⟩,bf⟩
 exact PV):p:=h
theorem O6{p:Prop}(h:p:=by
 clear h HG;go_enter func75,ntmps75;go_wp2;have bx:=gV (P:=prog) _ _ _ 103 _ _ HR.out.1.range underlying103 rfl cm;refine⟨rfl,.tuple #[.agg #[.int .i64 0,.slice none 0 0],.int .i64 1],?_,HE.out,HR.out.2⟩
 exact PV):p:=h
theorem Mh{p:Prop}(h:p:=by
 have HQ:=gR (show OL W0.heap.size wr.heap.size wr _ ((L0++DY (al+1)).map xX)by rw[fN.out,<-ca.out];exact ho) J;clear ho J;go_wp2;go_roundw
 case rel=>exact⟨al+1,by go_num,by omega,HQ.out.1,HQ.out.2⟩
 case measure=>exact gQ):p:=h
theorem MI{p:Prop}(h:p:=by
 go_enter func74,ntmps74
 exact QD):p:=h
theorem Ue{p:Prop}(h:p:=by rw[gz,cR.out];omega):p:=h
theorem UF{p:Prop}(h:p:=by
 go_roundw
 case rel=>exact⟨x+1,by go_num,by omega,HQ.out.1,HQ.out.2⟩
 case measure=>exact gQ):p:=h
theorem UH{p:Prop}(h:p:=by rw[gz];omega):p:=h
theorem Dr{p:Prop}(h:p:=by
 obtain⟨y,_,rfl⟩:=gK.1 hx
 exact(by decide:(3:Nat)<=1000000)):p:=h
theorem D4{p:Prop}(h:p:=by rw[bF];exact gM (f0 _ _) m):p:=h
theorem Ke{p:Prop}(h:p:=by exact⟨λx hx=>((qH _).1.1 x hx).2,(qH _).1.2⟩):p:=h
theorem Ku{p:Prop}(h:p:=by have:=hO.perm;rwa [jL]at this):p:=h
theorem KC{p:Prop}(h:p:=by
 have HQ:=gb J;clear ho J e7;go_wp2_with fail;refine bQ.out.mono ?_;rintro e aj ⟨⟨ag,bi,rfl,dn,hIO⟩,ar⟩;obtain⟨eW,el⟩:=HX.out bi hIO;have dS:=gb el;clear el;subst eW;obtain⟨pa,pc,eu⟩:=dn.len;subst eu;have aZ:=HQ.out.trans (ar.mono HQ.out.size);have bz:hU aj w.heap.size 103 [.int .i64 0,.slice none 0 0]:=HW.out.1.below aZ;have eZ:aj.cell? ⟨w.heap.size,0,none⟩=some (.int .i64 0):=bz.cell 0;have fo:aj.cell? ⟨w.heap.size,1,none⟩=some (.slice none 0 0):=bz.cell 1;have e4:=bz.frozen 0;have fm:=bz.frozen 1;have aP:=HW.out.2.1.trans (aZ.mono Uo);have eb:=HQ.out.size;have eh:=HW.out.2.2;have dN:=ju bz dn aP;clear bz dn ar aP hIO bQ aZ;obtain⟨am,em⟩:∃am,qQ v=am:=⟨_,rfl⟩;rw[em]at dH dN dS⊢;have dI:=gb em;clear em HX;obtain⟨pn,dC⟩:∃pn,am.length=pn:=⟨_,rfl⟩;rw[dC]at dN⊢;clear dC;go_wp2;have bb:=dN.out.1.stored 0 (.int .i64 v);have aJ:=bb.1.stored 1 (.slice pa pn pc);have hF:hU ((aj.setCell ⟨w.heap.size,0,none⟩ (.int .i64 v)).setCell ⟨w.heap.size,1,none⟩ (.slice pa pn pc)) w.heap.size 103 [.int .i64 v,.slice pa pn pc]:=aJ.1;have dM:=((dN.out.2.1.kept bb.2 (λk e=>by cases e;omega)).kept aJ.2 (λk e=>by cases e;omega));have bf:=((dN.out.2.2.grown bb.2 dN.out.2.2.size (λk e=>by simp_all)).grown aJ.2 (gt dN.out.2.2.size bb.2.size) (λk e=>by simp_all));have ek:=dH.out
 have dc:=dM.rl Oa (λH hi=>by
  rw[gc,gn hi,iQ];have:=ek.1 _ (iH hi)
  exact Oa)
 exact OY):p:=h
theorem KE{p:Prop}(h:p:=by
 go_wp2_with fail;go_loopw [4,14] (λlv iv wr=>∃H:Nat,iv= .int .i64 H/\H<=3/\OL W0.heap.size wr.heap.size wr lv ((L2++r3 (ye m al y G) H).map xX)/\gm W0 wr) (λ_ iv _=>3-(intOf iv).toNat)
 case atStart=>exact⟨0,rfl,ge _,by rw[eO.out,jb];exact HQ.out.1,HQ.out.2⟩
 case round=>
  clear HQ;obtain⟨H,rfl,hi,ho,J⟩:=hrel;by_cases fb:H<3
  ·have aS:(H:Int)<3:=(by omega);have aB:=J.size;have bS:(L2++r3 (ye m al y G) H).length<=1000000:=Ue;have HB:=gb J;have cw:(m:Int)*H=((m*H:Nat):Int):=(gI _ _).symm;have m2:((H:Int)+1).tmod 3=(((H+1)%3:Nat):Int):=(gO (H+1) 3).symm;have fY:(m:Int)*(((H+1)%3:Nat):Int)=((m*((H+1)%3):Nat):Int):=(gI _ _).symm;have k1:m*H<=11*3:=gE dF Oa;have bM:m*((H+1)%3)<=11*3:=gE dF Oa;have fX:=dp.out al y G H;have dz:=gb (cx.out (ye m al y G) H);generalize ye m al y G=BO at*;generalize m*H=mi at*;generalize m*((H+1)%3)=mk at*;exact Oq
  ·exact OA):p:=h
theorem Ph{p:Prop}(h:p:=by
 have HQ:=gR h9 (eD _ HB.out);rw[iN,dz.out]at HQ;clear h9 eD ho;go_roundw
 case rel=>exact⟨H+1,by go_num,by omega,HQ.out.1,HQ.out.2⟩
 case measure=>exact gQ):p:=h
theorem PV{p:Prop}(h:p:=by
 show((results _ _).run _ _)=_
 simp[results,f75,asAddr,bx]):p:=h
theorem QD{p:Prop}(h:p:=by
 go_wp2;go_ret3
 exact⟨by rw[HR.out.1,HR.out.2.1,HR.out.2.2];rfl,aQ.out⟩):p:=h
theorem Q1{p:Prop}(h:p:=by
 intro O V K J hf hd hK;have h3:=hd 5 Oc Ob rfl;have h4:O.tmps[86]?.getD undef= .tuple #[.int .i64 am,.int .i64 bh,.int .i64 ae]:=iW h3
 exact Rx):p:=h
section
def JH(P t:Nat)(bs:kl)(u:gA)(b:Int):Prop:=(b= -1/\∀a,mV t P a->¬NF t a u)\/∃m:Nat,b=(m:Int)/\(∃u0,mV t P u0/\oA bs u0=m)/\∀a,mV t P a->NF t a u->oA bs a=m
section
variable {P t:Nat} {bs:kl} {u:gA} {lam:Int}
theorem JH.first(P t:Nat)(bs:kl):JH P t bs (List.range t) (-1):= .inl ⟨rfl,λa h=>WX h⟩
theorem JH.bad(h:JH P t bs u lam)(f:mV t P u)(g:0<=lam)(c:¬(oA bs u:Int)=lam):oF P t bs:= .inr λd=>by
 rcases h with⟨e,_⟩|⟨m,e,⟨u0,a,b⟩,_⟩
 ·exact Oa
 ·exact c (by rw[e,<-b,Vq.1 d u u0 f a])
theorem JH.old(h:JH P t bs u lam)(d:mV t P u)(c:0<=lam->(oA bs u:Int)=lam){a:gA}(f:mV t P a)(b:a=u\/NF t a u):oA bs a=oA bs u:=by
 rcases b with rfl|b
 ·rfl
 ·rcases h with⟨_,h⟩|⟨m,e,_,h⟩
  ·grind
  grind
theorem JH.next(h:JH P t bs u lam)(d:mV t P u)(g:0<=lam->(oA bs u:Int)=lam){i:Nat}(hi:i<t)(f:∀j,i<j->j<t->¬u.getD j 0+t<P+j):JH P t bs (C4 t i u) (oA bs u):=by
 refine .inr ⟨_,rfl,⟨u,d,rfl⟩,λk e a=>h.old d g e ?_⟩;rcases NH e.len d.len with b|b|b
 ·grind
 ·grind
 ·exfalso;rcases agp hi f e b with c|c
  ·rw[c]at a;exact acp a a
  ·exact acp a c
theorem JH.last(h:JH P t bs u lam)(d:mV t P u)(f:0<=lam->(oA bs u:Int)=lam)(e:∀i,i<t->¬u.getD i 0+t<P+i):C5 (o5 bs) (oz P t 0 0):=by
 have k:∀a,mV t P a->oA bs a=oA bs u:=λa b=>h.old d f b (by
  rcases NH b.len d.len with c|c|c
  ·grind
  ·grind
  ·exact absurd c (agq e b))
 exact Vq.2 λa g b j=>by grind
end
theorem agv(b u:gA):((jj u).all λp=>decide (p∈jj b))=u.all λp=>decide (p∈b):=by
 unfold jj;rw[List.all_map]
 grind
theorem WZ{bs:kl}{u:gA}{i:Nat}(h:i<bs.length):oA (bs.take (i+1)) u=oA (bs.take i) u+if(u.all λp=>decide (p∈bs.getD i []))=true then 1 else 0:=by
 grind [oA,List.take_add_one]
theorem I2(P t:Nat)(v:Value)(bs:kl)(w:World)(hv:RL w v (bs.map jj))(h:rC P bs=0):
 Calls prog 74 #[.agg #[.int .i64 P,v],.int .i64 t] w λe w'=>e= .returned (.tuple #[.int .i64 (qb P bs t),.int .i64 (pu P bs t),.int .i64 (uD P bs t)])/\gm w w':=by
 obtain⟨z1,z2,z3,z4⟩:=vY h;have aQ:=gb ((f0 w.heap.size w).alloc (fZ _) (.cells #[.int .i64 P,v] 103));have G:=gd (hU (w.alloc (.cells #[.int .i64 P,v] 103)) w.heap.size 103 [.int .i64 P,v]) (hU.new w 103 [.int .i64 P,v]);have aY:=hv.below aQ.out;obtain⟨af,C,N,rfl,hN,bb,HC⟩:=aY.openN;have c0:(w.alloc (.cells #[.int .i64 P,.slice af N C] 103)).cell? ⟨w.heap.size,0,none⟩=some (.int .i64 P):=G.out.cell 0;have c1:(w.alloc (.cells #[.int .i64 P,.slice af N C] 103)).cell? ⟨w.heap.size,1,none⟩=some (.slice af N C):=G.out.cell 1;have aO:=gb aQ.out.size;clear hv aY z4;have none:∀z:Int,uD P bs t=z->z≠0->qb P bs t=0/\pu P bs t=0/\uD P bs t=z:=λz x h2=>by
  grind [Fm]
 by_cases R:4<t\/P<t
 ·have HR:=gb (none 1 (Fl h R) Oc);by_cases h4:4<t
  ·exact MI
  ·have h5:P<t:=(by omega);exact MI
 have h5:¬P<t:=Oa;by_cases hn:N=0
 ·have HR:=gb (none 4 (Ix h R (by rw[hN.out];exact hn)) Oc);subst hn;exact MI
 have bj:¬(N:Int)=0:=Oa;have bC:((N:Int)==0)=false:=gL.2 bj;have aj:¬bs.length=0:=by rw[hN.out];exact hn
 have ao:=gd (oF P t bs->qb P bs t=0/\pu P bs t=0/\uD P bs t=4) (λc=>none 4 (ach h R aj c) Oc)
 have aJ:=gd (¬oF P t bs->∀a,mV t P a->qb P bs t=Iy bs/\pu P bs t=(oA bs a:Nat)/\uD P bs t=0) (λc a hu=>by
  have e:=aci h R aj c;refine⟨by unfold qb;omega,?_,e⟩;unfold pu;rw[gl e]
  exact ajr hu (gx λhc=>c (.inr hc)))
 have X:=gd (∀H,H<N->(bs.getD H []).length≠Iy bs->oF P t bs) (λH hi bD=> .inl (by
  have hi:H<bs.length:=OZ
  grind))
 have aF:=gd ((∀H,H<N->(bs.getD H []).length=Iy bs)->C5 (o5 bs) (oz P t 0 0)->¬oF P t bs) (λlM bE c=>by
  rcases c with c|c
  ·obtain⟨bG,hx,h6⟩:=iG.1 c;obtain⟨H,hi,rfl⟩:=je hx;have:=lM H DK
   grind
  grind)
 have aC:=gd ((bs.getD 0 []).length=Iy bs) rfl;have ay:=gb (λa H (h:H<N)=>WZ (bs:=bs) (u:=a) (i:=H) ON);have aq:=gd (∀a,oA (bs.take 0) a=0) (λa=>rfl);have aw:=gd (∀a,oA (bs.take N) a=oA bs a) (λa=>by rw[ie MJ]);have a1:=gd (∀a,oA bs a<=200) (λa=>gt x5 z3);have au:=gd (∀a H,oA (bs.take H) a<=200) (λa H=>gt x5 (by grind));have aE:=gb (JH.first P t bs);have aD:=gb (λa b (x:JH P t bs a b)=>x.bad);have aH:=gb (λa b (x:JH P t bs a b) (hu:mV t P a) i H=>x.next hu i (i:=H));have aG:=gb (λa b (x:JH P t bs a b)=>x.last);have aB:=gb (W5 (t:=t) (P:=P) Oa);have a2:=gb (λs H (f:mV t P s)=>ajG (i:=H) f)
 have a6:=gd (∀s H,mV t P s->H<t->s.getD H 0+t<P+H->NG t s t<NG t (C4 t H s) t) (λs H f hi hx=>by
  have h7:∀j,j<t->s.getD j 0<64:=λj y=>gS (f.lt j y) Oa;obtain⟨S,hp,g1,g2⟩:NF t s (C4 t H s):=alq hi
  exact aco h7 g1 g2 t hp (fZ _))
 have a5:=gd (∀s,mV t P s->NG t s t<64^t) (λs f=>acn (λj y=>gS (f.lt j y) Oa) t (fZ _));have aI:=gb (λ(B:Nat)(v:Value)(s:gA)(d:World)(q:OI B d v (jj s))(hB:B<=d.heap.size)(f:mV t P s)=>IE P t B v s d q hB f.len Oa Oa (λH hi=>gS (f.lt H hi) Oa))
 have am:=gb (λ(B:Nat)(E v:Value)(o s:gA)(d:World)(c:Sl d E (jj o))(q:OI B d v (jj s))(f:mV t P s)=>(show Calls prog 161 #[E,v] d λe w'=>e= .returned (.bool (s.all λS=>decide (S∈o)))/\d=w' from by
  rw[<-agv]
  exact adc E v _ _ d c (q.sl (by rw[jw,f.len];omega))))
 have aM:=gb (λd=>Jj t d Oa);have aN:=gd (qP t=jj (List.range t)) rfl;clear hN aj none h;generalize qb P bs t=X1 at*;generalize pu P bs t=X2 at*;generalize uD P bs t=bp at*;generalize Iy bs=K at*;generalize oF P t bs=LB at*;generalize C5 (o5 bs) (oz P t 0 0)=bq at*;go_enter func74,ntmps74;obtain⟨o,aZ,rfl,ah⟩:=HC.out Oa;obtain⟨u0,bm,aX⟩:=ah _ (f0 _ _) 0 Oa;obtain⟨br,bu,M0,rfl,aR,_,_⟩:=aX.openN;obtain rfl:K=M0:=by rw[<-aR.out,<-aC.out]
 have ap:=gb ah;clear aX aR aC HC ah;rw[kp]at bm;go_wp2_with fail;generalize w.alloc (.cells #[.int .i64 P,.slice (some ⟨o,aZ,none⟩) N C] 103)=n at*;go_loopw [8] (λr wr=>∃H:Nat,r= .int .i64 H/\H<=N/\Hid (∀j,j<H->(bs.getD j []).length=K)/\n=wr) (λr _=>N-(intOf r).toNat)
 case atStart=>exact⟨0,rfl,ge _,gb (λj y=>by omega),rfl⟩
 case round=>
  obtain⟨H,rfl,hi,I,rfl⟩:=hrel;by_cases aT:H<N
  ·have bh:(H:Int)<N:=(by omega);obtain⟨u2,bn,l⟩:=ap.out n (f0 _ _) H aT;obtain⟨bt,bv,ae,rfl,hM,_,_⟩:=l.openN;have J:=gb (X.out H aT)
   have W:=gb (λ(h:ae=K)=>(show∀j,j<H+1->(bs.getD j []).length=K from λj y=>by
    by_cases e:j=H
    ·rw[e,hM.out,h]
    ·exact I.out j Oa))
   rw[hM.out]at J;clear I l hM X;by_cases aS:ae=K
   ·have ez:=gb (W.out aS);clear W J;exact Us
   ·have bx:((ae:Int) !=K)=true:=(by grind);have HR:=gb (ao.out (J.out aS));clear W J;exact QD
  ·obtain rfl:H=N:=(by omega);have bh:¬(H:Int)<H:=Oa;have a3:=gb (aF.out I.out);have aL:=gb (aM.out n);clear I aF X aM;go_wp2_with fail;refine aL.out.mono ?_;rintro e d ⟨⟨sv,rfl,ak⟩,l⟩;rw[aN.out]at ak;have k:=gR ak l;clear ak l aL aN;go_wp2_with fail;go_loopg [10,11,12,13,14] (64^t) (λa8 bo _ _ _ _ wr=>∃(a:gA)(b:Int),bo= .int .i64 b/\Hid (mV t P a)/\Hid (JH P t bs a b)/\OI n.heap.size wr sv (jj a)/\gm n wr/\Hid (64^t<=a8+NG t a t))
   case atStart=>exact⟨List.range t,-1,rfl,aB,aE,k.out.1,k.out.2,gb (Nat.le_add_right _ _)⟩
   case round=>
    clear k aB aE;obtain⟨a,b,rfl,g,L,q,c,HG⟩:=hrel;generalize bB:gk=gi at*;have az:=gb (ay.out a);have ax:=gb (aw.out a);have av:=gb (au.out a);have V:=gb (aD.out a b L.out g.out);have ac:=gb (aH.out a b L.out g.out);have Z:=gb (aG.out a b L.out g.out);have U:=gb (λE o d ba bk=>am.out n.heap.size E sv o a d ba bk g.out);have aa:=gb (aI.out n.heap.size sv a wr q c.size g.out);have aK:=gb (λ(h:¬LB)=>aJ.out h a g.out);have ar:=gb (aq.out a);have k:=gR q c;have bz:wr.cell? ⟨w.heap.size,0,none⟩=some (.int .i64 P):=(G.out.below c).cell 0;have bb:wr.cell? ⟨w.heap.size,1,none⟩=some (.slice (some ⟨o,aZ,none⟩) H C):=(G.out.below c).cell 1;obtain⟨HN,aP⟩:∃HN:Nat->Nat,∀H,oA (bs.take H) a=HN H:=⟨λH=>oA (bs.take H) a,λH=>rfl⟩;simp only[aP]at az ax av ar;clear aP q c ay aw a1 au aD aH aG am aI aJ aq L;generalize oA bs a=F at*;obtain⟨A,a9⟩:∃A,A=wr:=⟨_,rfl⟩;subst a9;go_wp2;go_loopw [11,12,13] (λnv r _ wq=>∃j:Nat,r= .int .i64 j/\j<=H/\nv= .int .i64 (HN j:Nat)/\A=wq) (λ_ r _ _=>H-(intOf r).toNat)
    case atStart=>exact⟨0,rfl,ge _,by rw[ar.out];rfl,rfl⟩
    case round=>
     obtain⟨j,rfl,y,rfl,rfl⟩:=hrel;by_cases aU:j<H
     ·have bi:(j:Int)<H:=(by omega);obtain⟨u2,bn,l⟩:=ap.out A k.out.2 j aU;have T:=gb (U.out u2 _ A l k.out.1);have al:=az.out j aU;have bw:=av.out j;obtain⟨z,hz⟩:∃z,(a.all λS=>decide (S∈bs.getD j []))=z:=⟨_,rfl⟩;rw[hz]at al T;clear l hz;have M:=gb al;clear al;cases z with
      |true=>
       have ad:=gb (M.out.trans (by rw[gl rfl]));clear M;go_wp2_with fail;refine T.out.mono ?_;rintro e w2 ⟨rfl,rfl⟩;go_wp2;go_roundw
       case rel=>exact⟨j+1,by go_num,by omega,by rw[ad.out];go_num,by first|rfl|trivial⟩
       case measure=>exact gQ
      |false=>
       have ad:=gb (M.out.trans (by rw[gh Oc,kp]));clear M;go_wp2_with fail;refine T.out.mono ?_;rintro e w2 ⟨rfl,rfl⟩;go_wp2;go_roundw
       case rel=>exact⟨j+1,by go_num,by omega,by rw[ad.out],by first|rfl|trivial⟩
       case measure=>exact gQ
     ·obtain rfl:j=H:=(by omega);have bi:¬(j:Int)<j:=Oa;rw[ax.out];have aA:=gb (aQ.out.trans (k.out.2.mono aO.out));by_cases i:0<=b/\¬(F:Int)=b
      ·have bF:=i.1;have bl:((F:Int) !=b)=true:=iT.2 i.2;have HR:=gb (ao.out (V.out i.1 i.2));clear i ac Z V U aa aK;go_wp2;go_ret3;exact⟨by rw[HR.out.1,HR.out.2.1,HR.out.2.2];rfl,aA.out⟩
      ·have Q:0<=b->(F:Int)=b:=λh=>gx λhc=>i ⟨h,hc⟩;have ab:=gb (ac.out Q);have Y:=gb (Z.out Q);have bd:¬0<=b\/0<=b/\((F:Int) !=b)=false:=by
        by_cases O:0<=b
        ·exact .inr ⟨O,by rw[Q O];simp⟩
        exact Oa
       clear i Q ac Z V U;rcases bd with O|⟨O,bl⟩
       all_goals
        go_wp2_with fail;refine aa.out.mono ?_;rintro e w5 ⟨bc,ag⟩;have an:=gR (aA.out.trans (ag.mono (by have:=aO.out;omega))) (k.out.2.trans ag);clear ag aa;rcases bc with⟨D,p,ai,aV,rfl,aW⟩|⟨p,rfl,aW⟩
        ·have a4:=gb (ab.out D p aV);have a7:=gb (a2.out a D g.out p ai);have bg:=a6.out a D g.out p ai;have be:=a5.out a g.out;have bf:=HG.out;have a0:=gb (show 64^t<=(gi-1)+NG t (C4 t D a) t by omega);have bA:1<=gi:=Oa;clear bg be bf p ai aV Y ab;go_wp2;go_roundg (gi-1)
         case measure=>omega
         case rel=>exact⟨C4 t D a,_,rfl,a7,a4,aW,an.out.2,a0⟩
        ·have HR:=gb (aK.out (a3.out (Y.out p)));clear p Y ab;go_wp2;go_ret3;exact⟨by rw[HR.out.1,HR.out.2.1,HR.out.2.2];rfl,an.out.1⟩
end
theorem aal{P:Nat}:∀(t a s:Nat),a+t<=P->oz P t a s≠[]
 |0,a,s,_=>by unfold oz;simp
 |t+1,a,s,h=>by
  unfold oz;obtain⟨n,b⟩:∃n,P-t-a=n+1:=⟨P-t-a-1,by omega⟩;rw[b,wW,List.flatMap_cons];have:=aal (P:=P) t (a+0+1) (s|||2^(a+0)) Oa
  grind [List.append_eq_nil_iff]
theorem aln(P:Nat)(bs:kl)(t:Nat):(0<=qb P bs t/\qb P bs t<=40)/\(0<=pu P bs t/\pu P bs t<=200):=by
 by_cases h:uD P bs t=0
 ·obtain⟨c,a⟩:=NE h;refine⟨c,?_,a.2⟩;have f:rC P bs=0:=gx λa=>a (by grind [zq]);have d:¬(4<t\/P<t):=λb=>by
   grind [Fl]
  refine gx λb=>aal (P:=P) t 0 0 Oa (Ay (all:=o5 bs) λe=>b ?_);unfold pu;exact Oa
 grind [Fm]
theorem acy(P t:Nat)(r:kl)(nv lv k:Value)(B:Nat)(w:World)(hn:OI B w nv (gr [P,t]))(hr:RL w k (r.map gr)):
 Calls prog 20 #[.string (gJ [108,101,118,101,108]),nv,lv,k] w (oE (if uD P r t=0 then Lib.itoa (qb P r t)++32::Lib.itoa (pu P r t)else iJ (uD P r t)) w):=by
 refine oE.in λI aH j p=> ?_;have S:=TJ P r;have T:=ND P r t;obtain⟨⟨ab,aw⟩,ac,ax⟩:=aln P r t;have G:(prog.info? 103).map (·.size)=some 2:=Ob;have M:=gb (λ(a:World)(J:gm w a)=>Cf P k r a (hr.below J));have x:=gb (λ(h:rC P r=0)(a:World)(J:gm w a)=>I2 P t k r a (hr.below J) h)
 have af:=gd (rC P r≠0->I=iJ (rC P r)) (λh=>by
  have:=zq (t:=t) h
  rw[<-j.out,gh Oa,this])
 obtain⟨g,aa,rfl,y⟩:=hn.nums (n:=2) rfl Oc;have ag:=gd (∀V,gm w V->V.cell? ⟨g,0,none⟩=some (.int .i64 P)) (λV J=>y.out V J 0 Oc);have ah:=gd (∀V,gm w V->V.cell? ⟨g,1,none⟩=some (.int .i64 t)) (λV J=>y.out V J 1 Oc);clear hn y;have c0:=ag.out w (f0 _ _);obtain⟨f,i,rN,ap⟩:∃O aa al,k= .slice O al aa:=UW;subst ap;have A:ja (qb P r t):=by grind [ja]
 have C:ja (pu P r t):=by grind [ja]
 have l:=gb (λa=>nK (qb P r t) ab A a);have o:=gb (λa=>nK (pu P r t) ac C a);have an:=mf A;have aq:=mf C;clear hr ab aw ac ax A C;generalize rC P r=D at*;generalize uD P r t=ae at*;generalize qb P r t=am at*;generalize pu P r t=bh at*;obtain⟨b,U⟩:∃b,Lib.itoa am=b:=⟨_,rfl⟩;obtain⟨d,W⟩:∃d,Lib.itoa bh=d:=⟨_,rfl⟩;rw[U]at j l an;rw[W]at j o aq;have ad:=gd (I=if ae=0 then b++32::d else iJ ae) j.out.symm;have z1:=iw b;have z2:=iw d;have z3:=iw (b++[32]);rw[gz,jQ]at z3;have et:=gd (gJ b++(⟨#[32]⟩:ByteArray)=gJ (b++[32])) Uj;have db:=gd (gJ (b++[32])++gJ d=gJ (b++32::d)) Do;clear U W j;generalize gJ b=s1 at*;generalize gJ d=s2 at*;generalize gJ (b++[32])=s3 at*;have q0:((gJ [108,101,118,101,108]).toList==[101,120,116,101,110,100])=false:=Ol;have q1:((gJ [108,101,118,101,108]).toList==[108,101,118,101,108])=true:=Ol;generalize gJ [108,101,118,101,108]=aL at*;have R:hU (w.alloc (.cells #[.int .i64 0,.slice none 0 0] 103)) w.heap.size 103 [.int .i64 0,.slice none 0 0]:=hU.new w _ _;go_enter func20,ntmps20
 go_wp2_with (first
  |(refine ke rfl 103 _ _ rfl w.heap.size [.int .i64 P,.slice f rN i] rfl rfl R rfl G (by simp;exact⟨rfl,rfl⟩) ?_
    intro a z Z;have Y:gm w a:=((f0 _ _).alloc (fZ _) _).grown Z On (λaK e=>by grind);have r1:=z.range;have s:=gb Y;have L:=gb z
    clear z Z Y R)
  |(refine ii rfl 103 _ rfl w.heap.size 0 rfl [.int .i64 P,.slice f rN i] _ r1 underlying103 rfl G ?_))
 refine(M.out _ s.out).mono ?_;rintro e aj ⟨rfl,ar⟩;have c:=gb (s.out.trans (ar.mono s.out.size));have Q:=gd (∀V,gm aj V->hU V w.heap.size 103 [.int .i64 P,.slice f rN i]) (λV J=>(L.out.below ar).below J);clear ar r1 L M c0;by_cases q:D=0
 ·subst q;have N:=gb (λ(V:World)(J:gm aj V)=>x.out rfl V (c.out.trans (J.mono c.out.size)));have fp:=gd (∀V,gm aj V->V.cell? ⟨g,1,none⟩=some (.int .i64 t)) (λV J=>ah.out V (c.out.trans (J.mono c.out.size)));clear x;go_wp2_with fail;refine ky [87,88,89,90,91,86,92,93,94,17,18,16] [λv _=>v= .agg #[.int .i64 P,.slice f rN i],λv _=>v= .slice (some ⟨g,0,none⟩) 2 aa,λv _=>v= .pointer (some ⟨g,1,none⟩),λv _=>v= .int .i64 (t:Int),λv _=>v= .tuple #[.int .i64 am,.int .i64 bh,.int .i64 ae],λv _=>v= .tuple #[.int .i64 am,.int .i64 bh,.int .i64 ae],λv _=>v= .int .i64 am,λv _=>v= .int .i64 bh,λv _=>v= .int .i64 ae,λv _=>v= .int .i64 am,λv _=>v= .int .i64 bh,λv _=>v= .int .i64 ae] (λV=>gm aj V) (λa aj=>gm a aj) (100,0) Ob Ob rfl ⟨g5 _,g5 _,g5 _,g5 _,g5 _,g5 _,g5 _,g5 _,g5 _,g5 _,g5 _,g5 _,trivial⟩ ((f0 _ _).drew) ⟨?_,?_,?_,?_,?_,?_,?_,?_,?_,?_,?_,?_,trivial⟩ ?_
  ·intro O V K J hf hd hK;exact R6 103 _ rfl w.heap.size 0 (hf 15 rfl) [.int .i64 P,.slice f rN i] _ (Q.out V J).range underlying103 rfl G (hK _ _ rfl J (f0 _ _) (λh=>absurd h Oc))
  ·exact KG
  ·intro O V K J hf hd hK;have h3:O.tmps[88]?.getD undef= .slice (some ⟨g,0,none⟩) 2 aa:=iW (hd 1 Oc Ob rfl);exact QZ
  ·intro O V K J hf hd hK;have h3:O.tmps[89]?.getD undef= .pointer (some ⟨g,1,none⟩):=iW (hd 2 Oc Ob rfl);exact Ry
  ·intro O V K J hf hd hK;have aI:O.eval (.tmp 87)= .agg #[.int .i64 P,.slice f rN i]:=hd 0 Oc Ob rfl;have aJ:O.eval (.tmp 90)= .int .i64 (t:Int):=hd 3 Oc Ob rfl;refine nf _ _ _ #[.agg #[.int .i64 P,.slice f rN i],.int .i64 (t:Int)] rfl (by grind) _ func74 Ob Ob ?_;refine(N.out V J).mono ?_;exact KL
  ·intro O V K J hf hd hK;have h3:=hd 4 Oc Ob rfl;exact Rk
  ·exact Q1
  ·exact Q1
  ·exact Q1
  ·intro O V K J hf hd hK;have h3:=hd 6 Oc Ob rfl;exact KH
  ·exact Rm
  ·exact Q4
  rintro aM H ⟨ay,az,aA,aB,aC,aD,aE,aF,aG,E,F,hd,_⟩ X ao;clear ay az aA aB aC aD aE aF aG;simp only[Nat.reduceAdd]at E F hd;simp only[j7,Act.put,gU,io,iC,Nat.reduceAdd];rw[E,F,hd];have ai:=gb (l.out H);have ak:=gb (o.out H);have bo:=gb (p.out _ ae H (c.out.trans (X.mono c.out.size)) T ad.out);clear E F hd X ao l o p T N;go_wp2_with fail;refine ai.out.mono ?_;rintro e w8 ⟨rfl,au⟩;subst au;go_wp2_with fail;refine ak.out.mono ?_;rintro e w9 ⟨rfl,av⟩;subst av;exact P7
 ·have hz:(D !=0)=true:=iT.2 q;have bo:=gb (p.out [] D aj c.out S ((af.out q).trans (gh q).symm));clear p x S l o Q;exact Ot
theorem sr{wr:World}{d e c1:Int}{H:Nat}{ops:Array Oper}{rest:List Oper}{o:Oper}{a:Act}{Q:Exit->Act->World->Prop}(s y:Operand)(G:o.guard=none)(I:o.op= .call {callee:= .builtin .append,args:= #[s,y],argTypes:= #[46,46]})(B:Nat)(v:Value)(D:List (Nat×Nat×Nat))(t:Nat×Nat×Nat)(L:a.eval s=v)(K:OL B wr.heap.size wr v (D.map xX))(N:a.eval y= .slice (some ⟨H,0,none⟩) 1 1)(X:D.length<=1000000)(i:B<=wr.heap.size)(x:d=(t.1:Int))(z:e=(t.2.1:Int))(A:c1=(t.2.2:Int))
 (h:∀r b,OL B b.heap.size b r ((D++[t]).map xX)->(∀W,Below B W wr->Below B W b)->wpList prog ops Q rest (a.put o.dst r) b) (F:((wr.alloc (.cells #[.int .i64 d,.int .i64 e,.int .i64 c1] 3)).alloc (.cells #[.slice (some ⟨wr.heap.size,0,none⟩) 3 3] 45)).cell? ⟨H,0,none⟩=some (.slice (some ⟨wr.heap.size,0,none⟩) 3 3):=by first|exact kY _ _ _|go_simp):wpList prog ops Q (o::rest) a ((wr.alloc (.cells #[.int .i64 d,.int .i64 e,.int .i64 c1] 3)).alloc (.cells #[.slice (some ⟨wr.heap.size,0,none⟩) 3 3] 45)):=by
 subst x z A;have M:OI B (wr.alloc (.cells #[.int .i64 (t.1:Int),.int .i64 (t.2.1:Int),.int .i64 (t.2.2:Int)] 3)) (.slice (some ⟨wr.heap.size,0,none⟩) 3 3) (xX t):=Ow.lit 3 B wr #[.int .i64 (t.1:Int),.int .i64 (t.2.1:Int),.int .i64 (t.2.2:Int)] 3 i rfl Oc;have j:=oH wr (.cells #[.int .i64 (t.1:Int),.int .i64 (t.2.1:Int),.int .i64 (t.2.2:Int)] 3) none;have J:=K.kept j (λk w=>by cases w);have n:=j.size;obtain⟨R,f,O,P,q⟩:=J;refine jt (wr.alloc (.cells #[.int .i64 (t.1:Int),.int .i64 (t.2.1:Int),.int .i64 (t.2.2:Int)] 3)) s y 46 45 (.slice none 0 0) 24 G I underlying46 info45 rfl Oc B v R L f N rfl (by grind) Oa ?_ ((f0 _ _).alloc (fZ _) _) F;intro T S b C g U V;refine h _ b ?_ (λW E=> ?_)
 ·rw[jf];exact OL.snoc f (λk c=>gS (O k c) n) P (λp l=>⟨(q p l).1,λk c=>gS ((q p l).2 k c) n⟩) M (fZ _) C g
 ·exact((E.alloc i _).grown g Oa (λk c=>(f.lt k c).1))
def Ba(v:Nat)(d:Ending)(w':World):Prop:=∃(P:Int)(a:Option Addr)(c b:Nat)(X:lO),d= .returned (.tuple #[.agg #[.int .i64 P,.slice a c b],.int .i64 (oC v)])/\RL w' (.slice a c b) X/\((∀m∈X,(∀x∈m,0<=x/\x<=9223372036854775807)/\m.length<=1000)/\X.length<=1000)/\(oC v=0->X=qQ v)
theorem IT{v:Nat}{w':World}(z:Int)(h:oC v=z)(a:z≠0):Ba v (.returned (.tuple #[.agg #[.int .i64 0,.slice none 0 0],.int .i64 z])) w':=⟨0,none,0,0,[],by rw[h],⟨none,0,rfl,by simp,λh=>by simp at h⟩,by simp,λb=>absurd (h.symm.trans b) a⟩
theorem NJ(v:Nat)(w:World)(h:oC v≠0):
 Calls prog 75 #[.int .i64 v] w λg b=>Ba v g b/\gm w b:=by
 have cm:(prog.info? 103).map (·.size)=some 2:=Ob;have e:hU (w.alloc (.cells #[.int .i64 0,.slice none 0 0] 103)) w.heap.size 103 [.int .i64 0,.slice none 0 0]:=hU.new w _ _;have f:Below w.heap.size w (w.alloc (.cells #[.int .i64 0,.slice none 0 0] 103)):=(f0 _ _).alloc (fZ _) _;have HR:=gR e f;clear e f;have HG:=gb (λ(z:Int)(a:oC v=z)(i:z≠0)=>IT (w':=w.alloc (.cells #[.int .i64 0,.slice none 0 0] 103)) z a i);have n:v<1\/(¬v<1/\33<v)\/(¬v<1/\¬33<v/\¬v%6=3/\¬v%6=1):=by
  unfold oC at h;exact Oa
 rcases n with a|⟨a,d⟩|⟨a,d,k,l⟩
 ·have HE:=gb (HG.out 1 (gl (.inl a)) Oc);have c:(v:Int)<1:=Oa;exact O6
 ·have HE:=gb (HG.out 1 (gl (.inr d)) Oc);have c:¬(v:Int)<1:=Oa;have j:(33:Int)<v:=Oa;exact O6
 ·have HE:=gb (HG.out 4 UY Oc);have c:¬(v:Int)<1:=Oa;have j:¬(33:Int)<v:=Oa;have s:(v:Int).tmod 6=((v%6:Nat):Int):=(gO _ _).symm;have q:(v:Int).tdiv 6=((v/6:Nat):Int):=(iS _ _).symm;have r:v/6<=5:=Oa;have p:(((v%6:Nat):Int)==3)=false:=(by grind);have o:(((v%6:Nat):Int)==1)=false:=(by grind);clear h HG k l;generalize v%6=t at*;generalize v/6=x at*;go_enter func75,ntmps75;go_wp2;have bx:=gV (P:=prog) _ _ _ 103 _ _ HR.out.1.range underlying103 rfl cm;refine⟨rfl,.tuple #[.agg #[.int .i64 0,.slice none 0 0],.int .i64 4],?_,HE.out,HR.out.2⟩;exact PV
theorem E1(g:Nat->Nat->Nat)(m:Nat)(a:m<=11):∀x,x<=m->(Gi g m x).length<=40*x
 |0,_=>ge _
 |x+1,h=>by
  rw[Gi,gz,rF];have:=E1 g m a x Oa;exact Oa
theorem acr(v:Nat)(w:World)(h1:1<=v)(h2:v<=33)(h3:v%6=3):
 Calls prog 75 #[.int .i64 v] w λen w'=>Ba v en w'/\gm w w':=by
 have cm:(prog.info? 103).map (·.size)=some 2:=Ob;have O:oC v=0:=UY;have aI:(v:Int).tmod 6=((v%6:Nat):Int):=(gO _ _).symm;have an:(v:Int).tdiv 6=((v/6:Nat):Int):=(iS _ _).symm;have e3:(((v%6:Nat):Int)==3)=true:=by grind
 have aA:¬(v:Int)<1:=Oa;have aC:¬(33:Int)<v:=Oa;have aq:v/6<=5:=Oa;have l:=Fj (v/6) Oa;have e:∀(D:List (Nat×Nat×Nat))(bi:lO),D.Perm (JN (v/6) (2*(v/6)+1) (2*(v/6)+1))->J2 (D.map xX) bi->bi=qQ v/\∀m∈bi,∀x∈m,0<=x/\x<=9223372036854775807:=λD bi i hO=>by
  unfold qQ;rw[gl h3];have V:bi.Perm (D.map λt=>nG (xX t)):=Ku;exact⟨ad6 (tY l.1) i V hO.srt,VU (tY l.1) i V⟩
 have ek:(∀x∈qQ v,x.length<=1000)/\(qQ v).length<=1000:=by
  unfold qQ;split
  ·exact Ke
  exact Oa
 have dH:=gb ek;have HE:=gb O;obtain⟨t,X⟩:∃t,v/6=t:=⟨_,rfl⟩;rw[X]at e aq an;obtain⟨m,hm⟩:∃m,2*t+1=m:=⟨_,rfl⟩;rw[hm]at e;have n:m<=11:=Oa;have aK:2*(t:Int)+1=m:=Oa;have L:=gb (λx hx=>E1 (uP t m) m n x hx);have ay:=gb hm;have z:=gb (λx j=>rF (uP t m) m x j);have cR:=gb xR;have af:=gb uj;have ae:=gd (∀M:Nat->Nat×Nat×Nat,r3 M 0=[]) (λM=>rfl);have E:=gd (∀x,Gi (uP t m) m (x+1)=Gi (uP t m) m x++tR (uP t m) m x (m-(x+1))) (λx=>rfl);have ad:=gd (Gi (uP t m) m 0=[]) rfl;have B:=gd (∀x j,tR (uP t m) m x (j+1)=tR (uP t m) m x j++r3 (ye m x (x+1+j) (uP t m x (x+1+j))) 3) (λx j=>rfl);have r:=gd (∀x,tR (uP t m) m x 0=[]) (λx=>rfl);have F:=gd ((dxR m m++Gi (uP t m) m m).Perm (JN t m m)) (aab t m m);have I:=gd (dxR m 0=[]) rfl;have K:=gd (∀x,dxR m (x+1)=dxR m x++[(x,x+m,x+2*m)]) (λx=>(uj _ _).symm);have g:=gd (∀x,(dxR m x).length=x) (λx=>xR _ _);have HX:=gb (λbi h=>e _ bi F.out h);have az:=gd (∀x H,X5 t m x H=(6*t,x+t+m*H,x+m*((H+1)%3))) (λx H=>rfl);have ac:=gd (∀x y h H,ye m x y h H=(x+m*H,y+m*H,h+m*((H+1)%3))) (λx y h H=>rfl);have HH:=gd (∀x y,uP t m x y=(x+y)*(t+1)%m) (λx y=>rfl)
 have e7:=gb (λ(v:Value)(D:List (Nat×Nat×Nat))(ai:Nat)(w1:World)(aa:Nat)(i:D.length<=2000)(h:OL aa ai w1 v (D.map xX))=>yo v (D.map xX) w1 (h.rl (by grind) (λH hi=>by
  rw[gv]at hi;rw[gc,gY,gn hi]
  exact(by decide:(3:Nat)<=17592186044416))) (by grind) (λx hx=>by
  exact Dr))
 clear e l ek O X hm F;generalize dxR m=d at*;generalize Gi (uP t m) m=DY at*;generalize tR (uP t m) m=BY at*;generalize uP t m=GG at*;generalize v%6=q6 at*;obtain⟨W0,dk⟩:∃W0,w.alloc (.cells #[.int .i64 0,.slice none 0 0] 103)=W0:=⟨_,rfl⟩;have S:W0.heap.size=w.heap.size+1:=DO;have N:hU W0 w.heap.size 103 [.int .i64 0,.slice none 0 0]:=by grind [hU.new]
 have T:gm w W0:=Sa;have HW:=ju N T S;clear N T S;go_enter func75,ntmps75;go_wp2_with fail
 try rw[dk]
 clear dk;go_loopw [4,7] (λa c wr=>∃x:Nat,c= .int .i64 x/\x<=m/\OL W0.heap.size wr.heap.size wr a ((d x).map xX)/\gm W0 wr) (λ_ c _=>m-(intOf c).toNat)
 case atStart=>exact⟨0,rfl,ge _,by rw[I.out];exact OL.nil _ _ _,f0 _ _⟩
 case round=>
  obtain⟨x,rfl,hx,ho,J⟩:=hrel;by_cases aM:x<m
  ·have au:(x:Int)<m:=(by omega);have aB:=J.size;have bS:(d x).length<=1000000:=(by rw[g.out];omega);have HB:=gb J;have ah:=gb (K.out x);clear J;go_wp2_with (at_builtin;refine sr _ _ rfl rfl W0.heap.size _ (d x) (x,x+m,x+2*m) rfl ho rfl bS aB Oa (by grind) (by grind) ?_;intro dW w9 h9 eD);have HQ:=gR h9 (eD _ HB.out);rw[<-ah.out]at HQ;clear h9 eD ho;exact UF
  ·obtain rfl:x=m:=(by omega);have au:¬(x:Int)<x:=Oa;have U:=g.out x;obtain⟨L0,k⟩:∃L0,d x=L0:=⟨_,rfl⟩;rw[k]at U ho;rw[k]at HX;have aH:L0.length<=100:=Oa;have HQ:=gR ho J;clear ho J k K I g U;go_wp2_with fail;go_loopw [4,10,11,12,13,14] (λa c _ _ _ _ wr=>∃al:Nat,c= .int .i64 al/\al<=x/\OL W0.heap.size wr.heap.size wr a ((L0++DY al).map xX)/\gm W0 wr) (λ_ c _ _ _ _ _=>x-(intOf c).toNat)
   case atStart=>exact⟨0,rfl,ge _,by rw[ad.out,jb];exact HQ.out.1,HQ.out.2⟩
   case round=>
    clear HQ;obtain⟨al,rfl,hz,ho,J⟩:=hrel;have aw:=L.out al hz;by_cases aO:al<x
    ·have ax:(al:Int)<x:=(by omega);have HQ:=gR ho J;have fN:=gb (E.out al);have C:=gb (B.out al);have A:=gb (z.out al);have ab:=gb (r.out al);clear ho J E B z r HX e7 L;have ao:(L0++DY al).length<=600:=(by grind);have ca:=gd (∀D,L0++DY al++D=L0++(DY al++D)) (λD=>iN _ _ _);generalize BY al=BZ at*;obtain⟨L1,Q⟩:∃L1,L0++DY al=L1:=⟨_,rfl⟩;rw[Q]at HQ ao ca;clear Q aw;go_wp2_with fail;go_loopw [4,11,12,13,14] (λa q _ _ _ wr=>∃j:Nat,q= .int .i64 ((al+1+j:Nat):Int)/\j<=x-(al+1)/\OL W0.heap.size wr.heap.size wr a ((L1++BZ j).map xX)/\gm W0 wr) (λ_ q _ _ _ _=>x-(intOf q).toNat)
     case atStart=>exact⟨0,by go_num,ge _,by rw[ab.out,jb];exact HQ.out.1,HQ.out.2⟩
     case round=>
      clear HQ;obtain⟨j,rfl,hj,ho,J⟩:=hrel;have ak:=A.out j;have ap:(L1++BZ j).length<=700:=UH;have bE:=gd (∀D,L1++BZ j++D=L1++(BZ j++D)) (λD=>iN _ _ _);have e8:=gb (C.out j);obtain⟨y,o⟩:∃y,al+1+j=y:=⟨_,rfl⟩;rw[o]at e8⊢;have cy:=gb o;by_cases aN:y<x
      ·have av:(y:Int)<x:=(by omega);have HQ:=gR ho J;clear ho J C A ak o;obtain⟨L2,R⟩:∃L2,L1++BZ j=L2:=⟨_,rfl⟩;rw[R]at HQ ap bE;clear R;have f:=HH.out al y;obtain⟨s,W⟩:∃s,al+y=s:=⟨_,rfl⟩;obtain⟨b,Y⟩:∃b,t+1=b:=⟨_,rfl⟩;rw[W,Y]at f;have n1:(al:Int)+y=s:=Oa;have nt:(t:Int)+1=b:=Oa;have n2:(s:Int)*b=((s*b:Nat):Int):=(gI _ _).symm;have b1:s*b<=22*6:=gE Oa Oa;obtain⟨u2,Z⟩:∃u2,s*b=u2:=⟨_,rfl⟩;rw[Z]at n2 b1 f;have n3:(u2:Int).tmod (x:Int)=((u2%x:Nat):Int):=(gO _ _).symm;have b2:u2%x<x:=iD _ Oa;obtain⟨G,P⟩:∃G,GG al y=G:=⟨_,rfl⟩;rw[P]at f e8;have aL:s<=22:=Oa;clear P W Y Z;generalize u2%x=u1 at*;have aD:G<=50:=Oa;subst f;go_wp2_with fail;go_loopw [4,14] (λa p wr=>∃H:Nat,p= .int .i64 H/\H<=3/\OL W0.heap.size wr.heap.size wr a ((L2++r3 (ye x al y G) H).map xX)/\gm W0 wr) (λ_ p _=>3-(intOf p).toNat)
       case atStart=>exact⟨0,rfl,ge _,by rw[ae.out,jb];exact HQ.out.1,HQ.out.2⟩
       case round=>
        clear HQ;obtain⟨H,rfl,hi,ho,J⟩:=hrel;by_cases aF:H<3
        ·have aG:(H:Int)<3:=(by omega);have aB:=J.size;have bS:(L2++r3 (ye x al y G) H).length<=1000000:=Ue;have HB:=gb J;have m1:(x:Int)*H=((x*H:Nat):Int):=(gI _ _).symm;have m2:((H:Int)+1).tmod 3=(((H+1)%3:Nat):Int):=(gO (H+1) 3).symm;have m3:(x:Int)*(((H+1)%3:Nat):Int)=((x*((H+1)%3):Nat):Int):=(gI _ _).symm;have k1:x*H<=11*3:=gE n Oa;have k2:x*((H+1)%3)<=11*3:=gE n Oa;have aE:=ac.out al y G H;have dz:=gb (af.out (ye x al y G) H);generalize ye x al y G=BO at*;generalize x*H=mi at*;generalize x*((H+1)%3)=mk at*;exact Oq
        ·exact OA
      ·have av:¬(y:Int)<x:=(by omega);obtain rfl:j=x-(al+1):=Oa;exact Mh
    ·obtain rfl:al=x:=(by omega);have ax:¬(al:Int)<al:=Oa;have bQ:=gb (e7.out _ _ _ wr _ (by grind) ho);exact KC
theorem acq(v:Nat)(w:World)(h1:1<=v)(h2:v<=33)(h3:v%6=1):
 Calls prog 75 #[.int .i64 v] w λen w'=>Ba v en w'/\gm w w':=by
 have cm:(prog.info? 103).map (·.size)=some 2:=Ob;have Q:oC v=0:=UY;have aG:(v:Int).tmod 6=((v%6:Nat):Int):=(gO _ _).symm;have an:(v:Int).tdiv 6=((v/6:Nat):Int):=(iS _ _).symm;have aA:¬(v:Int)<1:=Oa;have aC:¬(33:Int)<v:=Oa;have au:v/6<=5:=Oa;have o:=Fj (v/6) Oa;have i:∀(D:List (Nat×Nat×Nat))(bi:lO),D.Perm (Gp (v/6) (2*(v/6)) (2*(v/6)))->J2 (D.map xX) bi->bi=qQ v/\∀m∈bi,∀x∈m,0<=x/\x<=9223372036854775807:=λD bi l hO=>by
  unfold qQ;rw[gh Oa];have X:bi.Perm (D.map λt=>nG (xX t)):=Ku;exact⟨ad6 (tY o.2) l X hO.srt,VU (tY o.2) l X⟩
 have ek:(∀x∈qQ v,x.length<=1000)/\(qQ v).length<=1000:=by
  unfold qQ;split
  ·exact Oa
  ·exact Ke
 have dH:=gb ek;have HE:=gb Q;obtain⟨t,ht⟩:∃t,v/6=t:=⟨_,rfl⟩;rw[ht]at i au an;obtain⟨m,hm⟩:∃m,2*t=m:=⟨_,rfl⟩;rw[hm]at i;have dF:m<=11:=Oa;have aH:2*(t:Int)=m:=Oa;have M:=gb (λx hx=>E1 (vH t m) m dF x hx);have az:=gb hm;have A:=gb (λx j=>rF (vH t m) m x j);have cR:=gb xR;have cx:=gb uj;have eO:=gd (∀O:Nat->Nat×Nat×Nat,r3 O 0=[]) (λO=>rfl);have F:=gd (∀x,Gi (vH t m) m (x+1)=Gi (vH t m) m x++tR (vH t m) m x (m-(x+1))) (λx=>rfl);have ad:=gd (Gi (vH t m) m 0=[]) rfl;have C:=gd (∀x j,tR (vH t m) m x (j+1)=tR (vH t m) m x j++r3 (ye m x (x+1+j) (vH t m x (x+1+j))) 3) (λx j=>rfl);have z:=gd (∀x,tR (vH t m) m x 0=[]) (λx=>rfl);have I:=gd ((JT t m t++Gi (vH t m) m m).Perm (Gp t m m)) (by rw[adG]);have K:=gd (JT t m 0=[]) rfl;have L:=gd (∀x,JT t m (x+1)=(JT t m x++[(x,x+m,x+2*m)])++r3 (X5 t m x) 3) (λx=>rfl);have g:=gd (∀x,(JT t m x).length=4*x) (λx=>zB t m x);have HX:=gb (λbi h=>i _ bi I.out h);have af:=gd (∀x H,X5 t m x H=(6*t,x+t+m*H,x+m*((H+1)%3))) (λx H=>rfl);have dp:=gd (∀x y h H,ye m x y h H=(x+m*H,y+m*H,h+m*((H+1)%3))) (λx y h H=>rfl);have HH:=gd (∀x y,vH t m x y=if(x+y)%m%2=0 then(x+y)%m/2 else((x+y)%m-1)/2+t) (λx y=>rfl)
 have e7:=gb (λ(v:Value)(D:List (Nat×Nat×Nat))(ai:Nat)(w1:World)(ab:Nat)(l:D.length<=2000)(h:OL ab ai w1 v (D.map xX))=>yo v (D.map xX) w1 (h.rl (by grind) (λH hi=>by
  rw[gv]at hi;rw[gc,gY,gn hi]
  exact(by decide:(3:Nat)<=17592186044416))) (by grind) (λx hx=>by
  exact Dr))
 clear i o ek Q ht hm I;generalize JT t m=d at*;generalize Gi (vH t m) m=DY at*;generalize tR (vH t m) m=BY at*;generalize vH t m=GG at*;generalize v%6=q6 at*;obtain⟨W0,dk⟩:∃W0,w.alloc (.cells #[.int .i64 0,.slice none 0 0] 103)=W0:=⟨_,rfl⟩;have U:W0.heap.size=w.heap.size+1:=DO;have P:hU W0 w.heap.size 103 [.int .i64 0,.slice none 0 0]:=by grind [hU.new]
 have V:gm w W0:=Sa;have HW:=ju P V U;clear P V U;go_enter func75,ntmps75;go_wp2_with fail
 try rw[dk]
 clear dk;go_loopw [4,8,9] (λlv c _ wr=>∃x:Nat,c= .int .i64 x/\x<=t/\OL W0.heap.size wr.heap.size wr lv ((d x).map xX)/\gm W0 wr) (λ_ c _ _=>t-(intOf c).toNat)
 case atStart=>exact⟨0,rfl,ge _,by rw[K.out];exact OL.nil _ _ _,f0 _ _⟩
 case round=>
  obtain⟨x,rfl,hx,ho,J⟩:=hrel;by_cases aO:x<t
  ·have av:(x:Int)<t:=(by omega);have aB:=J.size;have bS:(d x).length<=1000000:=(by rw[g.out];omega);have HB:=gb J;have ae:=gb (L.out x);have aF:(d x++[(x,x+m,x+2*m)]).length<=100:=(by rw[gz,g.out];simp;omega);have ah:=gb (af.out x);clear J;go_wp2_with (at_builtin;refine sr _ _ rfl rfl W0.heap.size _ (d x) (x,x+m,x+2*m) rfl ho rfl bS aB Oa OK OK ?_;intro dW w9 h9 eD);have HQ:=gR h9 (eD _ HB.out);clear h9 eD ho bS aB HB;generalize d x++[(x,x+m,x+2*m)]=k at*;generalize X5 t m x=e at*;go_wp2_with fail;go_loopw [4,9] (λlv iv wr=>∃H:Nat,iv= .int .i64 H/\H<=3/\OL W0.heap.size wr.heap.size wr lv ((k++r3 e H).map xX)/\gm W0 wr) (λ_ iv _=>3-(intOf iv).toNat)
   case atStart=>exact⟨0,rfl,ge _,by rw[eO.out,jb];exact HQ.out.1,HQ.out.2⟩
   case round=>
    clear HQ;obtain⟨H,rfl,hi,ho,J⟩:=hrel;by_cases fb:H<3
    ·have aS:(H:Int)<3:=(by omega);have aB:=J.size;have bS:(k++r3 e H).length<=1000000:=Ue;have HB:=gb J;have n1:(m:Int)*H=((m*H:Nat):Int):=(gI _ _).symm;have n2:((H:Int)+1).tmod 3=(((H+1)%3:Nat):Int):=(gO (H+1) 3).symm;have n3:(m:Int)*(((H+1)%3:Nat):Int)=((m*((H+1)%3):Nat):Int):=(gI _ _).symm;have N:m*H<=11*3:=gE dF Oa;have b2:m*((H+1)%3)<=11*3:=gE dF Oa;have aK:=ah.out H;have Z:=cx.out e H;have dz:=gb Z;generalize m*H=mi at*;generalize m*((H+1)%3)=mk at*;generalize (H+1)%3=k3 at*;clear J Z;go_wp2_with (at_builtin;refine sr _ _ rfl rfl W0.heap.size _ (k++r3 e H) (e H) rfl ho rfl bS aB OK OK OK ?_;intro dW w9 h9 eD);exact Ph
    ·obtain rfl:H=3:=(by omega);have HQ:=gR ho J;rw[<-ae.out]at HQ;clear ho J;go_wp2;exact UF
  ·obtain rfl:x=t:=(by omega);have av:¬(x:Int)<x:=Oa;have W:=g.out x;obtain⟨L0,n⟩:∃L0,d x=L0:=⟨_,rfl⟩;rw[n]at W ho;rw[n]at HX;have aE:L0.length<=100:=Oa;have HQ:=gR ho J;clear ho J n L K g W;go_wp2_with fail;go_loopw [4,10,11,12,13,14] (λlv c _ _ _ _ wr=>∃al:Nat,c= .int .i64 al/\al<=m/\OL W0.heap.size wr.heap.size wr lv ((L0++DY al).map xX)/\gm W0 wr) (λ_ c _ _ _ _ _=>m-(intOf c).toNat)
   case atStart=>exact⟨0,rfl,ge _,by rw[ad.out,jb];exact HQ.out.1,HQ.out.2⟩
   case round=>
    clear HQ;obtain⟨al,rfl,hz,ho,J⟩:=hrel;have ax:=M.out al hz;by_cases aR:al<m
    ·have ay:(al:Int)<m:=(by omega);have HQ:=gR ho J;have fN:=gb (F.out al);have E:=gb (C.out al);have B:=gb (A.out al);have ac:=gb (z.out al);clear ho J F C A z HX e7 M;have ao:(L0++DY al).length<=600:=UH;have ca:=gd (∀D,L0++DY al++D=L0++(DY al++D)) (λD=>iN _ _ _);generalize BY al=BZ at*;obtain⟨L1,S⟩:∃L1,L0++DY al=L1:=⟨_,rfl⟩;rw[S]at HQ ao ca;clear S ax;go_wp2_with fail;go_loopw [4,11,12,13,14] (λlv r _ _ _ wr=>∃j:Nat,r= .int .i64 ((al+1+j:Nat):Int)/\j<=m-(al+1)/\OL W0.heap.size wr.heap.size wr lv ((L1++BZ j).map xX)/\gm W0 wr) (λ_ r _ _ _ _=>m-(intOf r).toNat)
     case atStart=>exact⟨0,by go_num,ge _,by rw[ac.out,jb];exact HQ.out.1,HQ.out.2⟩
     case round=>
      clear HQ;obtain⟨j,rfl,hj,ho,J⟩:=hrel;have ak:=B.out j;have ap:(L1++BZ j).length<=700:=UH;have bE:=gd (∀D,L1++BZ j++D=L1++(BZ j++D)) (λD=>iN _ _ _);have e8:=gb (E.out j);obtain⟨y,q⟩:∃y,al+1+j=y:=⟨_,rfl⟩;rw[q]at e8⊢;have cy:=gb q;by_cases aQ:y<m
      ·have aw:(y:Int)<m:=(by omega);have HQ:=gR ho J;clear ho J E B ak q;obtain⟨L2,T⟩:∃L2,L1++BZ j=L2:=⟨_,rfl⟩;rw[T]at HQ ap bE;clear T;have a:=HH.out al y;obtain⟨s,Y⟩:∃s,al+y=s:=⟨_,rfl⟩;obtain⟨b,aq⟩:∃b,x+1=b:=⟨_,rfl⟩;rw[Y]at a;have n1:(al:Int)+y=s:=Oa;have nt:(x:Int)+1=b:=Oa;have n2:(s:Int)*b=((s*b:Nat):Int):=(gI _ _).symm;have N:s*b<=22*6:=gE Oa Oa;obtain⟨u2,f⟩:∃u2,s*b=u2:=⟨_,rfl⟩;rw[f]at n2 N;have n3:(u2:Int).tmod (m:Int)=((u2%m:Nat):Int):=(gO _ _).symm;have b2:u2%m<m:=iD _ Oa;have n4:(s:Int).tmod (m:Int)=((s%m:Nat):Int):=(gO _ _).symm;have b3:s%m<m:=iD _ Oa;have n5:((s%m:Nat):Int).tdiv 2=((s%m/2:Nat):Int):=(iS _ _).symm;have n6:((s%m:Nat):Int).tmod 2=((s%m%2:Nat):Int):=(gO _ _).symm;obtain⟨G,R⟩:∃G,GG al y=G:=⟨_,rfl⟩;rw[R]at a e8;have aI:s<=22:=Oa;clear R Y aq f;generalize u2%m=u1 at*;generalize s%m=u3 at*;have aD:G<=50:=(by split at a<;>omega);by_cases f:u3%2=0
       ·rw[gl f]at a;have aa:u3/2<=50:=Oa;obtain⟨u4,p⟩:∃u4,u3/2=u4:=⟨_,rfl⟩;rw[p]at n5 a aa;generalize u3%2=u6 at*;clear p;subst a;exact KE
       ·rw[gh f]at a;have aL:u3%2=1:=Oa;have aM:1<=u3:=Oa;have n7:(u3:Int)-1=((u3-1:Nat):Int):=Oa;have n8:((u3-1:Nat):Int).tdiv 2=(((u3-1)/2:Nat):Int):=(iS _ _).symm;have n9:(((u3-1)/2:Nat):Int)+x=G:=Oa;have aa:u3/2<=50:=Oa;have p:(u3-1)/2<=50:=Oa;have aN:u3-1<=50:=Oa;generalize u3/2=u4 at*;clear a;generalize (u3-1)/2=u7 at*;generalize u3-1=u8 at*;generalize u3%2=u6 at*;exact KE
      ·have aw:¬(y:Int)<m:=(by omega);obtain rfl:j=m-(al+1):=Oa;exact Mh
    ·obtain rfl:al=m:=(by omega);have ay:¬(al:Int)<al:=Oa;have bQ:=gb (e7.out _ _ _ wr _ UH ho);exact KC
theorem Jt(v:Nat):0<=oC v/\oC v<=6:=by
 grind [oC]
theorem VT(v:Nat):(∀m∈qQ v,(∀x∈m,ja x)/\m.length<=1000)/\(qQ v).length<=1000:=by
 unfold qQ;split
 ·exact(qH _).1
 ·exact(qH _).1
theorem alJ:ZJ oC qQ:=by
 intro v a p o;have c:=VT v;have i:Calls prog 120 #[.int .i64 v] a λd b=>SP v d b/\gm a b:=by
  by_cases h:v<1\/33<v
  ·exact Zs v a h
  ·by_cases e:v%6=3\/v%6=1
   ·exact aeK v a Oa Oa e
   ·exact Wb v a Oa Oa Oa Oa
 refine i.mono ?_;rintro n b ⟨⟨P,j,l,k,rfl,f⟩,g⟩;exact⟨P,j,l,k,rfl,Jt v,λh=>⟨f h,c.1,c.2⟩,g⟩
theorem NO(v:Nat)(I Y Z:Value)(B:Nat)(w:World)(H:OI B w I (gr [v])):
 Calls prog 20 #[.string (gJ [116,114,105,112,108,101,115]),I,Y,Z] w (oE (if oC v=0 then kL (qQ v)else iJ (oC v)) w):=by
 refine oE.in λJ aa k q=> ?_;have A:=Jt v;have V:(prog.info? 103).map (·.size)=some 2:=Ob
 have p:=gd (∀b,Calls prog 75 #[.int .i64 v] b λO a=>Ba v O a/\gm b a) (λb=>by
  by_cases h:oC v=0
  ·have R:¬(v<1\/33<v):=λhc=>by
    unfold oC at h;exact Oa
   by_cases S:v%6=3
   ·exact acr v b Oa Oa S
   ·by_cases T:v%6=1
    ·exact acq v b Oa Oa T
    ·unfold oC at h;rw[gh R,gh Oa]at h;exact Sb
  ·exact NJ v b h)
 have l:=gd (∀X,(oC v=0->X=qQ v)->J=if oC v=0 then kL X else iJ (oC v)) (λX h=>by
  rw[<-k.out]
  grind)
 clear k;obtain⟨Q,ab,rfl,r⟩:=H.nums (n:=1) rfl Oc;have M:=gd (∀a,gm w a->a.cell? ⟨Q,0,none⟩=some (.int .i64 v)) (λa d=>r.out a d 0 Oc);clear H r;have c0:=M.out w (f0 _ _);have q0:((gJ [116,114,105,112,108,101,115]).toList==[101,120,116,101,110,100])=false:=Ol;have q1:((gJ [116,114,105,112,108,101,115]).toList==[108,101,118,101,108])=false:=Ol;have q2:((gJ [116,114,105,112,108,101,115]).toList==[116,114,105,112,108,101,115])=true:=Ol;generalize gJ [116,114,105,112,108,101,115]=ae at*;go_enter func20,ntmps20;go_wp2_with fail;refine(p.out _).mono ?_;rintro x c ⟨⟨P,g,j,i,X,rfl,C,D,E⟩,d⟩;have L:=gb (l.out X E);have y:hU (c.alloc (.cells #[.int .i64 0,.slice none 0 0] 103)) c.heap.size 103 [.int .i64 0,.slice none 0 0]:=hU.new c _ _;have f:=gR d C;have s:=gb D;clear d C D E l p c0;generalize oC v=K at*
 go_wp2_with (first
  |(refine ke rfl 103 _ _ rfl c.heap.size [.int .i64 P,.slice g j i] rfl rfl y rfl V (by simp;exact⟨rfl,rfl⟩) ?_
    intro e z G;have ac:e.cell? ⟨c.heap.size,1,none⟩=some (.slice g j i):=z.cell 1;have F:gm c e:=((f0 _ _).alloc (fZ _) _).grown G On (λad x=>by grind);have o:=gb F
    clear z G F y))
 have N:=gb (sj (.slice g j i) X e (f.out.2.below o.out) (λW U=>s.out.1 W U) s.out.2);have t:=gb (q.out (kL X) K e (f.out.1.trans (o.out.mono f.out.1.size)) A L.out);clear q A;go_wp2_with fail;refine N.out.mono ?_;rintro x w9 ⟨rfl,rfl⟩;go_wp2
 first|exact t.out|(go_ret2;exact t.out)
theorem aeZ{n k:Nat}(c:1<=n)(d:1<=k)(h:k^n<=1000000000000000000):0<=mm n k:=by
 by_cases b:k=1
 ·have a:mm n k=1:=gl b;exact Oa
 ·have a:mm n k=qX k n n:=gh b;have e:=uX (k:=k) Oa h;rw[a,<-zV c Oa]
  grind
theorem ajf{n:Nat}{ll:lO}(h:lF (n:Int) ll=0):∀l∈ll,Wh l n (fL l):=λl b=>by
 obtain⟨_,_,a⟩:=CQ h
 grind [IQ]
theorem aca(n k:Nat)(G L M:Value)(B:Nat)(w:World)(D:OI B w G (gr [n,k]))(f:n<1000000000)(R:k<1000000000):
 Calls prog 19 #[.string (gJ [98,101,97,100,115]),G,L,M] w (oE (if kB n k=0 then Lib.itoa (if kB n k=0 then mm n k else 0)else iJ (kB n k)) w):=by
 refine oE.in λA N j i=> ?_;have q:0<=kB n k/\kB n k<=6:=by
  grind [kB]
 have x:=gb (λc=>Ch n k c (by grind [ja]) (by grind [ja]));have a:kB n k=0->1<=n/\1<=k/\k^n<=1000000000000000000:=λq=>by
  grind [kB]
 have l:=gb (λ(h:kB n k=0) c=>Lq n k c (a h).1 (a h).2.1 (a h).2.2);have p:=gb (λ(h:kB n k=0) c=>nK (mm n k) (aeZ (a h).1 (a h).2.1 (a h).2.2) (EG (a h).1 (a h).2.1 (a h).2.2) c);have H:=gd (kB n k=0->A=Lib.itoa (mm n k)) (λh=>by rw[<-j.out,gl h,gl h]);have I:=gd (kB n k≠0->A=iJ (kB n k)) (λh=>by rw[<-j.out,gh h]);clear j a;obtain⟨z,O,rfl,o⟩:=D.nums (n:=2) rfl Oc;have t:=gd (∀b,gm w b->b.cell? ⟨z,0,none⟩=some (.int .i64 n)) (λb r=>o.out b r 0 Oc);have v:=gd (∀b,gm w b->b.cell? ⟨z,1,none⟩=some (.int .i64 k)) (λb r=>o.out b r 1 Oc);clear D o;have c0:=t.out w (f0 _ _);have c1:=v.out w (f0 _ _);generalize kB n k=E at*;generalize mm n k=X at*;have T:((gJ [98,101,97,100,115]).toList==[102,105,101,108,100])=false:=Ol;have U:((gJ [98,101,97,100,115]).toList==[116,105,109,101,115])=false:=Ol;have V:((gJ [98,101,97,100,115]).toList==[114,111,119])=false:=Ol;have W:((gJ [98,101,97,100,115]).toList==[108,101,97,115,116])=false:=Ol;have Y:((gJ [98,101,97,100,115]).toList==[99,121,99,108,101,115])=false:=Ol;have Z:((gJ [98,101,97,100,115]).toList==[111,114,100,101,114])=false:=Ol;generalize gJ [98,101,97,100,115]=aa at*;go_enter func19,ntmps19;go_wp2_with fail;go_still_tail 6,Ob;go_wp2_with fail;refine(x.out _).mono ?_;rintro e d ⟨rfl,F⟩;have C:gm w d:=by rw[<-F];exact(f0 _ _).drew
 have g:=gb C;clear c0 c1 C F x;by_cases f:E=0
 ·subst f;have P:=t.out d g.out;have Q:=v.out d g.out;have s:=gb (λc=>l.out rfl c);have y:=gb (λc=>p.out rfl c);have bo:=gb (i.out (Lib.itoa X) 0 d.drew (g.out.drew) Oc (H.out Oa));clear l p i;go_wp2_with fail;go_still_tail 6,Ob;go_wp2_with fail;refine(s.out _).mono ?_;rintro e w3 ⟨rfl,K⟩;subst K;have J:=gb (y.out d.drew);clear y s;go_wp2_with fail;refine J.out.mono ?_;exact PQ
 ·have S:(E !=0)=true:=iT.2 f;have bo:=gb (i.out [] E d g.out q ((I.out f).trans (gh f).symm));clear l p i q;exact Ot
theorem Xu(l:gA)(I x J:Value)(B U:Nat)(w:World)(t:OL B U w x ([l].map gr))(b:l.length<=10001):
 Calls prog 19 #[.string (gJ [99,121,99,108,101,115]),I,x,J] w (oE (if jV (gr l)=0 then(if jV (gr l)=0 then YS (fL (gr l)) (gr l).length else[])else iJ (jV (gr l))) w):=by
 refine oE.in λA L f c=> ?_;have q:=A4 (gr l);have H:(gr l).length=l.length:=Uy;obtain⟨F,N,rfl,p⟩:=t.lists (n:=1) rfl Oc;obtain⟨u0,v⟩:=p.out 0 Oc;have d:=gd (∀i,gm w i->i.cell? ⟨F,0,none⟩=some u0/\OI B i u0 (gr l)) v;clear t p v;have C:=(d.out w (f0 _ _)).1;have o:=gb (uN u0 (gr l) w ((d.out w (f0 _ _)).2.sl Oa));have g:=gb (λ(h:jV (gr l)=0) j (G:gm w j)=>I0O u0 (gr l) _ _ j ((d.out j G).2.sl Oa) (IQ h));have y:=gd (jV (gr l)=0->A=YS (fL (gr l)) (gr l).length) (λh=>by rw[<-f.out,gl h,gl h]);have z:=gd (jV (gr l)≠0->A=iJ (jV (gr l))) (λh=>by rw[<-f.out,gh h]);clear f H;generalize jV (gr l)=E at*;generalize YS (fL (gr l)) (gr l).length=X at*;generalize gr l=M at*;have Q:((gJ [99,121,99,108,101,115]).toList==[102,105,101,108,100])=false:=Ol;have R:((gJ [99,121,99,108,101,115]).toList==[116,105,109,101,115])=false:=Ol;have S:((gJ [99,121,99,108,101,115]).toList==[114,111,119])=false:=Ol;have T:((gJ [99,121,99,108,101,115]).toList==[108,101,97,115,116])=false:=Ol;have V:((gJ [99,121,99,108,101,115]).toList==[99,121,99,108,101,115])=true:=Ol;generalize gJ [99,121,99,108,101,115]=W at*;go_enter func19,ntmps19;go_wp2_with fail;refine o.out.mono ?_;rintro D e ⟨rfl,m,bF⟩;have s:gm w e:=D4;have a:=gb s;clear C s bF o;by_cases b:E=0
 ·subst b;have O:=(d.out e a.out).1;have k:=gb (g.out rfl e a.out);clear g;go_wp2_with fail;refine k.out.mono ?_;rintro D K ⟨rfl,r⟩;have bo:=gb (c.out X 0 K (a.out.trans (r.mono a.out.size)) Oc (y.out (by grind)));clear c r k;exact Ot
 ·have P:(E !=0)=true:=iT.2 b;have bo:=gb (c.out [] E e a.out q ((z.out b).trans (gh b).symm));clear g c q;exact Ot
theorem ajw(p n:Nat)(t s:gA)(U T rv:Value)(B ac:Nat)(w:World)(O:OI B w U (gr [p,n]))(N:OL B ac w T ([t,s].map gr))(i:t.length<=10001)(h1:s.length<=10001):
 Calls prog 19 #[.string (gJ [114,111,119]),U,T,rv] w (oE (if sF p t s n=0 then ji (N7 p t s n)else iJ (sF p t s n)) w):=by
 refine oE.in λA ak j g=> ?_;have K:=I9 p (gr t) (gr s);have ah:(gr t).length=t.length:=Uy;have ag:(gr s).length=s.length:=Uy
 have W:=gd (m6 p (gr t) (gr s)≠0->A=iJ (m6 p (gr t) (gr s))) (λh=>by
  have:sF p t s n=m6 p (gr t) (gr s):=gl h
  rw[<-j.out,this,gh h])
 have X:=gd (m6 p (gr t) (gr s)=0->5000<n->A=iJ 1) (λh z=>by
  have:sF p t s n=1:=(by unfold sF;omega);rw[<-j.out,this]
  rfl)
 have Y:=gd (m6 p (gr t) (gr s)=0->¬5000<n->A=ji (kE p (gr t) (gr s) n)) (λh z=>by
  have:sF p t s n=0:=(by unfold sF;omega);rw[<-j.out,this]
  rfl)
 clear j;obtain⟨I,am,rfl,y⟩:=O.nums (n:=2) rfl Oc;have F:=gd (∀a,gm w a->a.cell? ⟨I,0,none⟩=some (.int .i64 p)) (λa d=>y.out a d 0 Oc);have aa:=gd (∀a,gm w a->a.cell? ⟨I,1,none⟩=some (.int .i64 n)) (λa d=>y.out a d 1 Oc);clear O y;obtain⟨J,cl,rfl,x⟩:=N.lists (n:=2) rfl Oc;obtain⟨u0,P⟩:=x.out 0 Oc;have o:=gd (∀a,gm w a->a.cell? ⟨J,0,none⟩=some u0/\OI B a u0 (gr t)) P;obtain⟨u1,Q⟩:=x.out 1 Oc;have q:=gd (∀a,gm w a->a.cell? ⟨J,1,none⟩=some u1/\OI B a u1 (gr s)) Q;clear N x P Q;have c0:=F.out w (f0 _ _);have ae:=(o.out w (f0 _ _)).1;have af:=(q.out w (f0 _ _)).1;have G:=gb (λ(b:World)(d:gm w b)=>FP p u0 u1 (gr t) (gr s) b ((o.out b d).2.sl Oa) ((q.out b d).2.sl Oa));have k:=gb (λ(h:m6 p (gr t) (gr s)=0)(z:¬5000<n)(b:World)(d:gm w b)=>adt p u0 u1 (gr t) (gr s) n b ((o.out b d).2.sl Oa) ((q.out b d).2.sl Oa) (wL h) Oa)
 have l:=gb (λ(v:Value)(B:Nat)(b:World)(h:m6 p (gr t) (gr s)=0)(z:¬5000<n)(C:OI B b v (kE p (gr t) (gr s) n))=>lW v _ b (C.sl SB) (λaj hx=>by
  have R:=wL h;have p2:=R.p2;have p7:=R.p7;have:=wK (p:=(p:Int)) (taps:=gr t) (seed:=gr s) Oa R.fs n aj hx
  omega) SB)
 clear ah ag;generalize m6 p (gr t) (gr s)=E at*;generalize kE p (gr t) (gr s) n=ad at*;generalize gr t=al at*;generalize gr s=L2 at*;have q0:((gJ [114,111,119]).toList==[102,105,101,108,100])=false:=Ol;have q1:((gJ [114,111,119]).toList==[116,105,109,101,115])=false:=Ol;have q2:((gJ [114,111,119]).toList==[114,111,119])=true:=Ol;generalize ai:gJ [114,111,119]=sq at*;clear ai;go_enter func19,ntmps19;go_wp2_with fail;go_still_tail 9,Ob;go_wp2_with fail;refine(G.out _ ((f0 _ _).drew)).mono ?_;rintro e f ⟨rfl,m,bF⟩;have M:gm w f:=DI;have c:=gb M;clear c0 ae af M bF G;have d0:=F.out f c.out;have d1:=aa.out f c.out;have an:=(o.out f c.out).1;have ao:=(q.out f c.out).1;by_cases i:E=0
 ·subst i;by_cases r:5000<n
  ·have hd:decide ((5000:Int)<n)=true:=gy Oa;have ap:((1:Int) !=0)=true:=rfl;have bo:=gb (g.out [] 1 f c.out Oc (X.out Oa r));clear k l g;exact Ot
  ·have hd:decide ((5000:Int)<n)=false:=gp Oa;have D:=gb (k.out rfl r);have H:=gb (λv B b C=>l.out v B b rfl r C);have Z:=gb (Y.out Oa r);clear k l;go_wp2_with fail;go_still_tail 12,Ob;go_wp2_with fail;refine(D.out _ (c.out.drew)).mono ?_;rintro e V ⟨⟨v,rfl,S⟩,L⟩;have ab:=gb (H.out v _ V S);have bo:=gb (g.out (ji ad) 0 V ((c.out.drew).trans (L.mono c.out.size)) Oc Z.out);clear H g L S D;go_wp2_with fail;refine ab.out.mono ?_;exact PQ
 ·have hz:(E !=0)=true:=iT.2 i;have aq:(E==0)=false:=gL.2 i;have bo:=gb (g.out [] E f c.out K ((W.out i).trans (gh i).symm));clear k l g K;exact Ot
theorem acd(n:Nat)(r:kl)(T lv c:Value)(B:Nat)(w:World)(P:OI B w T (gr [n]))(hr:RL w c (r.map gr))(b:r.length<=10001):
 Calls prog 19 #[.string (gJ [111,114,100,101,114]),T,lv,c] w (oE (if lF n (r.map gr)=0 then Lib.itoa (NT n r)else iJ (lF n (r.map gr))) w):=by
 refine oE.in λA ae l f=> ?_;have J:=Ao n (r.map gr);have g:lF n (r.map gr)=0->1<=n/\n<=7:=λh=>by have:=Nj h;omega
 have D:=gb (Nd n c (r.map gr) w hr);have q:=gb (λ(h:lF n (r.map gr)=0)(d:World)(t:gm w d)=>NM n c (r.map gr) d (hr.below t) (g h).1 (g h).2 (ajf h) (by grind));have p:=gb (λ(h:lF n (r.map gr)=0)(v:Value)(d:World)(i:Rd d v ((xJ n (qd n (r.map gr))).map Value.bool))=>Xo n v _ d i (g h).2 (IA _ _));have Q:(vr n (xJ n (qd n (r.map gr))) (lL n)).length=(GL n (qd n (r.map gr))).length:=by rw[aj1,gv]
 have s:lF n (r.map gr)=0->(GL n (qd n (r.map gr))).length<=5040:=λh=>by
  grind [GL,aja]
 have N:lF n (r.map gr)=0->(xJ n (qd n (r.map gr))).length<=5040:=λh=>by grind [IA,aja]
 have z:=gd (lF n (r.map gr)=0->A=Lib.itoa ((GL n (qd n (r.map gr))).length:Nat)) (λh=>by
  have:NT n r=((GL n (qd n (r.map gr))).length:Nat):=gl h
  rw[<-l.out,gl h,this])
 have V:=gd (lF n (r.map gr)≠0->A=iJ (lF n (r.map gr))) (λh=>by rw[<-l.out,gh h]);clear l g;rw[<-Q]at s z;clear Q;obtain⟨ac,aa,rfl,I⟩:=P.nums (n:=1) rfl Oc;have o:=gd (∀j,gm w j->j.cell? ⟨ac,0,none⟩=some (.int .i64 n)) (λj t=>I.out j t 0 Oc);clear P I;have c0:=o.out w (f0 _ _);obtain⟨ra,rc,rN,ad⟩:∃O aa ab,c= .slice O ab aa:=UW;subst ad;clear hr;generalize vr n (xJ n (qd n (r.map gr))) (lL n)=S at*;generalize xJ n (qd n (r.map gr))=af at*;generalize lF n (r.map gr)=E at*;have q0:((gJ [111,114,100,101,114]).toList==[102,105,101,108,100])=false:=Ol;have q1:((gJ [111,114,100,101,114]).toList==[116,105,109,101,115])=false:=Ol;have q2:((gJ [111,114,100,101,114]).toList==[114,111,119])=false:=Ol;have q3:((gJ [111,114,100,101,114]).toList==[108,101,97,115,116])=false:=Ol;have q4:((gJ [111,114,100,101,114]).toList==[99,121,99,108,101,115])=false:=Ol;have q5:((gJ [111,114,100,101,114]).toList==[111,114,100,101,114])=true:=Ol;generalize gJ [111,114,100,101,114]=ag at*;go_enter func19,ntmps19;go_wp2_with fail;refine D.out.mono ?_;rintro e k ⟨rfl,m,bF⟩;have M:gm w k:=D4;have a:=gb M;clear c0 M bF D;by_cases b:E=0
 ·subst b;have d0:=o.out k a.out;have H:=gb (q.out rfl k a.out);have F:=gb (p.out rfl);have Y:=gb (s rfl);have Z:=gb (N rfl);have W:=gb (z.out Oa);clear q p s N;go_wp2_with fail;refine H.out.mono ?_;rintro e y ⟨⟨v,rfl,i⟩,K⟩;have x:gm w y:=a.out.trans (K.mono a.out.size);have G:=gb (F.out v y (i.rd (by rw[gv];have:=Z.out;omega)));have C:=gb x;have e0:=o.out y x;clear i K x H F d0;go_wp2_with fail;refine G.out.mono ?_;rintro e U ⟨⟨u,rfl,R⟩,L⟩;obtain⟨ua,uc,rfl⟩:=R.len;have X:=gb (oY S.length (by unfold ja;have:=Y.out;omega) U);have bo:=gb (f.out (Lib.itoa (S.length:Nat)) 0 U (C.out.trans (L.mono C.out.size)) Oc W.out);clear R L G e0 f;go_wp2_with fail;refine X.out.mono ?_;exact PQ
 ·have hz:(E !=0)=true:=iT.2 b;have bo:=gb (f.out [] E k a.out J ((V.out b).trans (gh b).symm));clear q p f J;exact Ot
end Go.Proofs.YtnnaadmegeeinaaGreatDoor
