/-
  Part 9 of a proof: what it proves stands in the last text.
-/
import Derived.Test.YtnnaadmegeeinaaGreatDoorYh
import Derived.Laws.CopyOwn
set_option linter.all false
set_option maxHeartbeats 8000000
set_option maxRecDepth 100000
namespace Go.Proofs.YtnnaadmegeeinaaGreatDoor
open Tryz Go.Proofs.Tryz
open Go.RowKit
def iP:=@List.length_cons
def jC:=@Int.tmod_eq_emod_of_nonneg
def ko:=@List.nil_append
def sI:=@Int.tmod_lt_of_pos
def wV:=@List.drop_eq_nil_of_le
def F7:=@Addr.add_mid
def alZ:=@Int.lt_tmod_of_pos
theorem O3{p:Prop}(h:p:=by
 go_wp2;go_roundw
 case rel=>exact⟨H+1,by go_num,by omega,HX.out.1,HX.out.2.1,HX.out.2.2⟩
 case measure=>exact gQ):p:=h
theorem Ma{p:Prop}(h:p:=by
 go_enter func151,ntmps151;go_wp2_with fail;refine(HP.out 0).mono ?_;rintro e Z ⟨rfl,ai,rfl⟩
 exact MG):p:=h
theorem Mr{p:Prop}(h:p:=by
 go_wp2;go_region;go_wp2;go_roundw
 case rel=>exact⟨j+1,by go_num,by omega,HY.out.1,HY.out.2.1.drew,HY.out.2.2.drew⟩
 case measure=>exact gQ):p:=h
theorem MF{p:Prop}(h:p:=by
 go_wp2_with fail;refine dj.out.mono ?_;rintro e Z ⟨rfl,av⟩;have HB:=gb (HQ.out.trans (av.mono HQ.out.size));clear av;go_wp2;go_ret
 exact⟨by rw[eJ.out];rfl,HB.out⟩):p:=h
theorem MS{p:Prop}(h:p:=by rw[hN.out];exact h3):p:=h
theorem M8{p:Prop}(h:p:=by
 go_enter func192,ntmps192
 exact QW):p:=h
theorem St{p:Prop}(h:p:=by
 go_enter func65,ntmps65;go_wp2;go_ret
 exact⟨by rw[HE.out];rfl,0,rfl⟩):p:=h
theorem S5{p:Prop}(h:p:=by
 go_roundw
 case rel=>exact⟨j+1,by go_num,by omega,HY.out.1,HY.out.2.1,HY.out.2.2⟩
 case measure=>exact gQ):p:=h
theorem Ub{p:Prop}(h:p:=by rw[HK.out.l1];omega):p:=h
theorem Ut{p:Prop}(h:p:=by rw[<-hN.out];exact az):p:=h
theorem UA{p:Prop}(h:p:=by
 go_wp2;go_ret3
 exact⟨zN.mk rfl (by rw[HE.out];exact OI.nil _ _) HK.out.bm,HX.out.2⟩):p:=h
theorem UI{p:Prop}(h:p:=by rw[gv,k7];omega):p:=h
theorem UM{p:Prop}(h:p:=by
 go_wp2;go_ret
 exact⟨by rw[HZ.out];rfl,ai,rfl⟩):p:=h
theorem DQ{p:Prop}(h:p:=by simp[Value.ownBlock]):p:=h
theorem Pu{p:Prop}(h:p:=by
 rintro e w0 ⟨rfl,rfl⟩;go_wp2;go_ret3
 exact Mq):p:=h
theorem Qa{p:Prop}(h:p:=by
 unfold WS uC
 exact Oa):p:=h
theorem Qm{p:Prop}(h:p:=by
 rcases eI.out with h|h
 ·exact Oa
 ·exact h):p:=h
theorem Rh{p:Prop}(h:p:=by
 go_enter func37,ntmps37;go_wp2_with fail;refine(dw.out _).mono ?_
 exact Pu):p:=h
theorem Ri{p:Prop}(h:p:=by
 go_enter func62,ntmps62;go_wp2_with fail;refine dw.out.mono ?_
 exact Pu):p:=h
def aeR(p:Int)(R n:Nat)(M:Nat->Nat->Int)(U:Nat)(e:Ending)(w':World):Prop:=∃(t:Int)(b:Value)(a:gP),e= .returned (.tuple #[.int .i64 t,b])/\S4 p R n M t a/\OI U w' b a
theorem Vi{x y p:Int}(b:0<=x/\x<p)(a:0<=y/\y<p)(c:p<=7):0<=x*y/\x*y<=36:=by
 refine⟨lG b.1 a.1,?_⟩;have:=YZ (show x<=6 by omega) (show y<=6 by omega) a.1 Oc;exact Oa
theorem RF(P R n B:Nat)(v:Value)(M:Nat->Nat->Int)(w:World)(hm:mz B w.heap.size w v R n M)(hp:j8 (P:Int)=true)(hR:R<=60)(hn:n<=60)(am:∀H,H<R->∀j,j<=n->0<=M H j/\M H j<(P:Int))(hB:B<=w.heap.size):
 Calls prog 150 #[v,.int .i64 n,.int .i64 P] w λE w'=>aeR P R n M w.heap.size E w'/\Below B w w':=by
 have bq:=kC hp;have bz:P<=7:=Oa;have bx:2<=P:=Oa;have a5:=gb hp;have aK:=gb (oy.start am (λ_=>0));obtain⟨va,t,rfl⟩:∃a c,v= .slice a R c:=by
  obtain⟨q,z,L⟩:=hm;exact L.len
 have aN:=gb hm
 have au:=gd (0<R->∃go,va=some ⟨go,0,none⟩) (λA=>by
  obtain⟨q,z,L⟩:=hm;obtain⟨go,c,E⟩:=L.form A
  grind)
 clear hm am bq hp;go_enter func150,ntmps150;go_wp2_with fail;go_loopw [8,9,10,11,12,13,14,15,16] (λv8 v9 aI _ _ _ _ _ _ wr=>∃(c a:Nat)(E:Nat->Nat)(e:Nat->Nat->Int)(J:gP),c<=n/\v8= .int .i64 a/\aI= .int .i64 c/\Hid (J.length<=c)/\Hid (oy P R n M e c a E)/\OI w.heap.size wr v9 J/\mz B w.heap.size wr (.slice va R t) R n e/\Below B w wr) (λ_ _ aI _ _ _ _ _ _ _=>n-(intOf aI).toNat)
 case atStart=>exact⟨0,0,_,M,[],ge _,rfl,rfl,gb (fZ _),aK.out,OI.nil _ _,aN.out,f0 _ _⟩
 case round=>
  clear aK aN;obtain⟨c,a,E,e,J,bG,rfl,rfl,aM,Q,f,l,d⟩:=hrel;have bB:=Q.out.ac;have aO:=Q.out.aR;have HX:=ju f l d;clear f l d;by_cases a0:c<n
  ·have bm:(c:Int)<n:=(by omega);go_wp2_with fail;go_loopw [11] (λx i=>∃k:Nat,x= .int .i64 k/\a<=k/\k<=R/\Hid (∀H,a<=H->H<k->e H c=0)/\OI w.heap.size i u9 J/\mz B w.heap.size i (.slice va R t) R n e/\Below B w i) (λx _=>R-(intOf x).toNat)
   case atStart=>exact⟨a,rfl,fZ _,aO,gb (λH r N=>by omega),HX.out.1,HX.out.2.1,HX.out.2.2⟩
   case round=>
    clear HX;obtain⟨k,rfl,bc,bN,Z,f,l,d⟩:=hrel;by_cases ac:k<R
    ·obtain⟨go,rfl⟩:=au.out Oa;obtain⟨q,z,b⟩:=l;have W:=b.oc ac;have s:=b.ic ac (show c<=n by omega);have bj:(k:Int)<R:=Oa;have bH:c<n+1:=Oa;have aa:=gb b;have HX:=ju f (show mz B w.heap.size wr (.slice (some ⟨go,0,none⟩) R t) R n e from⟨q,z,b⟩) d;clear f b d;by_cases A:e k c=0
     ·have av:=gd (∀H,a<=H->H<k+1->e H c=0) (λH r N=>by
       by_cases E:H=k
       ·rw[E];exact A
       ·exact Z.out H r Oa)
      rw[A]at s;clear A;go_wp2;go_roundw
      case rel=>exact⟨k+1,by go_num,by omega,by omega,av.out,HX.out.1,HX.out.2.1,HX.out.2.2⟩
      case measure=>exact gQ
     ·have bs:(e k c==0)=false:=(by simp_all);have bO:((k:Int)==R)=false:=(by rw[gL];omega);have o:a<R:=Oa;have a2:=aa.out.oc o;have bd:=aa.out.ofz a;have aF:=aa.out.out.stored a (sG n q z k);have az:=aF.1.cell k (by rw[jY,qg];exact ac);rw[jx,IK ac,qg,show(if a=k then(if a<R then some (sG n q z k)else none)else some (Value.slice (some ⟨q k,0,none⟩) (n+1) (z k)))=some (Value.slice (some ⟨q k,0,none⟩) (n+1) (z k))by rw[gl o];exact ite_self _]at az;have aT:=aF.1.frozen k;have aj:=aa.out.swap o ac;have bf:=(aa.out.out.lt go rfl).1;have S:=HX.out.2.2.grown aj.2 (gt hB HX.out.2.2.size) (λk L=>by cases L;exact bf)
      have T:=HX.out.1.kept aj.2 (.inr (λE=>by
       have r:=(HX.out.1.lt go E).1;have N:=aa.out.vu go rfl
       exact Oa))
      have ay:=Q.out.swap bc ac;have ai:swM e a k a c=e k c:=(by unfold swM El;rw[gl rfl]);have aB:=ay.en a o c Oa;have ar:=aj.1;clear HX aF aj;unfold sG at ar az aT S T;have HY:=ju T ar S;clear T ar S;obtain⟨C,hA⟩:∃C:Nat,e k c=(C:Int):=⟨(e k c).toNat,(Bv Oa).symm⟩;have a9:C<P:=Oa;have a8:1<=C:=Oa;have ao:=gb ay;have HA:=gd (swM e a k a c=(C:Int)) Oa;clear ai aB ay A;rw[hA]at s bs;clear hA Z Q;generalize swM e a k=D at*;generalize ba:(wr.setCell ⟨go,a,none⟩ (Value.slice (some ⟨q k,0,none⟩) (n+1) (z k))).setCell ⟨go,k,none⟩ (Value.slice (some ⟨q a,0,none⟩) (n+1) (z a))=W1 at*;obtain⟨iv,bh,bK,aW,aX⟩:=Nr a5.out a8 a9;have aL:=gb aX;have ap:=gb aW;clear aW aX aa;generalize q k=gk at*;generalize z k=ck at*;go_wp2;go_region;clear ba az aT a2 W s bd;go_wp2_with fail;go_loopw [12] (λx i=>∃g:Nat,x= .int .i64 g/\1<=g/\g<=iv/\OI w.heap.size i u9 J/\mz B w.heap.size i (.slice (some ⟨go,0,none⟩) R t) R n D/\Below B w i) (λx _=>iv-(intOf x).toNat)
      case atStart=>exact⟨1,rfl,fZ _,bh,HY.out.1.drew,HY.out.2.1.drew,HY.out.2.2.drew⟩
      case round=>
       clear HY;obtain⟨g,rfl,bC,bD,f,⟨g1,aw,b⟩,d⟩:=hrel;have W:=b.oc o;have s:=b.ic o (show c<=n by omega);rw[HA.out]at s;have aP:(a:Int)<R:=Oa;have hm:(g:Int)*C=((C*g:Nat):Int):=(by rw[gI,Ga]);have an:C*g<=49:=gE (show C<=7 by omega) (show g<=7 by omega);have hr:((C*g:Nat):Int).tmod (P:Int)=((C*g%P:Nat):Int):=(gO _ _).symm;have bA:(P:Int)≠0:=Oa;have HX:=ju f (show mz B w.heap.size wr (.slice (some ⟨go,0,none⟩) R t) R n D from⟨g1,aw,b⟩) d;clear f b d;by_cases he:g=iv
       ·subst he;rw[ap.out,show((1:Nat):Int)=1 from rfl]at hr;generalize g1 a=ga at*;generalize aw a=ca at*
        have aq:=gd ((P:Int)∣D a c*(g:Int)-1) (by
         rw[HA.out];have e2:=jN (C*g) P;rw[ap.out]at e2;refine⟨((C*g/P:Nat):Int),?_⟩
         exact Oa)
        generalize C*g=m at*;clear ap aL;go_wp2_with fail;go_loopw [13] (λx i=>∃j:Nat,x= .int .i64 j/\j<=n+1/\OI w.heap.size i u9 J/\mz B w.heap.size i (.slice (some ⟨go,0,none⟩) R t) R n (Be P D a g j)/\Below B w i) (λx _=>n+1-(intOf x).toNat)
        case atStart=>exact⟨0,rfl,ge _,HX.out.1,HX.out.2.1.congr (λx _ y _=>by unfold Be;omega),HX.out.2.2⟩
        case round=>
         clear HX;obtain⟨j,rfl,bi,f,⟨g2,ax,b⟩,d⟩:=hrel;by_cases V:j<=n
         ·have ah:(j:Int)<=n:=(by omega);have W:=b.oc o;have s:=b.ic o V;have be:=b.fz o j;have aQ:Be P D a g j a j=D a j:=(by unfold Be;omega);rw[aQ]at s;have am:=ao.out.en a o j V;have an:=Vi am (show 0<=(g:Int)/\(g:Int)<P by omega) (show(P:Int)<=7 by omega);have U:=b.put o j ((D a j*(g:Int))%P);have ae:=U.1.congr (M':=Be P D a g (j+1)) (λx _ y _=>adw x y);have S:=d.grown U.2 (gt hB d.size) (λk L=>by cases L;exact(b.gB o).1)
          have T:=f.kept U.2 (.inr (λE=>by
           have r:=(f.lt (g2 a) E).1;have N:=b.gu a o
           exact Oa))
          have br:(D a j*(g:Int)).tmod (P:Int)=(D a j*(g:Int))%P:=jC an.1;have HY:=ju T (show mz B w.heap.size _ (.slice (some ⟨go,0,none⟩) R t) R n (Be P D a g (j+1))from⟨g2,ax,ae⟩) S;clear f b d U ae S T aQ;generalize D a j=y at*;generalize bn:y*(g:Int)=K at*;generalize bp:K%(P:Int)=r2 at*;generalize bb:wr.setCell ⟨g2 a,j,none⟩ (.int .i64 r2)=W2 at*;generalize g2 a=a7 at*;generalize ax a=a6 at*;exact Mr
         ·obtain rfl:j=n+1:=(by omega);have ah:¬((n+1:Nat):Int)<=n:=Oa;have X:=gb (ao.out.scale Oa o aq.out)
          have H1:=gd (Be P D a g (n+1) a c=1) (by
           have r:=aq.out;unfold Be;rw[gl ⟨rfl,by omega⟩];have h5:(D a c*(g:Int))%P=1%P:=ou.2 (vy r)
           rw[h5,F9 Oa Oa])
          have HX:=ju f (show mz B w.heap.size wr (.slice (some ⟨go,0,none⟩) R t) R n (Be P D a g (n+1))from⟨g2,ax,b⟩) d;clear f b d HA ao aq;generalize Be P D a g (n+1)=h at*;go_wp2_with fail;go_loopw [14,15,16] (λx _ _ i=>∃H:Nat,x= .int .i64 H/\H<=R/\OI w.heap.size i u9 J/\mz B w.heap.size i (.slice (some ⟨go,0,none⟩) R t) R n (uC P h a c H)/\Below B w i) (λx _ _ _=>R-(intOf x).toNat)
          case atStart=>exact⟨0,rfl,ge _,HX.out.1,HX.out.2.1.congr (λx _ y _=>(aaR x y).symm),HX.out.2.2⟩
          case round=>
           clear HX;obtain⟨H,rfl,bg,f,l,d⟩:=hrel;by_cases F:H<R
           ·have aE:(H:Int)<R:=(by omega);by_cases aU:H=a
            ·subst aU;have HX:=ju f (l.congr (M':=uC P h H c (H+1)) (λx _ y G=>Hk (λy G=>X.out.en H o y G) (.inl rfl) x y G)) d;clear f l d;exact O3
            ·have bo:((H:Int) !=a)=true:=(by rw[iT];omega);obtain⟨g3,ak,b⟩:=l;have W:=b.oc F;have s:=b.ic F (show c<=n by omega);have aA:uC P h a c H H c=h H c:=gh Oa;rw[aA]at s;by_cases A:h H c=0
             ·rw[A]at s;have HX:=ju f ((show mz B w.heap.size wr (.slice (some ⟨go,0,none⟩) R t) R n (uC P h a c H)from⟨g3,ak,b⟩).congr (M':=uC P h a c (H+1)) (λx _ y G=>Hk (λy G=>X.out.en H F y G) (.inr A) x y G)) d;clear f b d aA A;generalize g3 H=gi at*;generalize ak H=ci at*;exact O3
             ·have ai:(h H c !=0)=true:=(by simp_all);have aS:=X.out.en H F c Oa;have HX:=ju f (show mz B w.heap.size wr (.slice (some ⟨go,0,none⟩) R t) R n (uC P h a c H)from⟨g3,ak,b⟩) d;clear f b d aA A;generalize g3 H=gi at*;generalize ak H=ci at*;obtain⟨I,hf⟩:∃I,h H c=I:=⟨_,rfl⟩;rw[hf]at s ai aS;have HF:=gb hf;clear hf;go_wp2_with fail;go_loopw [16] (λx i=>∃j:Nat,x= .int .i64 j/\j<=n+1/\OI w.heap.size i u9 J/\mz B w.heap.size i (.slice (some ⟨go,0,none⟩) R t) R n (WS P (uC P h a c H) a I H j)/\Below B w i) (λx _=>n+1-(intOf x).toNat)
              case atStart=>exact⟨0,rfl,ge _,HX.out.1,HX.out.2.1.congr (λx _ y _=>by unfold WS;omega),HX.out.2.2⟩
              case round=>
               clear HX s W ai;obtain⟨j,rfl,bi,f,⟨g4,al,b⟩,d⟩:=hrel;by_cases V:j<=n
               ·have ah:(j:Int)<=n:=(by omega);have W:=b.oc F;have a2:=b.oc o;have s:=b.ic F V;have aV:=b.ic o V;have be:=b.fz F j;have e1:WS P (uC P h a c H) a I H j H j=h H j:=Qa;have e2:WS P (uC P h a c H) a I H j a j=h a j:=Qa;have e3:uC P h a c H H j=h H j:=gh Oa;have e4:uC P h a c H a j=h a j:=gh Oa;rw[e1]at s;rw[e2]at aV;have aB:=X.out.en H F j V;have aR:=X.out.en a o j V;have an:=Vi aS aR (show(P:Int)<=7 by omega);have U:=b.put F j ((h H j-I*h a j)%P)
                have ae:=U.1.congr (M':=WS P (uC P h a c H) a I H (j+1)) (λx _ y _=>by
                 have:=aaQ (p:=(P:Int)) (M:=uC P h a c H) (a:=a) (i:=H) (u:=j) (f:=I) x y
                 exact OK)
                have S:=d.grown U.2 (gt hB d.size) (λk L=>by cases L;exact(b.gB F).1)
                have T:=f.kept U.2 (.inr (λE=>by
                 have r:=(f.lt (g4 H) E).1;have N:=b.gu H F
                 exact Oa))
                have HY:=ju T (show mz B w.heap.size _ (.slice (some ⟨go,0,none⟩) R t) R n (WS P (uC P h a c H) a I H (j+1))from⟨g4,al,ae⟩) S;clear f b d U ae S T e1 e2 e3 e4;obtain⟨y,G⟩:∃y,h H j=y:=⟨_,rfl⟩;obtain⟨aJ,hz⟩:∃aJ,h a j=aJ:=⟨_,rfl⟩;rw[G,hz]at HY;rw[G]at s aB;rw[hz]at aV aR an;clear G hz;generalize bn:I*aJ=K at*;have br:((y-K).tmod (P:Int)+(P:Int)).tmod (P:Int)=(y-K)%P:=by
                 have r:(y-K).tmod (P:Int)+P>0:=by
                  have:=alZ (y-K) (show(0:Int)<P by omega);exact Oa
                 rw[jC Oa];have N:(y-K).tmod (P:Int)=(y-K)-(P:Int)*(y-K).tdiv P:=Int.tmod_def _ _;exact OK
                have bR:=sI (y-K) (show(0:Int)<P by omega);have bS:=alZ (y-K) (show(0:Int)<P by omega);generalize bI:y-K=d2 at*;have bJ: -36<=d2/\d2<=7:=Oa;generalize bQ:d2.tmod (P:Int)=t2 at*;generalize bp:d2%(P:Int)=r2 at*;generalize bb:wr.setCell ⟨g4 H,j,none⟩ (.int .i64 r2)=W2 at*;generalize g4 H=bw at*;generalize al H=bv at*;generalize g4 a=a7 at*;generalize al a=a6 at*;exact Mr
               ·obtain rfl:j=n+1:=(by omega);have ah:¬((n+1:Nat):Int)<=n:=Oa;have HX:=ju f ((show mz B w.heap.size wr (.slice (some ⟨go,0,none⟩) R t) R n (WS P (uC P h a c H) a I H (n+1))from⟨g4,al,b⟩).congr (M':=uC P h a c (H+1)) (λx _ y G=>by rw[<-HF.out];exact afB aU x y G)) d;clear f b d;exact O3
           ·obtain rfl:H=R:=(by omega);have aE:¬(H:Int)<H:=Oa;have a3:=gb (X.out.elim Oa o a0 H1.out);have bP:=aM.out;have HX:=ju f l d;have aG:w.heap.size<=wr.heap.size:=d.size;clear f l d X H1;go_wp2_with (at_builtin;refine g8 wr _ _ 45 rfl rfl underlying45 info3 w.heap.size _ _ rfl HX.out.1 rfl Oa aG ?_;intro g7 c7 w4 ad ab aC aD);have af:=HX.out.2.1.kept ab (λk O=>(HX.out.1.lt k O).1);have ag:=HX.out.2.2.grown ab (gt hB HX.out.2.2.size) (λk O=>gt hB (HX.out.1.lt k O).1);have aZ:(J++[(c:Int)]).length<=c+1:=OK;have HY:=oB aZ ad af ag;clear ad ab aC aD af ag HX aZ;go_roundw
            case rel=>exact⟨c+1,a+1,_,_,J++[(c:Int)],by omega,by go_num,by go_num,HY.out.1,a3.out,HY.out.2.1,HY.out.2.2.1,HY.out.2.2.2⟩
            case measure=>exact gQ
       ·have bo:=aL.out g Oa;generalize C*g%P=bu at*;generalize C*g=m at*;have G:((bu:Int) !=1)=true:=(by rw[iT];omega);have bE:g<iv:=Oa;generalize g1 a=ga at*;generalize aw a=ca at*;go_wp2;go_roundw
        case rel=>exact⟨g+1,by go_num,by omega,by omega,HX.out.1,HX.out.2.1,HX.out.2.2⟩
        case measure=>exact gQ
    ·obtain rfl:k=R:=(by omega);have bj:¬(k:Int)<k:=Oa;have HS:=gb (Q.out.skip a0 (λH r N=>Z.out H r N));have a4:=gd (J.length<=c+1) (by have:=aM.out;omega);have HX:=ju f l d;clear f l d;go_wp2;go_roundw
     case rel=>exact⟨c+1,a,E,e,J,by omega,rfl,by go_num,a4.out,HS.out,HX.out.1,HX.out.2.1,HX.out.2.2⟩
     case measure=>exact gQ
  ·obtain rfl:c=n:=(by omega);have bm:¬(c:Int)<c:=Oa;go_wp2_with fail;go_loopw [17] (λx i=>∃H:Nat,x= .int .i64 H/\a<=H/\H<=R/\Hid (∀k,a<=k->k<H->e k c=0)/\mz B w.heap.size i (.slice va R t) R c e/\Below B w i) (λx _=>R-(intOf x).toNat)
   case atStart=>exact⟨a,rfl,fZ _,aO,gb (λk r N=>by omega),HX.out.2.1,HX.out.2.2⟩
   case round=>
    clear HX;obtain⟨H,rfl,aP,bg,Z,l,d⟩:=hrel;by_cases F:H<R
    ·obtain⟨go,rfl⟩:=au.out Oa;obtain⟨q,z,b⟩:=l;have W:=b.oc F;have s:=b.ic F (fZ c);have aE:(H:Int)<R:=Oa;have HX:=gR (show mz B w.heap.size wr (.slice (some ⟨go,0,none⟩) R t) R c e from⟨q,z,b⟩) d;clear b d;by_cases A:e H c=0
     ·have av:=gd (∀k,a<=k->k<H+1->e k c=0) (λk r N=>by
       by_cases E:k=H
       ·rw[E];exact A
       ·exact Z.out k r Oa)
      rw[A]at s;clear A;generalize q H=gi at*;generalize z H=ci at*;go_wp2;go_roundw
      case rel=>exact⟨H+1,by go_num,by omega,by omega,av.out,HX.out.1,HX.out.2⟩
      case measure=>exact gQ
     ·have ai:(e H c !=0)=true:=(by simp_all);have Y:=gb (Q.out.none aP F A);clear A;generalize q H=gi at*;generalize z H=ci at*;go_wp2;go_ret2;exact⟨⟨0,_,[],rfl,.inl ⟨rfl,rfl,Y.out⟩,OI.nil _ _⟩,HX.out.2⟩
    ·obtain rfl:H=R:=(by omega);have aE:¬(H:Int)<H:=Oa;have HX:=gR l d;clear l d;by_cases a1:a<c
     ·have bl:(a:Int)<c:=(by omega);have Y:=gb (Q.out.two Oa Z.out a1);go_wp2;go_ret2;exact⟨⟨2,_,[],rfl,.inr (.inl ⟨rfl,rfl,Y.out⟩),OI.nil _ _⟩,HX.out.2⟩
     ·have bl:¬(a:Int)<c:=by omega
      have Y:=gd (c<=H/\Li P H c M (λj=>e j c)) (by
       rcases Q.out.one a1 with L|⟨k,r,N,h3⟩
       ·exact L
       ·exact absurd (Z.out k r N) h3)
      have bF:=Y.out.1;go_wp2_with fail;go_loopw [18,19] (λbt x i=>∃j:Nat,x= .int .i64 j/\j<=c/\OI w.heap.size i bt ((List.range j).map λk=>e k c)/\mz B w.heap.size i (.slice va H t) H c e/\Below B w i) (λ_ x _=>c-(intOf x).toNat)
      case atStart=>exact⟨0,rfl,ge _,OI.nil _ _,HX.out.1,HX.out.2⟩
      case round=>
       clear HX;obtain⟨j,rfl,bM,f,l,d⟩:=hrel;by_cases V:j<c
       ·obtain⟨go,rfl⟩:=au.out Oa;obtain⟨q,z,b⟩:=l;have ah:(j:Int)<c:=Oa;have aY:j<H:=Oa;have W:=b.oc aY;have s:=b.ic aY (fZ c);have HX:=ju f (show mz B w.heap.size wr (.slice (some ⟨go,0,none⟩) H t) H c e from⟨q,z,b⟩) d;have HE:=gd ((List.range (j+1)).map (λk=>e k c)=(List.range j).map (λk=>e k c)++[e j c]) (by rw[jc,jf];rfl);have aG:w.heap.size<=wr.heap.size:=d.size;have bk:((List.range j).map λk=>e k c).length<=1000000000000:=UI;clear f b d;generalize e j c=x at*;generalize q j=gj at*;generalize z j=cj at*;go_wp2_with (at_builtin;refine g8 wr _ _ 45 rfl rfl underlying45 info3 w.heap.size _ _ rfl HX.out.1 rfl bk aG ?_;intro g7 c7 w4 ad ab aC aD);have af:=HX.out.2.1.kept ab (λk O=>(HX.out.1.lt k O).1);have ag:=HX.out.2.2.grown ab (gt hB HX.out.2.2.size) (λk O=>gt hB (HX.out.1.lt k O).1);rw[gv,k7]at ad;have HY:=ju (ad.cast HE.out.symm) af ag;clear ad ab aC aD af ag HX;exact S5
       ·obtain rfl:j=c:=(by omega);have ah:¬(j:Int)<j:=Oa
        have HR:=gd (S4 P H j M 1 ((List.range j).map λk=>e k j)) (by
         refine .inr (.inr ⟨rfl,Y.out.1,by simp,λx hx=> ?_,λk O=> ?_⟩)
         ·obtain⟨k,O,rfl⟩:=gK.1 hx;have:=gC.1 O;exact Q.out.en k Oa j (fZ _)
         ·have r:=Y.out.2 k O;unfold o7 at r⊢;rw[qj (g:=λaH=>M k aH*e aH j) j (λaH hq=>by simp_all)]
          exact r)
        have HX:=gR f d;clear f l d;go_wp2;go_ret2;exact⟨⟨1,_,_,rfl,HR.out,HX.out.1⟩,HX.out.2⟩
def zN(p:Int)(s:Nat->Int)(N W:Nat)(e:Ending)(w':World):Prop:=∃(a:Value)(C B:Nat->Int)(L g:Nat)(b:Int),e= .returned (.tuple #[.int .i64 L,a,.int .i64 0])/\OI W w' a (NB p C L N)/\BM p s N C B L g b
theorem zN.mk{p:Int}{s:Nat->Int}{N W:Nat}{w':World}{u:Value}{C B:Nat->Int}{L g:Nat}{b:Int}{x:Int}(d:x=(L:Int))(a:OI W w' u (NB p C L N))(c:BM p s N C B L g b):zN p s N W (.returned (.tuple #[.int .i64 x,u,.int .i64 0])) w':=⟨u,C,B,L,g,b,by rw[d],a,c⟩
theorem Wi(P:Nat)(v:Value)(seen:gP)(w:World)(hv:Sl w v seen)(hp:j8 (P:Int)=true)(az:seen.length<=60)(E:nD (P:Int) seen=true)(aQ:∀x∈seen,ja x):
 Calls prog 37 #[.int .i64 P,v] w λo w'=>zN P (gD seen) seen.length w.heap.size o w'/\gm w w':=by
 have bB:=kC hp;have bS:P<=7:=Oa;have bR:2<=P:=Oa;have am:=gb (λb=>vh P b);have ak:=gb (λb (hb:gm w b)=>zi P v seen b (hv.below hb) aQ);rw[hp]at am;rw[E]at ak;have al:=gb (ahH (l:=seen) (p:=(P:Int)) Oa (zj E));have a5:=gb hp;obtain⟨sv,sc,N,rfl,hN,cf,bu⟩:=hv.open;have HN:=gb hN.out;have bQ:N<=60:=Ut
 have eI:=gd (N=0\/∃C F,sv=some ⟨C,F,none⟩/\C<w.heap.size/\∀i,i<N->w.cell? ⟨C,F+i,none⟩=some (.int .i64 (gD seen i))) (by
  grind [gD])
 rw[HN.out];obtain⟨s,U⟩:∃s,gD seen=s:=⟨_,rfl⟩;rw[U]at al eI⊢;clear bu hv E aQ az hN U bB hp;obtain⟨mk,aU⟩:=alo (P:=prog) 45 3 (.int .i64 0) 8 underlying45 info3 rfl Oc (N+2) Oa;have aV:∀w,(Instr.makeSlice 45 (.int .i64 ((N:Int)+2)) (.int .i64 ((N:Int)+2))).run prog w= .ok (.slice (some ⟨w.heap.size,0,none⟩) (N+2) (N+2)) (mk w):=λw=>by
  grind
 have Y:=gb (λw=>(aU w).2);clear aU;go_enter func37,ntmps37;go_wp2_with fail;refine(am.out _).mono ?_;rintro o w0 ⟨rfl,rfl⟩;go_wp2_with fail;refine(ak.out _ (f0 _ _)).mono ?_;rintro o b ⟨rfl,aI⟩;have W:=gb aI;clear aI am ak;go_wp2_with fail
 have G:=gd (OI w.heap.size (mk (mk b.drew)) (.slice (some ⟨b.heap.size,0,none⟩) (N+2) (N+2)) (List.replicate (N+2) 0)/\OI w.heap.size (mk (mk b.drew)) (.slice (some ⟨(mk b.drew).heap.size,0,none⟩) (N+2) (N+2)) (List.replicate (N+2) 0)/\b.heap.size≠(mk b.drew).heap.size/\Below w.heap.size w (mk (mk b.drew))) (by
  obtain⟨bM,a7,a8⟩:=Y.out b.drew;obtain⟨b1,b2,b3⟩:=Y.out (mk b.drew);have U:=W.out.size;have o1:OI b.heap.size (mk b.drew) (.slice (some ⟨b.heap.size,0,none⟩) (N+2) (N+2)) (List.replicate (N+2) 0):=by
   unfold OI;simp_all
  have o2:OI (mk b.drew).heap.size (mk (mk b.drew)) (.slice (some ⟨(mk b.drew).heap.size,0,none⟩) (N+2) (N+2)) (List.replicate (N+2) 0):=by
   grind [OI,List.map_replicate]
  have bN:b.heap.size<(mk b.drew).heap.size:=a8;refine⟨(OI.kept o1 b2 (.inr DQ)).mono U,o2.mono Oa,by omega,?_⟩
  exact((W.out.drew).grown a7 U (λah h=>by cases h)).grown b2 Oa (λah h=>by cases h))
 go_region
 rotate_left
 generalize (mk b.drew).heap.size=H at*;generalize b.heap.size=I at*;generalize mk (mk b.drew)=W2 at*;have y:=oB G.out.2.1 G.out.1 (We G.out.2.2.1) G.out.2.2.2;clear G Y aV W
 rotate_left
 generalize (mk b.drew).heap.size=I at*;generalize b.heap.size=H at*;generalize mk (mk b.drew)=W2 at*;have y:=G;clear G Y aV W
 all_goals
  have af:=y.out.1.stored 0 1;have bf:=y.out.1.cell 0 On;have bk:=y.out.1.frozen 0;have ae:=y.out.2.1.kept af.2 (.inr (λo=>y.out.2.2.1 (gG o).symm));have ag:=ae.stored 0 1;have bg:=ae.cell 0 On;have bl:=ae.frozen 0;have bc:w.heap.size<=H:=(y.out.1.lt H rfl).1;have bd:w.heap.size<=I:=(y.out.2.1.lt I rfl).1;have ap:=y.out.2.2.2.grown af.2 y.out.2.2.2.size (λah h=>by grind);have aK:=ap.grown ag.2 ap.size (λah h=>by grind);have Z:=gd (OI w.heap.size ((W2.setCell ⟨H,0,none⟩ (.int .i64 1)).setCell ⟨I,0,none⟩ (.int .i64 1)) (.slice (some ⟨H,0,none⟩) (N+2) (N+2)) (yJ (N+2))/\OI w.heap.size ((W2.setCell ⟨H,0,none⟩ (.int .i64 1)).setCell ⟨I,0,none⟩ (.int .i64 1)) (.slice (some ⟨I,0,none⟩) (N+2) (N+2)) (yJ (N+2))/\Below w.heap.size w ((W2.setCell ⟨H,0,none⟩ (.int .i64 1)).setCell ⟨I,0,none⟩ (.int .i64 1))) ⟨af.1.kept ag.2 (.inr (λo=>y.out.2.2.1 (gG o))),ag.1,aK⟩;have cr:(0:Int)<N+2:=Oa;clear af ae ag ap aK y bc bd;go_wp2_with fail
 all_goals
  clear bf bk bg bl;go_loopw [8,9,10,11,12,13,14,15,16,17,18,48] (λv8 v9 bI bJ bK _ _ _ _ _ _ aw wr=>∃(n:Nat)(a c:gP)(L g B:Nat),n<=N/\bI= .int .i64 L/\bJ= .int .i64 g/\bK= .int .i64 B/\aw= .int .i64 n/\Hid (LK P (N+2) s n a c L g B)/\OI w.heap.size wr v8 a/\OI w.heap.size wr v9 c/\gm w wr) (λ_ _ _ _ _ _ _ _ _ _ _ aw _=>N-(intOf aw).toNat)
  case atStart=>exact⟨0,yJ (N+2),yJ (N+2),0,1,1,ge _,rfl,rfl,rfl,rfl,gb (LK.start s Oa Oa),Z.out.1,Z.out.2.1,Z.out.2.2⟩
  case round=>
   clear Z;obtain⟨n,a,c,L,g,B,hn,rfl,rfl,rfl,rfl,HK,d,k,e⟩:=hrel;obtain⟨q,J,e8,b0,b4⟩:=d.form Ub;rw[HK.out.l1]at e8;subst e8;obtain⟨Q,co,e9,b6,b7⟩:=k.form (by rw[HK.out.l2];omega);rw[HK.out.l2]at e9;subst e9;have bP:=HK.out.bm.ln;by_cases cg:n<N
   ·have bx:(n:Int)<N:=(by omega);obtain⟨C,F,rfl,be,aM⟩:∃C F,sv=some ⟨C,F,none⟩/\C<w.heap.size/\∀i,i<N->w.cell? ⟨C,F+i,none⟩=some (.int .i64 (s i)):=Qm;have aZ:=gb aM;obtain⟨D,E⟩:∃D:Nat->Int,(λi=>gD a i*s (n-i))=D:=⟨_,rfl⟩;have aA:=gd (sm D 0=0) rfl;have aC:=gd (∀i,sm D (i+1)=sm D i+gD a i*s (n-i)) (λi=>by rw[<-E];rfl);have aj:=gb (λj=>ahR (f:=D) j (λi _=>by rw[<-E];exact AV (HK.out.i1 i) (al.out (n-i)) Oa));have aB:=gd (sm D (L+1)=lq s (gD a) L n) (by rw[<-E];rfl);have HX:=ju d k e;clear E aM d k e;go_wp2_with fail;go_loopw [14,15] (λx V z=>∃i:Nat,x= .int .i64 (sm D i)/\V= .int .i64 i/\i<=L+1/\OI w.heap.size z (.slice (some ⟨q,0,none⟩) (N+2) J) a/\OI w.heap.size z (.slice (some ⟨Q,0,none⟩) (N+2) co) c/\gm w z) (λ_ V _=>L+1-(intOf V).toNat)
    case atStart=>exact⟨0,by rw[aA.out],rfl,ge _,HX.out.1,HX.out.2.1,HX.out.2.2⟩
    case round=>
     clear HX;obtain⟨i,rfl,rfl,bq,d,k,e⟩:=hrel;by_cases bv:i<=L
     ·have bw:(i:Int)<=L:=(by omega);have aq:=d.cell i Ub;have aL:=(e.cell (p:=⟨C,F+(n-i),none⟩) be).trans (aZ.out (n-i) Oa);have bC:(n:Int)-i=((n-i:Nat):Int):=Oa;have cj:n-i<N:=Oa;have ch:=AV (HK.out.i1 i) (al.out (n-i)) Oa;have ac:=aj.out i;have aO:=aC.out i;rw[show a.getD i 0=gD a i from rfl]at aq;have aq:wr.drew.cell? ⟨q,i,none⟩=_:=aq;have aL:wr.drew.cell? ⟨C,F+(n-i),none⟩=_:=aL;have HX:=ju d.drew k.drew e.drew;have a0:=gb aO;have bp:i<N+2:=Oa;clear d k e aO;generalize n-i=ni at*;generalize sm D i=bO at*;generalize gD a i=a6 at*;generalize s ni=aE at*;generalize hm:a6*aE=m at*;go_wp2;go_region;go_wp2;go_roundw
      case rel=>exact⟨i+1,by rw[a0.out],by go_num,by omega,HX.out.1,HX.out.2.1,HX.out.2.2⟩
      case measure=>exact gQ
     ·obtain rfl:i=L+1:=(by omega);have bw:¬((L+1:Nat):Int)<=L:=Oa;have ac:=aj.out (L+1);rw[aB.out]at ac⊢;obtain⟨f,hd⟩:∃f:Nat,lq s (gD a) L n%(P:Int)=f:=⟨(lq s (gD a) L n%(P:Int)).toNat,(Bv (m7 _ Oa)).symm⟩;have av:(lq s (gD a) L n).tmod (P:Int)=(f:Int):=(by rw[jC ac.1];exact hd);have bj:(f:Int)<P:=(by rw[<-hd];exact mO _ Oa);have aN:(P:Int)∣lq s (gD a) L n-(f:Int):=(by rw[<-hd];exact⟨lq s (gD a) L n/P,by rw[ahl];omega⟩);have X:=gb aN;have HX:=ju d k e;have bF:=e.size;have b5:=(d.lt q rfl).2;have b8:=(k.lt Q rfl).2;have bT:(P:Int)≠0:=Oa;clear hd aN d k e aA aC aj;obtain⟨ax,ao⟩:∃ax,lq s (gD a) L n=ax:=⟨_,rfl⟩;rw[ao]at ac av X aB⊢;have ai:=gb ao;clear ao;generalize aG:L+1=L1 at*;clear aG bq bv;have bZ:=HK.out.g2;by_cases bi:f=0
      ·subst bi;have O:=gb (HK.out.same (by rw[ai.out];have:=X.out;simp_all));rw[show((0:Nat):Int)=0 from rfl]at av;go_wp2;go_roundw
       case rel=>exact⟨n+1,a,c,L,g+1,B,by omega,rfl,by go_num,rfl,by go_num,gb O.out,HX.out.1,HX.out.2.1,HX.out.2.2⟩
       case measure=>exact gQ
      ·obtain⟨r,br,bs,aS,aT⟩:=Nr a5.out HK.out.b1 (show B<P by have:=HK.out.b2;omega);have aD:=gb (λb=>Ia P B r b Oa (show B<P by have:=HK.out.b2;omega) br bs aS aT);have bY:((f:Int)==0)=false:=OK;obtain⟨t,ht⟩:∃t:Nat,f*r%P=t:=⟨_,rfl⟩;have cp:t<P:=by rw[<-ht];exact iD _ Oa
       have HT:=gd ((P:Int)∣t*B-lq s (gD a) L n) (by
        rw[ai.out];refine agd X.out (iv:=r) ?_ ?_
        ·refine⟨((B*r/P:Nat):Int),?_⟩;have:=jN (B*r) P;exact Oa
        ·refine⟨((f*r/P:Nat):Int),?_⟩;have:=jN (f*r) P
         exact Oa)
       have bz:(f:Int)*r=((f*r:Nat):Int):=(gI _ _).symm;have cl:f*r<=49:=gE (show f<=7 by omega) (show r<=7 by omega);have bA:((f*r:Nat):Int).tmod (P:Int)=(t:Int):=(by rw[<-ht];exact(gO _ _).symm);clear ht aS aT;generalize f*r=dv at*;go_wp2_with fail;refine(aD.out _).mono ?_;rintro o w2 ⟨rfl,rfl⟩;have ay:=gb (uT q 0 (N+2) J a wr (HX.out.1.sl Ub) Ub);clear aD;go_wp2_with fail;refine ay.out.mono ?_;rintro o w3 ⟨⟨cs,rfl,hu⟩,ab⟩;obtain⟨R,cx,aF,b9,ca⟩:=hu.form Ub;rw[HK.out.l1]at aF;subst aF;have ad:=HK.out.g1;have a1:=gd (yu P t a c g g=a) (acO _ _ _ _ _);have a2:=gb (λi=>(rV (P:Int) (t:Int) a c g i).trans HK.out.l1);have an:=gb (λi j=>NS (p:=(P:Int)) (t:=(t:Int)) (nl:=a) (ol:=c) (g:=g) (i:=i) Oa HK.out.i1 j);have a3:=gb (λi (h1:g<=i) (S:i<N+2)=>acN (p:=(P:Int)) (t:=(t:Int)) (nl:=a) (ol:=c) h1 (show i<a.length by rw[HK.out.l1];exact S));have HY:=oB (hu.mono (show w.heap.size<=wr.heap.size by omega)) (HX.out.1.below ab) (HX.out.2.1.below ab) (HX.out.2.2.trans (ab.mono bF));clear hu ab ay HX bz bA av;go_wp2_with fail;go_loopw [18] (λx z=>∃i:Nat,x= .int .i64 i/\g<=i/\i<=N+2/\OI w.heap.size z (.slice (some ⟨R,0,none⟩) (N+2) cx) (yu P t a c g i)/\OI w.heap.size z (.slice (some ⟨q,0,none⟩) (N+2) J) a/\OI w.heap.size z (.slice (some ⟨Q,0,none⟩) (N+2) co) c/\gm w z) (λx _=>N+2-(intOf x).toNat)
       case atStart=>exact⟨g,rfl,fZ _,by omega,by rw[a1.out];exact HY.out.1,HY.out.2.1,HY.out.2.2.1,HY.out.2.2.2⟩
       case round=>
        clear HY;obtain⟨i,rfl,bo,bp,M,d,k,e⟩:=hrel;by_cases aR:i<N+2
        ·have cc:(i:Int)<N+2:=(by omega);have au:=M.cell i (by rw[a2.out];exact aR);have aP:=M.frozen i;have ar:=k.cell (i-g) (by rw[HK.out.l2];omega);have K:=OI.stored (w:=wr.drew) M i ((gD (yu P t a c g i) i+((P:Int)-t)*gD c (i-g))%P);rw[a3.out i bo aR]at K;have bC:(i:Int)-g=((i-g:Nat):Int):=Oa;have cq:=an.out i i;have aX:=HK.out.i2 (i-g);have ci:0<=((P:Int)-t)*gD c (i-g)/\((P:Int)-t)*gD c (i-g)<=49:=by
          refine⟨lG Oa aX.1,?_⟩;have:((P:Int)-t)*gD c (i-g)<=7*7:=YZ Oa Oa aX.1 Oa;exact Oa
         have bE:(gD (yu P t a c g i) i+((P:Int)-t)*gD c (i-g)).tmod (P:Int)=(gD (yu P t a c g i) i+((P:Int)-t)*gD c (i-g))%P:=jC Oa;have A:=oB K.1 (OI.kept (w:=wr.drew) d K.2 (.inr (λo=>by have:q=R:=gG o;omega))) (OI.kept (w:=wr.drew) k K.2 (.inr (λo=>by have:Q=R:=gG o;omega))) ((e.drew).grown K.2 e.size (λah h=>by cases h;omega));rw[show(yu P t a c g i).getD i 0=gD (yu P t a c g i) i from rfl]at au;rw[show c.getD (i-g) 0=gD c (i-g)from rfl]at ar;have au:wr.drew.cell? ⟨R,i,none⟩=_:=au;have aP:wr.drew.frozen? ⟨R,i,none⟩=false:=aP;have ar:wr.drew.cell? ⟨Q,i-g,none⟩=_:=ar;have cb:i-g<N+2:=Oa;clear M d k e K;generalize i-g=ig at*;generalize gD (yu P t a c g i) i=x at*;generalize gD c ig=V at*;generalize hm:((P:Int)-t)*V=m at*;generalize hr:(x+m)%(P:Int)=bH at*;clear hr;go_wp2;go_region;go_wp2;go_roundw
         case rel=>exact⟨i+1,by go_num,by omega,by omega,A.out.1,A.out.2.1,A.out.2.2.1,A.out.2.2.2⟩
         case measure=>exact gQ
        ·obtain rfl:i=N+2:=(by omega);have A:=oB M d k e;clear M d k e;by_cases S:2*L<=n
         ·have a9:2*(L:Int)<=n:=(by omega);have ck:(n:Int)+1-L=((n+1-L:Nat):Int):=Oa;have O:=gb (HK.out.grow (d:=f) Oa (show n+1<N+2 by omega) Oa bj (by rw[ai.out];exact X.out) HT.out S);generalize n+1-L=nL at*;go_wp2;go_roundw
          case rel=>exact⟨n+1,_,a,nL,1,f,by omega,rfl,rfl,rfl,by go_num,gb O.out,A.out.1,A.out.2.1,A.out.2.2.2⟩
          case measure=>exact gQ
         ·have a9:¬2*(L:Int)<=n:=(by omega);have O:=gb (HK.out.keep Oa (show n+1<N+2 by omega) HT.out S);go_wp2;go_roundw
          case rel=>exact⟨n+1,_,c,L,g+1,B,by omega,rfl,by go_num,rfl,by go_num,gb O.out,A.out.1,A.out.2.2.1,A.out.2.2.2⟩
          case measure=>exact gQ
   ·obtain rfl:N=n:=(by omega);have bx:¬(N:Int)<N:=Oa;have HX:=gR d e;clear d k e;by_cases aa:L=0\/N<2*L
    ·have HE:=gd (NB P (gD a) L N=[]) (gl aa);have bh:((L:Int)==0)=true\/((L:Int)==0)=false/\(N:Int)<2*L:=by
      grind
     clear aa;have ba:(L:Int)<=60:=Oa;rcases bh with h|⟨h,h'⟩
     ·have bb:(L:Int)=0:=(by grind);clear bb;exact UA
     ·exact UA
    ·have HE:=gd (NB P (gD a) L N=Lv P (gD a) L) (gh aa);have h1:((L:Int)==0)=false:=(by grind);have S:¬(N:Int)<2*L:=Oa;have ba:(L:Int)<=60:=Oa;have bW:=HX.out.1.cap;have bU:(L:Int)+1<=J:=Oa;have bV:L+1<=J:=Oa;have aG:1<=L:=Oa;clear aa;have cm:(1:Int)<=L+1:=Oa;have cn:((L:Int)+1-1)=(L:Int):=Oa;have aH:=HK.out.i1;have an:=gb aH;clear aH;go_wp2_with fail;go_loopw [19,21,140] (λbG _ x z=>∃j:Nat,x= .int .i64 j/\j<=L/\OI (q+1) z bG (Lv P (gD a) j)/\OI w.heap.size z (.slice (some ⟨q,0,none⟩) (N+2) J) a/\gm w z) (λ_ _ x _=>L-(intOf x).toNat)
     case atStart=>exact⟨0,rfl,ge _,OI.nil _ _,HX.out.1,HX.out.2⟩
     case round=>
      clear HX;obtain⟨j,rfl,cd,T,d,e⟩:=hrel;by_cases bt:j=L
      ·subst bt;have HX:=gR (T.mono (show w.heap.size<=q+1 by omega)) e;clear T d e;go_wp2;go_ret3;exact⟨zN.mk rfl (by rw[HE.out];exact HX.out.1) HK.out.bm,HX.out.2⟩
      ·have ce:(j:Int)<L:=(by omega);have hc:=d.cell (1+j) Ub;rw[show a.getD (1+j) 0=gD a (j+1)by rw[ahp];rfl]at hc;have bX:=an.out (j+1);have bE:((P:Int)-gD a (j+1)).tmod (P:Int)=((P:Int)-gD a (j+1))%P:=jC Oa;have a4:=gd (Lv P (gD a) (j+1)=Lv P (gD a) j++[((P:Int)-gD a (j+1))%P]) (by unfold Lv;rw[jc,jf];rfl);have az:(Lv P (gD a) j).length<=1000000000000:=(by rw[y9];omega);have bD:q+1<=wr.heap.size:=(d.lt q rfl).2;have HX:=ju T d e;clear d e;generalize ((P:Int)-gD a (j+1))%(P:Int)=bH at*;generalize gD a (j+1)=aE at*;go_wp2_with (at_builtin;refine g8 wr _ _ 45 rfl rfl underlying45 info3 (q+1) _ _ rfl T rfl az bD ?_;intro g7 c7 w4 aY ad bm bn)
       have aW:=HX.out.2.1.kept ad (.inr (λo=>by
        have:=(HX.out.1.lt q o.symm).1
        exact Oa))
       have aJ:=(HX.out.1.mono (show w.heap.size<=q+1 by omega)).grown HX.out.2.2 ad Oa;have HY:=ju (aY.cast a4.out.symm) aW aJ;clear aY ad bm bn aW aJ T HX;exact S5
section
section
variable {B U:Nat} {w w1:World} {v v':Value} {R n:Nat} {g cp:Nat->Nat} {M:Nat->Nat->Int}
theorem mz.nil(B U:Nat)(w:World)(n:Nat)(M:Nat->Nat->Int):mz B U w (.slice none 0 0) 0 n M:=⟨λ_=>0,λ_=>0,λi h=>by omega,λi h=>by omega,λk h=>by simp[Value.ownBlock]at h,Ow.nil _ _ _,λi h=>by omega⟩
theorem mG.snoc{a b:Nat}(h:mG B U w v R n g cp M)(x:B<=U)(p:OI U w (.slice (some ⟨a,0,none⟩) (n+1) b) (sd M n R))(o:Ow 45 B w1 v' (uH R n g cp++[.slice (some ⟨a,0,none⟩) (n+1) b]))(r:w.grownBy w1 v.ownBlock):mz B w1.heap.size w1 v' (R+1) n M:=by
 have y:=p.lt a rfl;have t:uH R n g cp++[.slice (some ⟨a,0,none⟩) (n+1) b]=uH (R+1) n (λi=>if i=R then a else g i) (λi=>if i=R then b else cp i):=by
  unfold uH;rw[jc,jf];congr 1
  ·refine jn λq l=> ?_;have:=gC.1 l;simp[sG,show¬q=R by omega]
  ·simp[sG]
 rw[t]at o;have s:∀i,i<R+1->OI B w1 (.slice (some ⟨if i=R then a else g i,0,none⟩) (n+1) (if i=R then b else cp i)) (sd M n i):=λi k=>by
  by_cases e:i=R
  ·subst e;rw[gl rfl,gl rfl];exact(p.kept r (kA h.out p)).mono x
  ·rw[gh e,gh e];exact(h.row i Oa).kept r (kA h.out (h.row i Oa))
 refine⟨_,_,λi k j z e=> ?_,λi k=>((s i k).lt _ rfl).2,λq l=>(o.lt q l).2,o,s⟩;have c:(if i=R then a else g i)=(if j=R then a else g j):=e;by_cases d:i=R<;>by_cases f:j=R
 ·exact Oa
 ·rw[gl d,gh f]at c;have:=h.gu j Oa;exact Oa
 ·rw[gh d,gl f]at c;have:=h.gu i Oa;exact Oa
 ·rw[gh d,gh f]at c;exact h.inj i Oa j Oa c
end
theorem afC(s:Nat->Int)(l i:Nat):(List.range l).map (yC s l i)++[s (l+i)]=sd (yC s l) l i:=by
 grind [sd,List.range_succ,yC]
theorem J5(P:Nat)(v:Value)(seen:gP)(w:World)(X:Sl w v seen)(J:j8 (P:Int)=true)(az:seen.length<=60)(S:nD (P:Int) seen=true)(C B:Nat->Int)(L g:Nat)(b:Int)(H:BM P (gD seen) seen.length C B L g b):
 Calls prog 62 #[.int .i64 P,v] w λF w'=>(∃Y,F= .returned (.tuple #[.int .i64 L,Y,.int .i64 0])/\OI w.heap.size w' Y (NB P C L seen.length))/\gm w w':=by
 have aC:=kC J;have M:=gb (xZ P w);rw[J]at M;have K:=gb (tQ P v seen w X);rw[S]at K;have ad:=gb (ahH (l:=seen) (p:=(P:Int)) Oa (zj S));have af:=gb J;obtain⟨sv,sc,N,rfl,hN,aK,aB⟩:=X.open;have HN:=gb hN.out;have aH:N<=60:=Ut
 have eI:=gd (N=0\/∃f r,sv=some ⟨f,r,none⟩/\f<w.heap.size/\∀i,i<N->w.cell? ⟨f,r+i,none⟩=some (.int .i64 (gD seen i))) (by
  grind [gD])
 rw[HN.out]at H⊢;obtain⟨s,hs⟩:∃s,gD seen=s:=⟨_,rfl⟩;rw[hs]at ad eI H;have ab:=gb H;have aG:=H.ln;clear aB X S az hN hs aC J H;go_enter func62,ntmps62;go_wp2_with fail;refine M.out.mono ?_;rintro F w0 ⟨rfl,rfl⟩;have aO:¬(60:Int)<N:=Oa;go_wp2_with fail;refine K.out.mono ?_;rintro F w1 ⟨rfl,m1,rfl⟩;have B1:=gb (gM (f0 w.heap.size w) m1);clear M K;go_wp2_with fail;go_loopw [8,9,10,11,12,13,14] (λv8 _ _ _ _ _ _ n=>∃l:Nat,v8= .int .i64 l/\l<=L/\gm w n) (λv8 _ _ _ _ _ _ _=>L-(intOf v8).toNat)
 case atStart=>exact⟨0,rfl,ge _,B1.out⟩
 case round=>
  clear B1;obtain⟨l,rfl,aL,c⟩:=hrel;have aM:(l:Int)<=N:=Oa;have a:=gb c;clear c;go_wp2_with fail;go_loopw [9,10,11,12] (λv9 Z _ _ n=>∃i k:Nat,Hid (k=l+i)/\l<=k/\Z= .int .i64 k/\k<=N/\mz w.heap.size n.heap.size n v9 i l (yC s l)/\gm w n) (λ_ Z _ _ _=>N-(intOf Z).toNat)
  case atStart=>exact⟨0,l,gb rfl,fZ _,rfl,by omega,mz.nil _ _ _ _ _,a.out⟩
  case round=>
   clear a;obtain⟨i,k,d,aN,rfl,aJ,o,c⟩:=hrel;by_cases aA:k<N
   ·have ay:(k:Int)<N:=(by omega);obtain⟨f,r,rfl,ak,D⟩:∃f r,sv=some ⟨f,r,none⟩/\f<w.heap.size/\∀i,i<N->w.cell? ⟨f,r+i,none⟩=some (.int .i64 (s i)):=Qm;have ac:=gb D;have t:=c.size;have a:=gR o c;clear D o c;obtain⟨U,Q⟩:∃U,wr.heap.size=U:=⟨_,rfl⟩;rw[Q]at a t;have ag:=gb Q;clear Q;go_wp2_with fail;go_loopw [11,12] (λaE aa n=>∃j:Nat,aa= .int .i64 j/\j<=l/\U<=n.heap.size/\OI U n aE ((List.range j).map (yC s l i))/\mz w.heap.size U n u9 i l (yC s l)/\gm w n) (λ_ aa _=>l-(intOf aa).toNat)
    case atStart=>exact⟨0,rfl,ge _,Nat.le_of_eq ag.out.symm,OI.nil _ _,a.out.1,a.out.2⟩
    case round=>
     clear a ag;obtain⟨j,rfl,aI,R,I,o,c⟩:=hrel;by_cases ax:j<l
     ·have aw:(j:Int)<l:=(by omega);have aP:(k:Int)-1-j=((k-1-j:Nat):Int):=Oa;have ar:=(c.cell (p:=⟨f,r+(k-1-j),none⟩) ak).trans (ac.out (k-1-j) Oa);have al:k-1-j<N:=Oa
      have z:=gd ((List.range (j+1)).map (yC s l i)=(List.range j).map (yC s l i)++[s (k-1-j)]) (by
       rw[jc,jf];simp only[jG,mR,yC]
       rw[gl ax,d.out])
      have az:((List.range j).map (yC s l i)).length<=1000000000000:=UI;have a:=ju I o c;clear I o c;generalize k-1-j=kk at*;generalize s kk=aq at*;go_wp2_with (at_builtin;refine g8 wr _ _ 45 rfl rfl underlying45 info3 U _ _ rfl a.out.1 rfl az R ?_;intro g7 c7 w4 x q T V);have G:=a.out.2.1.kept q (λk d=>(a.out.1.lt k d).1);have A:=a.out.2.2.grown q Oa (λk d=>gt t (a.out.1.lt k d).1);rw[gv,k7]at x;have an:=gt R q.size;have e:=oB an (x.cast z.out.symm) G A;clear x q T V G A a an;go_roundw
      case rel=>exact⟨j+1,by go_num,by omega,e.out.1,e.out.2.1,e.out.2.2.1,e.out.2.2.2⟩
      case measure=>exact gQ
     ·obtain rfl:j=l:=(by omega);have aw:¬(j:Int)<j:=Oa;have ar:=(c.cell (p:=⟨f,r+k,none⟩) ak).trans (ac.out k aA);have z:=gd ((List.range j).map (yC s j i)++[s k]=sd (yC s j) j i) (by rw[d.out];exact afC s j i);have az:((List.range j).map (yC s j i)).length<=1000000000000:=UI;have a:=ju I o c;clear I o c;generalize s k=aq at*
      go_wp2_with (at_builtin;first
       |(refine g8 wr _ _ 45 rfl rfl underlying45 info3 U _ _ rfl a.out.1 rfl az R ?_
         intro g7 c7 w4 x q T V;have G:=a.out.2.1.kept q (λk d=>(a.out.1.lt k d).1);have A:=a.out.2.2.grown q Oa (λk d=>gt t (a.out.1.lt k d).1);rw[gv,k7]at x;rw[gv,k7];have hr:=x.cast z.out;obtain⟨gg,cp,O⟩:=G;have o1:=O.out;have aD:(uH i j gg cp).length<=1000000000000:=(by rw[qg];have:=d.out;omega);have ao:w.heap.size<=w4.heap.size:=(by have:=q.size;omega);have e:=ju hr O A
         clear x q T V O A a hr)
       |(refine jt w4 _ _ 46 45 (.slice none 0 0) 24 rfl rfl underlying46 info45 rfl Oc w.heap.size _ (uH i j gg cp) rfl o1 rfl rfl aD ao ?_;intro g3 c3 w5 am W au av))
      have ah:=e.out.2.1.snoc t e.out.1 am W;have aj:=e.out.2.2.grown W ao (λk d=>(o1.lt k d).1);have HZ:=gR ah aj;clear am W au av ah aj e;go_roundw
      case rel=>exact⟨i+1,k+1,gb (by have:=d.out;omega),by omega,by go_num,by omega,HZ.out.1,HZ.out.2⟩
      case measure=>exact gQ
   ·obtain rfl:k=N:=(by omega);have ay:¬(k:Int)<k:=Oa;have t:=c.size
    have ae:=gb (RF P i l w.heap.size u9 (yC s l) wr o af.out (by have:=d.out;omega) Oa (λaq _ aR _=>by
     unfold yC
     split<;>exact ad.out _) t)
    have a:=gb c;clear c o;go_wp2_with fail;refine ae.out.mono ?_;rintro F w2 ⟨⟨ap,aQ,Y,rfl,y,hu⟩,ai⟩;have e:=gR (hu.mono t) (a.out.trans ai);rw[show i=k-l by have:=d.out;omega]at y;clear a ae ai hu;by_cases al:l<L
    ·obtain rfl:=Ii ab.out al y;clear y;go_wp2;go_roundw
     case rel=>exact⟨l+1,by go_num,by omega,e.out.2⟩
     case measure=>exact gQ
    ·obtain rfl:l=L:=(by omega);have ht:=abT af.out ab.out y;have D:ap=2\/ap=1:=by
      rcases y with h|h|h
      ·exact Oa
      ·exact Oa
      exact Oa
     have E:=gb ht.2;clear ht y;by_cases h0:l=0
     ·subst h0;have z:=gd (NB (P:Int) C 0 k=[]) (gl (.inl rfl));rcases D with rfl|rfl
      all_goals
       go_wp2;go_ret3;exact⟨⟨_,rfl,by rw[z.out];exact OI.nil _ _⟩,e.out.2⟩
     ·have aF:((l:Int)==0)=false:=(by simp_all);rcases D with rfl|rfl
      ·rw[gl (.inr rfl)]at E;go_wp2;go_ret3;exact⟨⟨_,rfl,by rw[<-E.out];exact OI.nil _ _⟩,e.out.2⟩
      ·rw[gh Oa]at E;go_wp2;go_ret3;exact⟨⟨_,rfl,e.out.1.cast E.out⟩,e.out.2⟩
def ku(p:Int)(seen:gP):Int:=if j8 p=false then 1 else if 60<seen.length then 3 else if nD p seen=false then 1 else 0
theorem Gz(p:Int)(v:Value)(seen:gP)(w:World)(a:Sl w v seen)(h:ku p seen≠0):
 Calls prog 62 #[.int .i64 p,v] w λe i=>e= .returned (.tuple #[.int .i64 0,.slice none 0 0,.int .i64 (ku p seen)])/\gm w i:=by
 have dw:=gb (xZ p w);have b:=gb (tQ p v seen w a);obtain⟨n,l,N,rfl,c,k,d⟩:=a.open;have HE:=gb (show ku p seen=if j8 p=false then 1 else if 60<N then 3 else if nD p seen=false then 1 else 0 by rw[<-c.out];rfl);clear d a;generalize ku p seen=z at*;generalize j8 p=s at*;generalize nD p seen=f at*;cases s with
 |false=>
  obtain rfl:=HE.out;exact Ri
 |true=>
  by_cases h8:60<N
  ·have j:(60:Int)<N:=(by omega);obtain rfl:z=3:=Sy;exact Ri
  ·cases f with
   |true=>exact absurd Sy h
   |false=>
    obtain rfl:z=1:=Sy;go_enter func62,ntmps62;go_wp2_with fail;refine dw.out.mono ?_;rintro e w0 ⟨rfl,rfl⟩;go_wp2_with fail;refine b.out.mono ?_;rintro e o ⟨rfl,g,rfl⟩;go_wp2;go_ret3;exact⟨rfl,gM (f0 _ _) g⟩
theorem Lg(p:Int)(v:Value)(seen:gP)(w:World)(c:Sl w v seen)(i:∀x∈seen,ja x)(h:ku p seen≠0):
 Calls prog 37 #[.int .i64 p,v] w λe k=>e= .returned (.tuple #[.int .i64 0,.slice none 0 0,.int .i64 (ku p seen)])/\gm w k:=by
 have dw:=gb (λa=>vh p a);have d:=gb (λa (b:gm w a)=>zi p v seen a (c.below b) i);obtain⟨q,o,N,rfl,g,n,j⟩:=c.open;have HE:=gb (show ku p seen=if j8 p=false then 1 else if 60<N then 3 else if nD p seen=false then 1 else 0 by rw[<-g.out];rfl);clear j c;generalize ku p seen=z at*;generalize j8 p=s at*;generalize nD p seen=f at*;cases s with
 |false=>
  obtain rfl:=HE.out;exact Rh
 |true=>
  by_cases h8:60<N
  ·have l:(60:Int)<N:=(by omega);obtain rfl:z=3:=Sy;exact Rh
  ·cases f with
   |true=>exact absurd Sy h
   |false=>
    obtain rfl:z=1:=Sy;go_enter func37,ntmps37;go_wp2_with fail;refine(dw.out _).mono ?_;rintro e w0 ⟨rfl,rfl⟩;go_wp2_with fail;refine(d.out _ (f0 _ _)).mono ?_;rintro e a ⟨rfl,b⟩;go_wp2;go_ret3;exact⟨rfl,b⟩
end
def ri(n:Int)(l:gP):Int:=if jV l≠0 then jV l else if((l.length:Nat):Int)≠n then 2 else 0
def mo(n:Int):lO->Int
 |[]=>0
 |l::ls=>if ri n l≠0 then ri n l else mo n ls
def lF(n:Int)(ll:lO):Int:=if n<1\/7<n then 1 else if 4<ll.length then 3 else mo n ll
theorem yn{n:Int}:∀{ll:lO},mo n ll=0->∀l∈ll,ri n l=0
 |[],_,l,a=>by cases a
 |m::ls,h,l,a=>by
  unfold mo at h;by_cases b:ri n m=0
  ·rw[gh Oa]at h;rcases m9.1 a with rfl|a
   ·exact b
   ·exact yn h l a
  exact Oa
theorem Xx{n:Int}{l:gP}(h:ri n l=0):jV l=0/\((l.length:Nat):Int)=n:=by
 unfold ri at h;exact Oa
theorem CQ{n:Int}{ll:lO}(h:lF n ll=0):(1<=n/\n<=7)/\ll.length<=4/\∀l∈ll,jV l=0/\((l.length:Nat):Int)=n:=by
 unfold lF at h;by_cases a:n<1\/7<n
 ·exact Oa
 rw[gh a]at h;by_cases b:4<ll.length
 ·exact Oa
 rw[gh b]at h;exact⟨by omega,by omega,λl c=>Xx (yn h l c)⟩
theorem Ak{n:Int}{ll:lO}{k:Nat}(h:k<ll.length):mo n (ll.drop k)=if ri n (ll.getD k [])≠0 then ri n (ll.getD k [])else mo n (ll.drop (k+1)):=by
 rw[kG h,mo,gc,gn h,iQ]
theorem CO{n:Int}{ll:lO}{k:Nat}(h:ll.length<=k):mo n (ll.drop k)=0:=by
 rw[wV h,mo]
theorem zo{n:Int}{ll:lO}(h:n<1\/7<n):lF n ll=1:=gl h
theorem Hx{n:Int}{ll:lO}(h:¬(n<1\/7<n))(a:4<ll.length):lF n ll=3:=by
 unfold lF;omega
theorem Hy{n:Int}{ll:lO}(h:¬(n<1\/7<n))(a:¬4<ll.length):lF n ll=mo n (ll.drop 0):=by
 unfold lF;grind
theorem NL(n:Int)(v:Value)(l:gP)(w:World)(d:Sl w v l):
 Calls prog 151 #[.int .i64 n,v] w λe i=>e= .returned (.int .i64 (ri n l))/\∃ai,i=w.drewN ai:=by
 obtain⟨j,k,g⟩:=d.len;subst g;have HP:=gb (λai=>uN _ l (w.drewN ai) (d.drewN ai));have a:=gd (ri n l=if jV l≠0 then jV l else if((l.length:Nat):Int)≠n then 2 else 0) rfl;generalize ri n l=M at*;generalize jV l=E at*;generalize l.length=N at*;clear d;by_cases b:E=0
 ·subst b;have f:=gd (M=if((N:Nat):Int)≠n then 2 else 0) (by rw[a.out,gh Oc]);clear a;by_cases c:(N:Int)=n
  ·obtain rfl:M=0:=(by rw[f.out,gh Oa]);subst c;exact Ma
  ·obtain rfl:M=2:=(by rw[f.out,gl c]);have h:(((N:Nat):Int) !=n)=true:=iT.2 c;exact Ma
 ·obtain rfl:M=E:=(by rw[a.out,gl b]);have h:(M !=0)=true:=iT.2 b;exact Ma
theorem Nd(n:Int)(v:Value)(ll:lO)(w:World)(r:RL w v ll):
 Calls prog 65 #[.int .i64 n,v] w λg K=>g= .returned (.int .i64 (lF n ll))/\∃ai,K=w.drewN ai:=by
 obtain⟨L,O,N,rfl,hN,R,q⟩:=r.open;by_cases B:n<1
 ·have HE:=gb (zo (ll:=ll) (.inl B));exact St
 by_cases C:7<n
 ·have HE:=gb (zo (ll:=ll) (.inr C));exact St
 by_cases h3:4<N
 ·have HE:=gb (Hx (n:=n) (ll:=ll) Oa MS);have D:(4:Int)<N:=Oa;exact St
 have HE:=gb (Hy (n:=n) (ll:=ll) Oa MS);have o:=gb (λk (h:k<N)=>Ak (n:=n) (ll:=ll) (k:=k) ON);have y:=gb (λk (h:N<=k)=>CO (n:=n) (ll:=ll) (k:=k) ON);have z:=gb (λ(c:Value)(H:gP)(j:World) G=>NL n c H j G);generalize lF n ll=E at*;have D:¬(4:Int)<N:=Oa;go_enter func65,ntmps65;go_wp2_with fail;go_loopw [5,6] (λi _ wr=>∃k:Nat,k<=N/\i= .int .i64 k/\(∃ai,wr=w.drewN ai)/\Hid (E=mo n (ll.drop k))) (λi _ _=>N-(intOf i).toNat)
 case atStart=>exact⟨0,ge _,rfl,⟨0,rfl⟩,gb HE.out⟩
 case round=>
  clear HE;obtain⟨k,T,rfl,⟨ai,a⟩,HE⟩:=hrel;by_cases s:k<N
  ·have F:(k:Int)<N:=(by omega);obtain⟨A,I,rfl,S,p⟩:=q Oa;obtain⟨c,c1,t⟩:=p k s;have x:Sl wr c (ll.getD k []):=(by rw[a];exact t.drewN _);have P:wr.cell? ⟨A,I+k,none⟩=some c:=(by rw[a];exact c1);have f:=gb (z.out c _ wr x);have d:=gb (o.out k s);have l:=gb a;clear t x c1 a p q r o;by_cases b:ri n (ll.getD k [])=0
   ·have e:=gd (E=mo n (ll.drop (k+1))) (by rw[HE.out,d.out,gh Oa]);rw[b]at f;clear b d;go_wp2_with fail;refine f.out.mono ?_;rintro g j ⟨rfl,J,rfl⟩;go_wp2;go_roundw
    case rel=>exact⟨k+1,by omega,by go_num,by rw[l.out];simp only[pI];grind,gb e.out⟩
    case measure=>exact gQ
   ·have e:=gd (E=ri n (ll.getD k [])) (by rw[HE.out,d.out,gl b]);have Q:(ri n (ll.getD k []) !=0)=true:=iT.2 b;clear b d;generalize ri n (ll.getD k [])=M at*;go_wp2_with fail;refine f.out.mono ?_;rintro g j ⟨rfl,J,rfl⟩;go_wp2;go_ret;refine⟨by rw[e.out];rfl,?_⟩;rw[l.out];simp only[pI];grind
  ·have F:¬(k:Int)<N:=(by omega);have HZ:=gb (HE.out.trans (y.out k Oa));subst a;exact UM
theorem Al(n:Int)(v:Value)(ll:lO)(w:World)(s:RL w v ll):
 Calls prog 192 #[.int .i64 n,v] w λe Q=>e= .returned (.int .i64 (lF n ll))/\gm w Q:=by
 obtain⟨R,S,N,rfl,hN,U,r⟩:=s.open;by_cases D:n<1
 ·have HE:=gb (zo (ll:=ll) (.inl D));exact M8
 by_cases F:7<n
 ·have HE:=gb (zo (ll:=ll) (.inr F));exact M8
 by_cases h3:4<N
 ·have HE:=gb (Hx (n:=n) (ll:=ll) Oa MS);have G:(4:Int)<N:=Oa;exact M8
 have HE:=gb (Hy (n:=n) (ll:=ll) Oa MS);have o:=gb (λk (h:k<N)=>Ak (n:=n) (ll:=ll) (k:=k) ON);have y:=gb (λk (h:N<=k)=>CO (n:=n) (ll:=ll) (k:=k) ON);have z:=gb (λ(j:Value)(O:gP)(Z:World) K=>xh j O Z K);generalize lF n ll=E at*;have G:¬(4:Int)<N:=Oa;go_enter func192,ntmps192;go_wp2_with fail;go_loopw [6,7,21] (λ_ _ i wr=>∃k:Nat,k<=N/\i= .int .i64 k/\gm w wr/\Hid (E=mo n (ll.drop k))) (λ_ _ i _=>N-(intOf i).toNat)
 case atStart=>exact⟨0,ge _,rfl,f0 _ _,gb HE.out⟩
 case round=>
  clear HE;obtain⟨k,V,rfl,c,HE⟩:=hrel;by_cases t:k<N
  ·have J:(k:Int)<N:=(by omega);obtain⟨C,P,rfl,I,q⟩:=r Oa;obtain⟨j,c1,x⟩:=q k t;have g:Sl wr j (ll.getD k []):=x.below c;obtain⟨W,X,B⟩:=g.len;subst B;have T:=(c.cell (p:=⟨C,P+k,none⟩) I).trans c1;have dj:=gb (z.out _ _ wr g);have b:=gb (o.out k t);have HQ:=gb c;clear x g c1 c q r s o;have a:=gd (ri n (ll.getD k [])=if jV (ll.getD k [])≠0 then jV (ll.getD k [])else if(((ll.getD k []).length:Nat):Int)≠n then 2 else 0) rfl;generalize ri n (ll.getD k [])=M at*;generalize jV (ll.getD k [])=l at*;generalize (ll.getD k []).length=L at*;by_cases d:l=0
   ·subst d;by_cases f:(L:Int)=n
    ·obtain rfl:M=0:=(by rw[a.out,gh Oc,gh Oa]);have eJ:=gd (E=mo n (ll.drop (k+1))) (by rw[HE.out,b.out,gh Oc]);clear b a;subst f;go_wp2_with fail;refine dj.out.mono ?_;rintro e Z ⟨rfl,av⟩;have HB:=gb (HQ.out.trans (av.mono HQ.out.size));clear av;go_wp2;go_roundw
     case rel=>exact⟨k+1,by omega,by go_num,HB.out,gb eJ.out⟩
     case measure=>exact gQ
    ·obtain rfl:M=2:=(by rw[a.out,gh Oc,gl f]);have eJ:=gd (E=2) (by rw[HE.out,b.out,gl Oc]);have H:(((L:Nat):Int) !=n)=true:=iT.2 f;clear b a f;exact MF
   ·obtain rfl:M=l:=(by rw[a.out,gl d]);have eJ:=gd (E=M) (by rw[HE.out,b.out,gl d]);have H:(M !=0)=true:=iT.2 d;clear d b a;exact MF
  ·have J:¬(k:Int)<N:=(by omega);have A:=gb (HE.out.trans (y.out k Oa));have HQ:=gb c;clear c;go_wp2;go_ret;exact⟨by rw[A.out];rfl,HQ.out⟩
def Gm(n:Nat)(f:Nat->Nat)(i:Nat):Nat:=if i<n then f i else i
theorem acG{n:Nat}{f:Nat->Nat}(P:Pm n f):Mv n (Gm n f):=by
 refine⟨⟨λi a=> ?_,λi j a b h=> ?_⟩,λi a=>gh Oa⟩
 ·unfold Gm;rw[gl a];exact P.lt i a
 ·unfold Gm at h;rw[gl a,gl b]at h;exact P.inj i j a b h
theorem Mv.lt7{n:Nat}{f:Nat->Nat}(P:Mv n f)(b:n<=7):∀i,i<7->f i<7:=λi a=>by
 by_cases h:i<n
 ·have:=P.pm.lt i h;omega
 ·rw[P.st i Oa];exact a
theorem XC(v:Value)(l:gP)(N:Nat)(f:Nat->Nat)(w:World)(Q:Sl w v l)(P:Wh l N f)(h1:1<=N)(h7:N<=7):
 Calls prog 193 #[v] w λg w'=>g= .returned (Vk (Gm N f))/\gm w w':=by
 have ai:=gb (λa=>Hz a);have ak:=P.at';obtain⟨ap,aq,b,rfl,I,ar,R⟩:=Q.open;obtain rfl:b=N:=by rw[<-I.out];exact P.len
 obtain⟨d,k,rfl,hb,hc⟩:=R Oa;have HC:=gd (∀i,i<b->w.cell? ⟨d,k+i,none⟩=some (.int .i64 (f i:Int))) (λi hi=>by grind);have L:splice (jP id) 0 ((List.range b).map λi=>Value.int .i64 ((f i:Nat):Int))=jP (Gm b f):=by
  refine ib λj=> ?_;unfold splice;rw[Y2,ko,gv,k7,iL];by_cases x:j<b
  ·grind [pz,Gm]
  grind [pz,Gm,kx]
 have B:=gb L;clear Q R hc ak P I L;go_enter func193,ntmps193;go_wp2_with fail;have s:Below w.heap.size w (w.alloc (.cells (jP λ_=>0).toArray 179)):=(f0 _ _).alloc (fZ _) _;have D:hU (w.alloc (.cells (jP λ_=>0).toArray 179)) w.heap.size 179 (jP λ_=>0):=hU.new w _ _;refine(ai.out _).mono ?_;rintro g a ⟨rfl,t⟩;have q:=D.below t;have o:=s.trans (t.mono s.size);clear D s t;have T:w.heap.size+1<=a.heap.size:=by have:=q.lt;omega
 have E:hU (a.alloc (.cells #[.int .i64 0,.int .i64 0,.int .i64 0,.int .i64 0,.int .i64 0,.int .i64 0,.int .i64 0] 179)) a.heap.size 179 (jP λ_=>0):=hU.new a _ _;have i2:(prog.info? 179).map (·.size)=some (jP id).length:=M3;have J:Below (w.heap.size+1) a (a.alloc (.cells #[.int .i64 0,.int .i64 0,.int .i64 0,.int .i64 0,.int .i64 0,.int .i64 0,.int .i64 0] 179)):=(f0 _ _).alloc T _;have V:(a.alloc (.cells #[.int .i64 0,.int .i64 0,.int .i64 0,.int .i64 0,.int .i64 0,.int .i64 0,.int .i64 0] 179)).heap.size=a.heap.size+1:=iV _ _;obtain⟨c,h⟩:∃c,((List.range b).map λi=>Value.int .i64 ((f i:Nat):Int))=c:=⟨_,rfl⟩;have K:c.length=b:=by grind
 have am:∀v∈c,v.oneCell'=true:=by
  intro v e;rw[<-h]at e;obtain⟨i,_,rfl⟩:=gK.1 e;rfl
 have U:∀n,Below (w.heap.size+1) a n->∀j v,c[j]? =some v->n.cell? ((⟨d,k,none⟩:Addr).add j)=some v:=by
  intro n al j v e;have x:j<b:=(by grind);rw[<-h,gY,i7 x]at e;rw[F7,(al.cell (p:=⟨d,k+j,none⟩) (by grind)),(o.cell (p:=⟨d,k+j,none⟩) hb),HC.out j x];exact e
 rw[h]at B;have y:(prog.info? 179).map (·.size)=some (jP (Gm b f)).length:=M3;have S:c.length=Nat.min b 7:=by grind
 have HM:=gb S;have ah:=gb U;have Y:=gb q;have Z:=gb E;have ad:=gb o;have ae:=gb J;have ag:=gb K;have aj:=gb V;clear S U J q o h E K V;unfold Vk
 go_wp2_with (first
  |(refine ke rfl 179 _ _ rfl a.heap.size (jP id) rfl rfl Z.out (by grind [kx]) i2 (rR _) ?_
    intro n F M;have aa:=gb F;have z:=gb (ae.out.grown M (by rw[aj.out];omega) (λd g=>by grind))
    clear F M)
  |(refine wpList_copy_splice rfl _ _ 45 45 rfl 3 underlying45 Ob _ _ _ _ _ _ rfl rfl a.heap.size 0 (jP id) 179 aa.out c HM.out (λ_=>⟨rfl,_,rfl,ah.out _ z.out⟩) (by rw[kx];have:=ag.out;omega) am (w.heap.size+1) a z.out T ?_
    intro X C r;have G:hU X a.heap.size 179 (jP (Gm b f)):=(by have:=C.out;rw[B.out]at this;exact this);have ab:=gd (hU X w.heap.size 179 (jP λ_=>0)) ((r.block w.heap.size Oa).trans Y.out);have W:=G.range;have A:=gb (ad.out.trans (r.mono Oa))
    clear G C r)
  |(refine ii rfl 179 _ rfl a.heap.size 0 rfl (jP (Gm b f)) _ W underlying179 rfl y ?_;clear W)
  |(refine ke rfl 179 _ _ rfl w.heap.size (jP (Gm b f)) rfl rfl ab.out (by grind [kx]) y (rR _) ?_
    intro w4 H O;have ac:=gb H;have af:=gb (A.out.grown O A.out.size (λd g=>by grind))
    clear H O)
  |fail)
 have ao:=ac.out.range;have an:=gV (P:=prog) _ _ _ 179 _ _ ao underlying179 rfl y;refine⟨rfl,.agg (jP (Gm b f)).toArray,?_,rfl,af.out⟩;show((results _ _).run _ _)=_;simp[results,f193,asAddr,Act.put,an]
section
def Hq:List (Nat->Nat)->np
 |[]=>[]
 |x::l=>jP x++Hq l
theorem E7:∀l,(Hq l).length=l.length*7
 |[]=>rfl
 |x::l=>by simp only[Hq,gz,iP,E7 l,kx];omega
theorem TR:∀(l m:List (Nat->Nat)),Hq (l++m)=Hq l++Hq m
 |[],m=>rfl
 |x::l,m=>by simp[Hq,TR l m]
theorem M1:∀(l:List (Nat->Nat))(i j:Nat),i<l.length->j<7->(Hq l)[i*7+j]? =(jP (l.getD i id))[j]?
 |x::l,0,j,_,a=>by
  grind [Hq,kx]
 |x::l,i+1,j,h,a=>by
  simp only[Hq];rw[jE (by rw[kx];omega),kx,show(i+1)*7+j-7=i*7+j by omega,M1 l i j (by grind) a]
  grind
def OM(B:Nat)(w:World)(v:Value)(l:List (Nat->Nat)):Prop:=w.ownsRow B 179 7 v l.length (Hq l)
section
variable {B:Nat} {w w':World} {v:Value} {l:List (Nat->Nat)}
theorem OM.nil(B:Nat)(w:World):OM B w (.slice none 0 0) []:=pJ _ _ _ _
theorem OM.lt(h:OM B w v l):∀k,v.ownBlock=some k->B<=k/\k<w.heap.size:=JK h
theorem OM.kept{a:Option Nat}(h:OM B w v l)(b:w.grownBy w' a)(c:v.ownBlock=none\/v.ownBlock≠a):OM B w' v l:=al7 h b c
theorem OM.below(h:OM B w v l)(J:gm w w'):OM B w' v l:=OX
theorem OM.len(h:OM B w v l):∃a c,v= .slice a l.length c:=U9
theorem OM.form(h:OM B w v l)(a:0<l.length):∃g c,v= .slice (some ⟨g,0,none⟩) l.length c/\B<=g/\g<w.heap.size:=al6 h a
theorem OM.range{g n c:Nat}(h:OM B w (.slice (some ⟨g,0,none⟩) n c) l){i:Nat}(hi:i<l.length):w.rangeAt g (i*7) (jP (l.getD i id)):=by
 intro j v a;have d:j<7:=by have:=(lP.1 a).1;rwa [kx]at this
 have b:=akM h (g:=g) rfl;rw[<-M1 l i j hi d]at a;have:=b _ _ a
 rwa [F7,iL]at this
end
theorem info179:(prog.info? 179).map (λi=>(i.zero,i.size,i.bytes))=some (some (.agg #[.int .i64 0,.int .i64 0,.int .i64 0,.int .i64 0,.int .i64 0,.int .i64 0,.int .i64 0]),7,56):=Ob
theorem yy{P:Program}{ops:Array Oper}{rest:List Oper}{o:Oper}{a:Act}{Q:Exit->Act->World->Prop}{w:World}{H:Nat}(x:Nat->Nat)(c:World)(s y:Operand)(d:TypeId)
 (n:o.guard=none) (r:o.op= .call {callee:= .builtin .append,args:= #[s,y],argTypes:= #[d,d]})
 (C:P.underlying d=some (.slice 179)) (hi:(P.info? 179).map (λi=>(i.zero,i.size,i.bytes))=some (some (.agg #[.int .i64 0,.int .i64 0,.int .i64 0,.int .i64 0,.int .i64 0,.int .i64 0,.int .i64 0]),7,56))
 (B:Nat) (v:Value) (l:List (Nat->Nat)) (A:a.eval s=v) (t:OM B c v l) (E:a.eval y= .slice (some ⟨H,0,none⟩) 1 1)
 (O:l.length<=1000000000) (N:B<=c.heap.size)
 (z:w.rangeAt H 0 (jP x))
 (h0:gm c w)
 (h:∀g e b,OM B b (.slice (some ⟨g,0,none⟩) (l.length+1) e) (l++[x])->c.grownBy b v.ownBlock->(v.ownBlock=some g\/c.heap.size<=g)->g<b.heap.size->wpList P ops Q rest (a.put o.dst (.slice (some ⟨g,0,none⟩) (l.length+1) e)) b):
 wpList P ops Q (o::rest) a w:=by
 obtain⟨J,p,F,G,I⟩:=ml hi;have aB:=h0.size;refine ah7 (P:=P) (w:=w) n s y d r B 179 J (.agg #[.int .i64 0,.int .i64 0,.int .i64 0,.int .i64 0,.int .i64 0,.int .i64 0,.int .i64 0]) 7 56 C p F G I rfl Oc v l.length (Hq l) A (t.below h0) ⟨H,0,none⟩ 1 1 (jP x) E (by rw[kx]) ?_ ?_ Oc ?_ ?_ Oa _ rfl ?_
 ·intro K f q;have:=z K f q;rw[F7];exact this
 ·intro f D;obtain⟨i,_,rfl⟩:=gK.1 D;rfl
 ·exact Mm
 ·exact Oa
 ·intro g j b L h2 M k;refine h g j b ?_ ?_ ?_ k
  ·grind [OM,TR,Hq]
  ·exact KO
  grind
end
end Go.Proofs.YtnnaadmegeeinaaGreatDoor
