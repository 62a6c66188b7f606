/-
  Part 14 of a proof: what it proves stands in the last text.
-/
import Derived.Test.YtnnaadmegeeinaaGreatDoorYm
import Derived.Laws.BitsAllLaws
set_option linter.all false
set_option maxHeartbeats 8000000
set_option maxRecDepth 100000
namespace Go.Proofs.YtnnaadmegeeinaaGreatDoor
open Tryz Go.Proofs.Tryz
open Go.RowKit
def uz:=@Nat.mul_mod
def vA:=@List.take_length
def La:=@Nat.add_mod
def aib:=@List.getElem?_toArray
def akt:=@Nat.mod_mod
def al3:=@Nat.mod_eq_sub_mod
theorem MC{p:Prop}(h:p:=by rw[i8,mM,pA];omega):p:=h
theorem MY{p:Prop}(h:p:=by rw[i8,px];omega):p:=h
theorem Da{p:Prop}(h:p:=by rw[pA,pA]):p:=h
theorem KX{p:Prop}(h:p:=by
 have h2:=Sm.orO (n:=K) (k:=2*K-1) (d:=low) (show 1<=P by omega) h (by grind [pA]) (by grind [pA]) K
 exact(acM hP hK6 (h2.tak K) MC MC MC (km (vm (vi _ _ Oa _) _) _) (km (vm (vi _ _ Oa _) _) _) (km (vm (vi _ _ Oa _) _) _)).symm):p:=h
theorem Pv{p:Prop}(h:p:=by exact(acM hP hK6 (h.tak K) MY MY MY (km (xK _ _ _ Oa _) _) (km (xK _ _ _ Oa _) _) (km (xK _ _ _ Oa _) _)).symm):p:=h
def mlX(P K:Nat)(low x:gA):Nat->gA
 |0=>x
 |i+1=>shT P K low (mlX P K low x i) K
def Gl(P K:Nat)(low x y:gA):Nat->gA
 |0=>List.replicate 7 0
 |i+1=>JL P (Gl P K low x y i) ((mlX P K low x i).map (·*y.getD i 0)) K
theorem agf(P K:Nat)(low:gA){x:gA}(h:x.length=7):∀i,(mlX P K low x i).length=7
 |0=>h
 |i+1=>uk _ _ _ _ _
theorem NP{P K:Nat}(low:gA){x:gA}(a:1<=P)(h:∀j,x.getD j 0<P):∀i,∀j,(mlX P K low x i).getD j 0<P
 |0=>h
 |i+1=>aj4 a _
theorem px(P K:Nat)(low x y:gA):∀i,(Gl P K low x y i).length=7
 |0=>by simp[Gl]
 |i+1=>qx _ _ _ _
theorem adj{P:Nat}(a:1<=P)(n j:Nat):(List.replicate n 0).getD j 0<P:=by
 grind
theorem xK{P K:Nat}(low x y:gA)(a:1<=P):∀i,∀j,(Gl P K low x y i).getD j 0<P
 |0=>adj a 7
 |i+1=>ZR a (xK low x y a i) _
theorem mE(x:gA)(t j:Nat):(x.map (·*t)).getD j 0=x.getD j 0*t:=by
 grind
def uE(P K:Nat)(low:gA)(x y:Nat):Nat:=lJ P ((Gl P K low (jo P x 7) (jo P y 7) K).take K)
theorem ajE(P K Q x y:Nat)(u:Value)(low:gA)(w:World)(G:Sl w u (nZ low))(L:2<=P)(ad:P<=64)(hK:1<=K)(aB:K<=6)(hq:P^K<=64)(bg:low.length=K)(bf:∀j,low.getD j 0<P)(hx:x<64)(hy:y<64):
 Calls prog 185 #[Ec P K u Q,.int .i64 x,.int .i64 y] w λh S=>h= .returned (.int .i64 (uE P K low x y))/\gm w S:=by
 have a7:=gb (λ(r:World)(c:Below w.heap.size w r)(A:gA)(ha:A.length=7)(bd:∀j,A.getD j 0<P)=>adB P K Q u low A r (G.below c) L ad hK aB bg bf ha bd);have bi:∃A aZ f,u= .slice A aZ f:=by obtain⟨A,f,h⟩:=G.len;grind
 clear G;have G:=bi;have bj:=G;obtain⟨t,q,f,rfl⟩:=G;have a:hU (w.alloc (.cells #[.int .i64 (P:Int),.int .i64 (K:Int),.slice t q f,.int .i64 (Q:Int)] 172)) w.heap.size 172 [.int .i64 (P:Int),.int .i64 (K:Int),.slice t q f,.int .i64 (Q:Int)]:=hU.new _ _ _;have c:=((f0 w.heap.size w).alloc (fZ _) (.cells #[.int .i64 (P:Int),.int .i64 (K:Int),.slice t q f,.int .i64 (Q:Int)] 172));have aH:w.heap.size<(w.alloc (.cells #[.int .i64 (P:Int),.int .i64 (K:Int),.slice t q f,.int .i64 (Q:Int)] 172)).heap.size:=a.lt;have aK:∀j,(jo P x 7).getD j 0<P:=λj=>ph L _ _;have aL:∀j,(jo P y 7).getD j 0<P:=λj=>ph L _ _;have aN:=kg P x 7;have aO:=kg P y 7;have an:=gb (show mlX P K low (jo P x 7) 0=jo P x 7 from rfl);have ap:=gb (λi=>show mlX P K low (jo P x 7) (i+1)=shT P K low (mlX P K low (jo P x 7) i) K from rfl);have aa:=gb (agf P K low aN);have aq:=gb (NP (P:=P) (K:=K) low Oa aK);have al:=gb (show Gl P K low (jo P x 7) (jo P y 7) 0=List.replicate 7 0 from rfl);have Y:=gb (λi=>show Gl P K low (jo P x 7) (jo P y 7) (i+1)=JL P (Gl P K low (jo P x 7) (jo P y 7) i) ((mlX P K low (jo P x 7) i).map (·*(jo P y 7).getD i 0)) K from rfl);have W:=gb (px P K low (jo P x 7) (jo P y 7));have Z:=gb (xK (P:=P) (K:=K) low (jo P x 7) (jo P y 7) Oa);have hQ:uE P K low x y=lJ P ((Gl P K low (jo P x 7) (jo P y 7) K).take K):=rfl;unfold Ec;go_enter func185,ntmps185;go_wp2;generalize w.alloc (.cells #[.int .i64 (P:Int),.int .i64 (K:Int),.slice t q f,.int .i64 (Q:Int)] 172)=w0 at*;generalize aJ:w.heap.size=b at*;have a2:=gd (w.heap.size=b) aJ;clear aJ;rename_i Q0 K0 aA;refine Cn Ob ?_;refine B7 (s0:=12) (n:=59) (P:=P) (x:=x) (y:=y) (bR:=b) Ob ⟨_,rfl,rfl,rfl,rfl⟩ ⟨_,rfl,rfl,rfl,rfl⟩ ⟨_,rfl,rfl,rfl,rfl⟩ ⟨_,rfl,rfl,rfl,rfl⟩ ⟨_,rfl,rfl,rfl,rfl⟩ ⟨_,rfl,rfl,rfl,rfl⟩ ⟨_,rfl,rfl,rfl,rfl⟩ ⟨_,rfl,rfl,rfl,rfl⟩ ⟨_,rfl,rfl,rfl,rfl⟩ ⟨_,rfl,rfl,rfl,rfl⟩ ⟨_,rfl,rfl,rfl,rfl⟩ ⟨_,rfl,rfl,rfl,rfl⟩ ⟨_,rfl,rfl,rfl,rfl⟩ ⟨_,rfl,rfl,rfl,rfl⟩ Ob Ob Oa Oa L ad Oa Oa (by rfl) rfl (λ_ _ _ _=>rfl) rfl rfl rfl (by exact a) rfl ?_;refine aag (P:=λa' S o D=>_) ?_;intro bk r o D p e7 e8 af ag bh U V AR z;have e0:=p 0 Oc Oc Oc;have e1:=p 1 Oc Oc Oc;have e2:=p 2 Oc Oc Oc;have e3:=p 3 Oc Oc Oc;have e4:=p 4 Oc Oc Oc;have e5:=p 5 Oc Oc Oc;have e6:=p 6 Oc Oc Oc;have e9:=p 9 Oc Oc Oc;have ax:=p 10 Oc Oc Oc;have ay:=p 11 Oc Oc Oc;replace z:gm w0 r:=⟨z.os,z.tape,z.output,z.size,z.block⟩;replace af:w0.heap.size<=o:=af;replace ag:w0.heap.size<=D:=ag;simp only[List.range,List.range.loop,List.map,e0,e1,e2,e3,e4,e5,e6,e7,e8,e9,ax,ay,VY,aib,gW,ij,iQ];clear p e0 e1 e2 e3 e4 e5 e6 e7 e8 e9 ax ay;apply aA;clear aA;have bq:b<r.heap.size:=gS aH z.size;have v:Below b w r:=c.trans (z.mono Oa);have ba:=U.lt;have bb:=V.lt;have hN:=hU.new r 168 (pv (List.replicate 7 0));have hW:=And.intro (AR.alloc (.cells (pv (List.replicate 7 0)).toArray 168)) (And.intro (U.alloc (.cells (pv (List.replicate 7 0)).toArray 168)) (And.intro (V.alloc (.cells (pv (List.replicate 7 0)).toArray 168)) (And.intro hN (v.alloc Oa (.cells (pv (List.replicate 7 0)).toArray 168)))));have e:=gb hW;have R:(r.alloc (.cells #[.int .i64 0,.int .i64 0,.int .i64 0,.int .i64 0,.int .i64 0,.int .i64 0,.int .i64 0] 168)).cell? ⟨b,1,none⟩=some (.int .i64 (K:Int)):=(hW.1.cell 1);have aC:=gd ((jo P y 7).length=7) aO;have a5:=gb aL;clear a c aK aL aN aO AR U V v z hN hW;obtain⟨X,aF⟩:∃X,X=mlX P K low (jo P x 7):=⟨_,rfl⟩;obtain⟨O,aE⟩:∃O,O=Gl P K low (jo P x 7) (jo P y 7):=⟨_,rfl⟩;rw[<-aF]at an ap aa aq Y;rw[<-aE]at al Y W Z hQ;clear aF aE;generalize jo P x 7=D1 at*;generalize jo P y 7=d at*;have bc:=gb hQ;clear hQ;have bn:b<=o:=Oa;have bo:b<=D:=Oa;have bp:b<o:=Oa;clear af ag aH;go_wp2;clear R;have bl:o<r.heap.size:=ba;have bm:D<r.heap.size:=bb;generalize be:r.heap.size=I at*;clear be;go_loopw [10,11,25] (λ_ _ i s=>∃j:Nat,j<=K/\i= .int .i64 j/\hU s b 172 [.int .i64 (P:Int),.int .i64 (K:Int),.slice t q f,.int .i64 (Q:Int)]/\hU s o 168 (pv (X j))/\hU s D 168 (pv d)/\hU s I 168 (pv (O j))/\Below b w s) (λ_ _ i _=>K-(intOf i).toNat)
 case atStart=>exact⟨0,by omega,rfl,e.out.1,by rw[an.out];exact e.out.2.1,e.out.2.2.1,by rw[al.out];exact e.out.2.2.2.1,e.out.2.2.2.2⟩
 case round=>
  clear e;obtain⟨j,hj,rfl,a,l,n,g,c⟩:=hrel;by_cases bw:j<K
  ·have bv:(j:Int)<K:=(by omega);have R:=a.cell 1;simp only[gW,ij]at R;have aU:=aa.out j;have aQ:=W.out j;have aV:=ap.out j;have aR:=Y.out j;have aW:=aq.out j;have aS:=Z.out j;have aX:=ZT (P:=P) (b:=(X j).map (·*d.getD j 0)) aQ;have ar:=gb aX;have aw:=gb (λk (J:k<7)=>ZS (P:=P) (a:=O j) (b:=(X j).map (·*d.getD j 0)) J);have au:=gb (λk (J:k<7)=>(vJ (P:=P) (a:=O j) (b:=(X j).map (·*d.getD j 0)) (j:=k) (i:=k) J).trans (gh Oa));have av:=gb (qx P (O j) ((X j).map (·*d.getD j 0)));have a4:=gb (mE (X j) (d.getD j 0));have ao:=gb aW;have H:=gb aU;have a6:=gb aS;have a8:=gb aV;have am:=gb aR;have bt:=a5.out j;have e:=vd a l n g c;have F:=n.cell j;rw[m5 (by rw[aC.out];omega)]at F;clear a l n g c aV aR aW aS aX aU aQ F;obtain⟨ab,aG⟩:∃ab,ab=JL P (O j) ((X j).map (·*d.getD j 0)):=⟨_,rfl⟩;rw[<-aG]at ar aw au av am;clear aG;go_wp2;clear R;go_loopw [11,31] (λ_ i s=>∃k:Nat,k<=K/\i= .int .i64 k/\hU s b 172 [.int .i64 (P:Int),.int .i64 (K:Int),.slice t q f,.int .i64 (Q:Int)]/\hU s o 168 (pv (X j))/\hU s D 168 (pv d)/\hU s I 168 (pv (ab k))/\Below b w s) (λ_ i _=>K-(intOf i).toNat)
   case atStart=>exact⟨0,by omega,rfl,e.out.1,e.out.2.1,e.out.2.2.1,by rw[ar.out];exact e.out.2.2.2.1,e.out.2.2.2.2⟩
   case round=>
    clear e;obtain⟨k,hk,rfl,a,l,n,g,c⟩:=hrel;have aY:=av.out k;by_cases bA:k<K
    ·have bz:(k:Int)<K:=(by omega);have ai:=l.cell k;rw[m5 (by rw[H.out];omega)]at ai;have F:=n.cell j;rw[m5 (by rw[aC.out];omega)]at F;have ah:=g.cell k;rw[m5 Oa,au.out k Oa]at ah;have aM:=g.frozen k;have k0:=a.cell 0;simp only[gW]at k0;have aj:=aw.out k Oa;rw[a4.out]at aj;have E:=hU.stored (w:=wr.drew) g k (.int .i64 ((((O j).getD k 0+(X j).getD k 0*d.getD j 0)%P:Nat):Int));rw[r9,<-aj]at E;have bC:=ao.out k;have bD:=a6.out k;have C:=vd (hU.kept (w:=wr.drew) a E.2 (λh=>by simp_all)) (hU.kept (w:=wr.drew) l E.2 (λh=>by simp_all)) (hU.kept (w:=wr.drew) n E.2 (λh=>by simp_all)) E.1 ((c.drew).grown E.2 (by have:=a.lt;show b<=wr.heap.size;omega) (λk J=>by cases J;omega));have bB:(X j).getD k 0*d.getD j 0<=4096:=gE (show _<=64 by omega) (show _<=64 by omega);have n2:(((X j).getD k 0:Nat):Int)*((d.getD j 0:Nat):Int)=(((X j).getD k 0*d.getD j 0:Nat):Int):=(gI _ _).symm;have n3:(((O j).getD k 0:Nat):Int)+(((X j).getD k 0*d.getD j 0:Nat):Int)=(((O j).getD k 0+(X j).getD k 0*d.getD j 0:Nat):Int):=Oa;have n4:(((O j).getD k 0+(X j).getD k 0*d.getD j 0:Nat):Int).tmod (P:Int)=((((O j).getD k 0+(X j).getD k 0*d.getD j 0)%P:Nat):Int):=(gO _ _).symm;have bx:(k:Int)<7:=Oa;have bu:(j:Int)<7:=Oa;have ai:wr.drew.cell? ⟨o,k,none⟩=_:=ai;have F:wr.drew.cell? ⟨D,j,none⟩=_:=F;have ah:wr.drew.cell? ⟨I,k,none⟩=_:=ah;have aM:wr.drew.frozen? ⟨I,k,none⟩=false:=aM;have k0:wr.drew.cell? ⟨b,0,none⟩=_:=k0;clear a l n g c aj E aY;generalize (O j).getD k 0=ov at*;generalize (X j).getD k 0=xv at*;generalize d.getD j 0=yv at*;generalize xv*yv=a0 at*;have bE:ov+a0<=5000:=Oa;generalize ov+a0=sm at*;generalize sm%P=bG at*;go_wp2;go_region;go_wp2;go_roundw
     case rel=>exact⟨k+1,by omega,by go_num,C.out⟩
     case measure=>exact gQ
    ·obtain rfl:K=k:=(by omega);have B:=gb (a7.out wr c (X j) H.out ao.out);rw[<-a8.out]at B;unfold Ec at B;have ak:=aa.out (j+1);have e:=vd a l n g c;have r1:=a.range;have r2:=l.range;have i1:(prog.info? 168).map (·.size)=some (pv (X j)).length:=(by rw[jS,H.out];kernel_rfl);have i2:(prog.info? 172).map (·.size)=some 4:=Ob;have br:b<wr.heap.size:=a.lt;clear a l n g c aY
     go_wp2_with (first
      |(refine ii rfl 168 _ rfl o 0 rfl (pv (X j)) _ r2 underlying168 rfl i1 ?_)
      |(refine ii rfl 172 _ rfl b 0 rfl [.int .i64 (P:Int),.int .i64 (K:Int),.slice t q f,.int .i64 (Q:Int)] _ r1 underlying172 rfl i2 ?_))
     refine B.out.mono ?_;rintro _ T ⟨rfl,v⟩;obtain⟨a,l,n,g,c⟩:=e.out;have ae:=a.below v;have ac:=l.below v;have az:=n.below v;have aD:=g.below v;have aI:=c.trans (v.mono Oa);have t1:=ac.there;rw[jS,H.out]at t1;have M:=iu (b:=o) (pv (X (j+1))) 0 T;have aT:=hU.setCells (pv (X (j+1))) [] (pv (X j)) T ac (by rw[jS,jS,ak,H.out]);have bs:=ae.lt;have C:=vd (ae.kept M (λh=>by simp_all)) aT (az.kept M (λh=>bh (gG h).symm)) (aD.kept M (λh=>by simp_all)) (aI.grown M Oa (λN h=>by cases h;omega));have t2:T.there o 0 (pv (X (j+1))).toArray.size:=by
      rw[show(pv (X (j+1))).toArray.size=7 from jT.trans ((jS _).trans ak)];exact t1
     have i3:(prog.info? 168).map (·.size)=some (pv (X (j+1))).toArray.size:=(by rw[show(pv (X (j+1))).toArray.size=(pv (X (j+1))).length from jT,jS,ak];kernel_rfl);clear a l n g c ae ac az aD aI t1 M aT e B;go_wp2_with (refine iA rfl 168 _ _ rfl o 0 (pv (X (j+1))).toArray rfl rfl t2 i3 (vl (X (j+1))) ?_);go_roundw
     case rel=>exact⟨j+1,by omega,by go_num,C.out.1,C.out.2.1,C.out.2.2.1,by rw[am.out];exact C.out.2.2.2.1,C.out.2.2.2.2⟩
     case measure=>exact gQ
  ·obtain rfl:K=j:=(by omega);have aP:=W.out K;have HB:=gb c;have bF:=a.lt;have r1:=a.range;have r2:=g.range;have i1:(prog.info? 168).map (·.size)=some (pv (O K)).length:=(by rw[jS,aP];kernel_rfl);have i2:(prog.info? 172).map (·.size)=some 4:=Ob;have B:=gb (XJ P K Q (.slice t q f) (O K) wr bj L ad hK aB hq aP (Z.out K));have a3:=gd (Calls prog 238 #[.agg #[.int .i64 (P:Int),.int .i64 (K:Int),.slice t q f,.int .i64 (Q:Int)],.agg (pv (O K)).toArray] wr λh S=>h= .returned (.int .i64 (uE P K low x y))/\gm wr S) (by rw[bc.out];exact B.out);clear B l n a g c;generalize pv (O K)=a9 at*
   go_wp2_with (first
    |(refine ii rfl 168 _ rfl I 0 rfl a9 _ r2 underlying168 rfl i1 ?_)
    |(refine ii rfl 172 _ rfl b 0 rfl [.int .i64 (P:Int),.int .i64 (K:Int),.slice t q f,.int .i64 (Q:Int)] _ r1 underlying172 rfl i2 ?_))
   refine a3.out.mono ?_;rintro _ T ⟨rfl,v⟩;have a1:=gb (HB.out.trans (v.mono Oa));go_wp2;go_ret;exact⟨rfl,by rw[gm,a2.out];exact a1.out⟩
structure FOk(P K n:Nat):Prop where
 pr:(P:Int)∈vF
 p2:2<=P
 p61:P<=61
 k1:1<=K
 k6:K<=6
 q64:P^K<=64
 nq:n<P^K
 ord:jp P K=P^K
 ir:yp P K (jo P n 7)=true
theorem ak6{p k:Int}{low:gP}(h:th p k low=0):∃P K n:Nat,p=(P:Int)/\k=(K:Int)/\low=nZ (jo P n K)/\FOk P K n:=by
 have t:=aa5 h;obtain⟨P,K,rfl,rfl,s,q,r,g,j,v,o⟩:=lU t;have l:low.length=K:=by
  refine gx λw=> ?_
  grind [L8]
 have e:∀i,i<low.length->pg P (low[i]?.getD 0)=false:=λi x=>by
  grind [L9]
 have f:=ad2 e;have a:=RQ (P:=P) Oa e;have b:(pD low).length=K:=by rw[pD,gv,l]
 have c:=TF a;rw[b]at c;have d:=qf _ a;rw[b]at d;refine⟨P,K,lJ P (pD low),rfl,rfl,by rw[c,f],s,q,r,g,j,v,d,o,?_⟩
 grind [aa3]
theorem FOk.fa{P K n:Nat}(h:FOk P K n):th P K (nZ (jo P n K))=0:=by
 have a:jp (P:Int) (K:Int)≠0:=by
  rw[h.ord];have:=h.nq;exact Oa
 rw[aa3 a (by rw[h.ord];exact h.nq),gl h.ir]
theorem ahX{p k:Int}{low es:gP}(h:x2 p k low es=0):th p k low=0/\∀x∈es,0<=x/\x<jp p k:=by
 by_cases a:th p k low=0
 ·refine⟨a,λx c=> ?_⟩;rw[x2,gl a]at h;by_cases b:es.any (pg (jp p k))=true
  ·grind
  grind [pg]
 grind [aed]
theorem OI.lit2(B:Nat)(w:World)(x y:Int)(a:B<=w.heap.size):OI B (w.alloc (.cells #[.int .i64 x,.int .i64 y] 3)) (.slice (some ⟨w.heap.size,0,none⟩) 2 2) [x,y]:=Ow.lit 3 B w #[.int .i64 x,.int .i64 y] 2 a rfl Oc
theorem Wf(P:Nat)(v:Value)(l:gA)(w:World)(A:Sl w v (nZ l))(hP:2<=P)(Q:P<=64)(W:l.length<=20)(X:P^l.length<=64)(e:∀j,l.getD j 0<P):
 Calls prog 146 #[v,.int .i64 P] w λM w'=>M= .returned (.int .i64 (lJ P l))/\gm w w':=by
 have k:=gb (λi (b:i<l.length)=>IG (P:=P) (l:=l) (i:=i) b);have n:=gd (lJ P (l.drop l.length)=0) (by rw[wV Oa];rfl);have E:=gd (lJ P (l.drop 0)=lJ P l) rfl;have H:=gb e
 have d:=gd (∀i,i<=l.length->lJ P (l.drop i)<=64) (λi b=>by
  have h1:=qf (l.drop i) (wg e i);have h2:P^(l.drop i).length<=P^l.length:=gN Oa (by grind)
  exact Oa)
 obtain⟨f,y⟩:∃f:Nat->Nat,f=λi=>lJ P (l.drop i):=⟨_,rfl⟩;have a:=gd (∀i,lJ P (l.drop i)=f i) (λi=>by rw[y]);obtain⟨aa,ab,N,rfl,O,ad,z⟩:=A.open;have q:N=l.length:=by rw[<-O.out,kO]
 rw[<-q]at k n d W;have G:=gd (∀j,(nZ l)[j]?.getD 0=((l.getD j 0:Nat):Int)) (λj=>by rw[<-mJ,gc]);have F:=gb (f0 w.heap.size w);have I:=gb z;generalize lJ P l=R at*;clear y X q A e z;go_enter func146,ntmps146;go_wp2;go_loopw [5,6] (λm i wr=>∃j:Nat,j<=N/\i= .int .i64 ((j:Int)-1)/\m= .int .i64 (f j:Nat)/\gm w wr) (λ_ i _=>(intOf i+1).toNat)
 case atStart=>exact⟨N,fZ _,rfl,by rw[<-a.out,n.out];rfl,F.out⟩
 case round=>
  obtain⟨j,U,rfl,rfl,c⟩:=hrel;have o:=gb c;by_cases ae:1<=j
  ·have ac:(0:Int)<=j-1:=(by omega);have x:=k.out (j-1) Oa;rw[show j-1+1=j by omega,a.out,a.out]at x;obtain⟨L,Z,rfl,S,s⟩:=I.out Oa;have t:=(c.cell (p:=⟨L,Z+(j-1),none⟩) S).trans (s (j-1) Oa);rw[G.out]at t;have Y:=H.out (j-1);have r:=d.out j U;rw[a.out]at r;have g:=d.out (j-1) Oa;rw[a.out]at g;have B:(j:Int)-1=((j-1:Nat):Int):=Oa;have n1:(f j:Int)*P=((P*f j:Nat):Int):=(by grind);have hm:P*f j<=4096:=gE Q r;have C:((P*f j:Nat):Int)+((l.getD (j-1) 0:Nat):Int)=((f (j-1):Nat):Int):=Oa;have V:((j-1:Nat):Int)<N:=Oa;clear c x s;rw[B];obtain⟨i,b⟩:∃i,i=j-1:=⟨_,rfl⟩;rw[<-b]at B C V Y g t⊢;have T:j=i+1:=Oa;clear b;subst T;generalize P*f (i+1)=pf at*;generalize f (i+1)=af at*;obtain⟨D,h⟩:∃D,D=f i:=⟨_,rfl⟩;rw[<-h]at C g;have K:=gb h;clear h;generalize l.getD i 0=av at*;go_wp2;go_roundw
   case rel=>exact⟨i,by omega,by go_num,by rw[K.out],o.out⟩
   case measure=>exact gQ
  ·obtain rfl:j=0:=(by omega);have J:=gd (f 0=R) (by rw[<-a.out];exact E.out);clear c;go_wp2;go_ret;exact⟨by rw[<-J.out];rfl,o.out⟩
theorem ZO(p k:Int)(u:Value)(low:gP)(w:World)(i:ja p)(h:ja k)(a:Sl w u low):
 Calls prog 144 #[kq p k u] w λe j=>e= .returned (.int .i64 (jp p k))/\gm w j:=by
 have c:=gb (λl=>qw p k l i h);obtain⟨d,f,g⟩:=a.len;subst g;have b:=gb ((f0 w.heap.size w).alloc (fZ _) (.cells #[.int .i64 p,.int .i64 k,.slice d low.length f] 60));generalize low.length=L at*;clear a;unfold kq;go_enter func144,ntmps144;go_wp2_with fail;refine(c.out _).mono ?_;rintro e n ⟨rfl,rfl⟩;go_wp2;go_ret;exact⟨rfl,b.out⟩
theorem ah8(p k x:Int)(u:Value)(low:gP)(w:World)(r:ja p)(q:ja k)(v:ja x)(c:Sl w u low):
 Calls prog 57 #[kq p k u,.int .i64 x] w λe s=>e= .returned (.bool (!(pg (jp p k) x)))/\gm w s:=by
 have g:=gb (λ(f:World)(n:gm w f)=>ZO p k u low f r q (c.below n));obtain⟨h,i,j⟩:=c.len;subst j;have a:=gb ((f0 w.heap.size w).alloc (fZ _) (.cells #[.int .i64 p,.int .i64 k,.slice h low.length i] 60));generalize low.length=L at*;clear c;unfold kq at*;unfold pg;generalize jp p k=Q at*;go_enter func57,ntmps57;go_wp2_with fail;refine(g.out _ a.out).mono ?_;rintro e y ⟨rfl,o⟩;have b:=gb (a.out.trans (o.mono a.out.size));by_cases l:x<0
 ·go_wp2;go_ret;exact⟨by simp,b.out⟩
 ·have t:(0:Int)<=x:=(by omega);by_cases d:x<(Q:Int)
  ·go_wp2;go_ret;exact⟨by simp[l,d],b.out⟩
  ·go_wp2;go_ret;exact⟨by simp[d],b.out⟩
theorem aaF{P:Nat}(a:2<=P)(n m:Nat):∀j,(jo P n m).getD j 0<P:=ph a m
def JR(P t i:Nat)(b:gA)(o:gA):Nat->gA
 |0=>o
 |j+1=>(JR P t i b o j).set (i+j) (((JR P t i b o j).getD (i+j) 0+t*b.getD j 0)%P)
def C6(P K:Nat)(a b:gA):Nat->gA
 |0=>List.replicate (2*K) 0
 |i+1=>JR P (a.getD i 0) i b (C6 P K a b i) K
theorem rZ(P t i:Nat)(b o:gA):∀j,(JR P t i b o j).length=o.length
 |0=>rfl
 |j+1=>by rw[JR,jY,rZ P t i b o j]
theorem NU{P t i:Nat}{b o:gA}(h:∀j,o.getD j 0<P):∀m j,(JR P t i b o m).getD j 0<P
 |0=>h
 |m+1=>lQ (NU h m) (iD _ Ds)
theorem pA(P K:Nat)(a b:gA):∀i,(C6 P K a b i).length=2*K
 |0=>by simp[C6]
 |i+1=>by rw[C6,rZ,pA P K a b i]
theorem vi{P K:Nat}(a b:gA)(c:1<=P):∀i j,(C6 P K a b i).getD j 0<P
 |0=>λj=>adj c _ j
 |i+1=>NU (vi a b c i) _
theorem Lf(P K:Nat)(a b:gA)(v u:Value)(w:World)(hv:Sl w v (nZ a))(hu:Sl w u (nZ b))(hP:2<=P)(aG:P<=64)(hK:1<=K)(aF:K<=6)(Q:a.length=K)(J:b.length=K)(R:∀j,a.getD j 0<P)(T:∀j,b.getD j 0<P):
 Calls prog 145 #[v,u,.int .i64 P] w λaq w'=>(∃z,aq= .returned z/\OI w.heap.size w' z (nZ (C6 P K a b K)))/\gm w w':=by
 have E:=gb (pA P K a b);have H:=gb (λi j=>vi (P:=P) (K:=K) a b Oa i j);have D:=gd (nZ (C6 P K a b 0)=(List.replicate (2*K) 0).map λaD:Nat=>(aD:Int)) rfl;have F:=gd (∀i,C6 P K a b (i+1)=JR P (a.getD i 0) i b (C6 P K a b i) K) λi=>rfl;have am:=gb (λt i (o:gA) j=>rZ P t i b o j);have ao:=gb (λt i (o:gA) (h:∀j,o.getD j 0<P) m j=>NU (t:=t) (i:=i) (b:=b) h m j);have ak:=gd (∀t i (o:gA),JR P t i b o 0=o) λt i o=>rfl;have an:=gd (∀t i (o:gA) j,JR P t i b o (j+1)=(JR P t i b o j).set (i+j) (((JR P t i b o j).getD (i+j) 0+t*b.getD j 0)%P)) λt i o j=>rfl;have af:=gb R;have ag:=gb T;obtain⟨O,M⟩:∃O,O=C6 P K a b:=⟨_,rfl⟩;rw[<-M]at E H D F⊢;clear M R T;obtain⟨k,aE,N,rfl,hN,aJ,aa⟩:=hv.open;obtain rfl:N=K:=by rw[<-hN.out,kO];exact Q
 obtain⟨bv,bc,c,rfl,ar,aK,ab⟩:=hu.open;obtain rfl:c=N:=by rw[<-ar.out,kO];exact J
 obtain⟨l,x,rfl,av,U⟩:=aa Oa;obtain⟨n,y,rfl,aw,V⟩:=ab Oa;have ah:=gd (∀i,i<c->w.cell? ⟨l,x+i,none⟩=some (.int .i64 ((a.getD i 0:Nat):Int))) (λi s=>by rw[U i s,<-mJ,gc]);have aj:=gd (∀i,i<c->w.cell? ⟨n,y+i,none⟩=some (.int .i64 ((b.getD i 0:Nat):Int))) (λi s=>by rw[V i s,<-mJ,gc]);have ax:=gd ((c:Int)+c=((2*c:Nat):Int)) Oa;clear U V aa ab hv hu Q J;go_enter func145,ntmps145;go_wp2_with (at_make;refine nQ (w:=w) _ _ 45 3 (.int .i64 0) 8 rfl rfl underlying45 info3 rfl Oc w.heap.size _ (2*c) rfl rfl ax.out Oa (fZ _) ?_;intro w3 ad Y aB);have ac:OI w.heap.size w3 (.slice (some ⟨w.heap.size,0,none⟩) (2*c) (2*c)) (nZ (O 0)):=by
  unfold OI;rw[D.out,sM,sM];exact ad
 have S:gm w w3:=(f0 _ _).grown Y (fZ _) (λaC h=>by cases h);have f:=gR ac S;clear ad Y aB ac S;go_loopw [8,9] (λi _ wr=>∃m:Nat,m<=c/\i= .int .i64 m/\OI w.heap.size wr (.slice (some ⟨w.heap.size,0,none⟩) (2*c) (2*c)) (nZ (O m))/\gm w wr) (λi _ _=>c-(intOf i).toNat)
 case atStart=>exact⟨0,ge _,rfl,f.out.1,f.out.2⟩
 case round=>
  clear f;obtain⟨m,hm,rfl,ho,J⟩:=hrel;by_cases aA:m<c
  ·have aM:(m:Int)<c:=(by omega);have q:=ak.out (a.getD m 0) m (O m);have A:=gb (λj=>(am.out (a.getD m 0) m (O m) j).trans (E.out m));have C:=gb (ao.out (a.getD m 0) m (O m) (H.out m));have B:=gb (an.out (a.getD m 0) m (O m));have G:=gb (F.out m);have ht:=af.out m;have d:=ah.out m aA;obtain⟨I,L⟩:∃I,I=JR P (a.getD m 0) m b (O m):=⟨_,rfl⟩;rw[<-L]at q A C B G;have al:=gb q;have g:=gR ho J;clear ho J L q;generalize a.getD m 0=t at*;have ai:=gb d;clear d;go_wp2;go_loopw [9] (λi wr=>∃j:Nat,j<=c/\i= .int .i64 j/\OI w.heap.size wr (.slice (some ⟨w.heap.size,0,none⟩) (2*c) (2*c)) (nZ (I j))/\gm w wr) (λi _=>c-(intOf i).toNat)
   case atStart=>exact⟨0,ge _,rfl,by rw[al.out];exact g.out.1,g.out.2⟩
   case round=>
    clear g;obtain⟨j,hj,rfl,ho,J⟩:=hrel;by_cases ay:j<c
    ·have aI:(j:Int)<c:=(by omega);have az:=A.out j;have Z:=B.out j;have r:=ho.cell (m+j) (by grind [kO]);rw[mJ]at r;have X:=ho.frozen (m+j);have d:=(J.cell (p:=⟨l,x+m,none⟩) av).trans ai.out;have W:=(J.cell (p:=⟨n,y+j,none⟩) aw).trans (aj.out j ay);have e:=OI.stored (w:=wr.drew) ho (m+j) ((((I j).getD (m+j) 0+t*b.getD j 0)%P:Nat):Int);rw[AW,<-Z]at e;have aN:=C.out j (m+j);have aO:=ag.out j;have aL:t*b.getD j 0<=4096:=gE (show t<=64 by omega) (show _<=64 by omega);have HX:=gR e.1 ((J.drew).grown e.2 J.size (λaC h=>by grind));have n2:(t:Int)*((b.getD j 0:Nat):Int)=((t*b.getD j 0:Nat):Int):=(gI _ _).symm;have n3:(((I j).getD (m+j) 0:Nat):Int)+((t*b.getD j 0:Nat):Int)=(((I j).getD (m+j) 0+t*b.getD j 0:Nat):Int):=Oa;have n4:(((I j).getD (m+j) 0+t*b.getD j 0:Nat):Int).tmod (P:Int)=((((I j).getD (m+j) 0+t*b.getD j 0)%P:Nat):Int):=(gO _ _).symm;have n5:(m:Int)+j=((m+j:Nat):Int):=Oa;have aH:((m+j:Nat):Int)<((2*c:Nat):Int):=Oa;have d:wr.drew.cell? ⟨l,x+m,none⟩=_:=d;have W:wr.drew.cell? ⟨n,y+j,none⟩=_:=W;have r:wr.drew.cell? ⟨w.heap.size,m+j,none⟩=_:=r;have X:wr.drew.frozen? ⟨w.heap.size,m+j,none⟩=false:=X;clear ho J e Z az;generalize (I j).getD (m+j) 0=k at*;generalize b.getD j 0=ap at*;generalize au:m+j=at' at*;clear au;generalize t*ap=ae at*;have aP:k+ae<=5000:=Oa;generalize k+ae=sm at*;generalize sm%P=z at*;exact SC
    ·obtain rfl:c=j:=(by omega);have HX:=gR ho J;clear ho J;go_wp2;go_roundw
     case rel=>exact⟨m+1,by omega,by go_num,by rw[G.out];exact HX.out.1,HX.out.2⟩
     case measure=>exact gQ
  ·obtain rfl:c=m:=(by omega);exact PI
def sH(P K:Nat)(low:gA)(x y:Nat):Nat:=lJ P ((zA P K (2*K-1) low (C6 P K (jo P x K) (jo P y K) K) K).take K)
theorem ago(l:gA)(k:Nat):(nZ l).take k=nZ (l.take k):=by simp[nZ,List.map_take]
theorem ZQ(P K x y:Nat)(u:Value)(low:gA)(w:World)(hu:Sl w u (nZ low))(G:2<=P)(au:P<=64)(hK:1<=K)(a9:K<=6)(hq:P^K<=64)(aI:low.length=K)(aH:∀j,low.getD j 0<P)(hx:x<64)(hy:y<64):
 Calls prog 58 #[kq P K u,.int .i64 x,.int .i64 y] w λE w'=>E= .returned (.int .i64 (sH P K low x y))/\gm w w':=by
 have ai:=gb (λk=>tN P x K k Oa Oa Oa Oa);have aj:=gb (λk=>tN P y K k Oa Oa Oa Oa);have aB:=aaF G x K;have aC:=aaF G y K;have ab:=kg P x K;have ac:=kg P y K;have R:=pA P K (jo P x K) (jo P y K) K;have ag:=vi (P:=P) (K:=K) (jo P x K) (jo P y K) Oa K;have V:=gb (λ(k:World)(v1 v2:Value)(bi:Sl k v1 (nZ (jo P x K)))(bj:Sl k v2 (nZ (jo P y K)))=>Lf P K (jo P x K) (jo P y K) v1 v2 k bi bj G au hK a9 ab ac aB aC);have W:=gd (sH P K low x y=lJ P ((zA P K (2*K-1) low (C6 P K (jo P x K) (jo P y K) K) K).take K)) rfl;obtain⟨r,ax⟩:∃a8,a8=C6 P K (jo P x K) (jo P y K) K:=⟨_,rfl⟩;rw[<-ax]at V W R ag;have T:=gb (λs=>(mM P K (2*K-1) low r s).trans R);have U:=gb (λs j=>vm (n:=K) (k:=2*K-1) (d:=low) ag s j);have al:=gd (zA P K (2*K-1) low r 0=r) rfl;have am:=gd (∀s,zA P K (2*K-1) low r (s+1)=BG P ((zA P K (2*K-1) low r s).getD (2*K-1-s) 0) (2*K-1-s-K) low ((zA P K (2*K-1) low r s).set (2*K-1-s) 0) K) λs=>rfl;have aX:=gb (λt g (x:gA) i=>qG P t g low x i);have a1:=gb (λt g (x:gA) (F:∀j,x.getD j 0<P) i j=>FI (c:=t) (base:=g) (d:=low) F i j);have aV:=gd (∀t g (x:gA),BG P t g low x 0=x) λt g x=>rfl;have aZ:=gd (∀t g (x:gA) i,BG P t g low x (i+1)=(BG P t g low x i).set (g+i) (rN P ((BG P t g low x i).getD (g+i) 0) t (low.getD i 0))) λt g x i=>rfl;have aU:=gb aH;have a6:=gb (λah X D=>Vw (P:=P) (r:=ah) (c:=X) (d:=D) Oa);have a7:=gb (λx=>VP x (P:=P) Oa);have ak:=gd (r.length=2*K) R;have a3:=gd ((jo P x K).length=K) ab;have a4:=gd ((jo P y K).length=K) ac;obtain⟨O,hO⟩:∃O,O=zA P K (2*K-1) low r:=⟨_,rfl⟩;rw[<-hO]at T U al am W;generalize jo P x K=D1 at*;generalize jo P y K=D2 at*;clear hO aB aC ab ac R ag ax aH;obtain⟨la,B,N,rfl,hN,bx,aK⟩:=hu.open;obtain rfl:N=K:=by rw[<-hN.out,kO];exact aI
 obtain⟨bL,v,rfl,bd,ay⟩:=aK Oa;have aT:=gd (∀i,i<N->w.cell? ⟨bL,v+i,none⟩=some (.int .i64 ((low.getD i 0:Nat):Int))) (λi hi=>by rw[ay i hi,<-mJ,gc]);clear ay aK hu aI;have c:hU (w.alloc (.cells #[.int .i64 (P:Int),.int .i64 (N:Int),.slice (some ⟨bL,v,none⟩) N B] 60)) w.heap.size 60 [.int .i64 (P:Int),.int .i64 (N:Int),.slice (some ⟨bL,v,none⟩) N B]:=hU.new _ _ _;have e:=((f0 w.heap.size w).alloc (fZ _) (.cells #[.int .i64 (P:Int),.int .i64 (N:Int),.slice (some ⟨bL,v,none⟩) N B] 60));have l:=gR c e;clear c e;unfold kq;go_enter func58,ntmps58;go_wp2_with fail;refine(ai.out _).mono ?_;rintro _ w2 ⟨⟨u1,rfl,aL⟩,Y⟩;have ap:=l.out.2.trans (Y.mono l.out.2.size);have H:=l.out.1.below Y;have aM:OI 0 w2 u1 (nZ D1):=aL.mono Oa;have A:=ju aM H ap;have f:=H.cell 0;have h:=H.cell 1;simp only[gW,ij]at f h;clear aL aM Y H ap l ai;go_wp2_with fail;refine(aj.out _).mono ?_;rintro _ w3 ⟨⟨u2,rfl,aN⟩,L⟩;have aO:OI 0 w3 u2 (nZ D2):=OI.mono aN Oa;have J:=A.out.2.1.below L;have aq:=A.out.2.2.trans (L.mono A.out.2.2.size);have aP:=(A.out.1.below L).sl (by rw[kO,a3.out];omega);have aQ:=aO.sl (by rw[kO,a4.out];omega);have an:=gb (V.out w3 u1 u2 aP aQ);have z:=gR J aq;clear f h;have f:=J.cell 0;have h:=J.cell 1;simp only[gW,ij]at f h;clear aN aO L A aj aP aQ J aq V;go_wp2_with fail;refine an.out.mono ?_;rintro _ w4 ⟨⟨bH,rfl,b⟩,Z⟩;obtain⟨o,c9,e9,bq,br⟩:=b.form (by rw[kO,ak.out];omega);rw[kO,ak.out]at e9;subst e9;have aw:=z.out.1.below Z;have ar:=z.out.2.trans (Z.mono z.out.2.size);have bs:w.heap.size<o:=by have:=z.out.1.lt;omega
 have C:=ju (b.mono (show w.heap.size<=_ by have:=z.out.2.size;omega)) aw ar;have bp:=gd (((2*N:Nat):Int)-1=((2*N-1:Nat):Int)) Oa;clear f h b Z aw ar an z;go_wp2_with fail;go_loopw [10,11,12,13] (λx _ _ _ wr=>∃s a:Nat,s+a=2*N-1/\N<=a+1/\x= .int .i64 a/\OI w.heap.size wr (.slice (some ⟨o,0,none⟩) (2*N) c9) (nZ (O s))/\hU wr w.heap.size 60 [.int .i64 (P:Int),.int .i64 (N:Int),.slice (some ⟨bL,v,none⟩) N B]/\gm w wr) (λx _ _ _ _=>(intOf x).toNat)
 case atStart=>exact⟨0,2*N-1,by omega,by omega,by grind,by rw[al.out];exact C.out.1,C.out.2.1,C.out.2.2⟩
 case round=>
  clear C;obtain⟨s,a,bB,bD,rfl,b,c,e⟩:=hrel;have h:=c.cell 1;simp only[gW,ij]at h;by_cases bt:N<=a
  ·have bg:2*N-1-s=a:=(by omega);have ae:=am.out s;rw[bg]at ae;have aG:=T.out s;have ad:=U.out s;have bE:=ad a;have aA:=b.cell a (by grind [kO]);rw[mJ]at aA;have M:=b.frozen a;have q:=b.stored a ((0:Nat):Int);rw[AW]at q;have Q:OI w.heap.size (wr.setCell ⟨o,a,none⟩ (.int .i64 0)) (.slice (some ⟨o,0,none⟩) (2*N) c9) (nZ ((O s).set a 0))/\wr.grownBy (wr.setCell ⟨o,a,none⟩ (.int .i64 0)) (some o):=q;have l:=ju Q.1 (c.kept Q.2 (λE=>by grind)) (e.grown Q.2 e.size (λaR F=>by grind));have a5:=gb ae;have aD:=aV.out ((O s).getD a 0) (a-N) ((O s).set a 0);have aY:=gb (λi=>(aX.out ((O s).getD a 0) (a-N) ((O s).set a 0) i).trans (show((O s).set a 0).length=2*N by grind));have a2:=gb (a1.out ((O s).getD a 0) (a-N) ((O s).set a 0) (lQ ad Oa));have a0:=gb (aZ.out ((O s).getD a 0) (a-N) ((O s).set a 0));have bu:(N:Int)<=a:=Oa;have bG:(a:Int)<((2*N:Nat):Int):=Oa;have bC:(a:Int)-N=((a-N:Nat):Int):=Oa;have aW:=gb aD;clear b e ad ae aD q Q c;generalize hI:BG P ((O s).getD a 0) (a-N) low ((O s).set a 0)=I at*;clear hI;generalize (O s).getD a 0=t at*;generalize be:a-N=d at*;clear be;go_wp2;clear h M aA;go_loopw [12,13] (λi _ wq=>∃j:Nat,j<=N/\i= .int .i64 j/\OI w.heap.size wq (.slice (some ⟨o,0,none⟩) (2*N) c9) (nZ (I j))/\hU wq w.heap.size 60 [.int .i64 (P:Int),.int .i64 (N:Int),.slice (some ⟨bL,v,none⟩) N B]/\gm w wq) (λi _ _=>N-(intOf i).toNat)
   case atStart=>exact⟨0,by omega,rfl,by rw[aW.out];exact l.out.1,l.out.2.1,l.out.2.2⟩
   case round=>
    clear l;obtain⟨j,hj,rfl,b,c,e⟩:=hrel;have f:=c.cell 0;have h:=c.cell 1;have S:=c.cell 2;simp only[gW,ij]at f h S;by_cases bf:j<N
    ·have aF:=aY.out j;have aE:=a0.out j;have aa:=b.cell (d+j) (by rw[kO,aF];omega);rw[mJ]at aa;have M:=b.frozen (d+j);have az:=(e.cell (p:=⟨bL,v+j,none⟩) bd).trans (aT.out j bf);have q:=OI.stored (w:=wr.drew) b (d+j) ((rN P ((I j).getD (d+j) 0) t (low.getD j 0):Nat):Int);rw[AW,<-aE]at q;have bz:=a2.out j (d+j);have bA:=aU.out j;have hm:t*low.getD j 0<=4096:=gE (show t<=64 by omega) (show _<=64 by omega);have HX:=ju q.1 (hU.kept (w:=wr.drew) c q.2 (λE=>by simp_all)) ((e.drew).grown q.2 e.size (λaR F=>by cases F;omega));have n4:=a6.out ((I j).getD (d+j) 0) t (low.getD j 0);have n2:(t:Int)*((low.getD j 0:Nat):Int)=((t*low.getD j 0:Nat):Int):=(gI _ _).symm;have n6:=a7.out ((((I j).getD (d+j) 0:Nat):Int)-((t*low.getD j 0:Nat):Int));have n5:(d:Int)+j=((d+j:Nat):Int):=Oa;have bl:((d+j:Nat):Int)<((2*N:Nat):Int):=Oa;have bv:(j:Int)<N:=Oa;have az:wr.drew.cell? ⟨bL,v+j,none⟩=_:=az;have aa:wr.drew.cell? ⟨o,d+j,none⟩=_:=aa;have M:wr.drew.frozen? ⟨o,d+j,none⟩=false:=M;have d0:wr.drew.cell? ⟨w.heap.size,0,none⟩=_:=f;have d2:wr.drew.cell? ⟨w.heap.size,2,none⟩=_:=S;clear b e q aE aF c f S;generalize (I j).getD (d+j) 0=av at*;generalize low.getD j 0=ao at*;generalize rN P av t ao=ah at*;generalize ba:d+j=at' at*;clear ba;generalize t*ao=bk at*;generalize hx:((av:Int)-bk).tmod (P:Int)=x at*;exact Sk
    ·obtain rfl:N=j:=(by omega);have HX:=ju b c e;have bF:1<=a:=Oa;clear b e c f S;go_wp2;go_roundw
     case rel=>exact⟨s+1,a-1,by omega,by omega,by go_num,by rw[a5.out];exact HX.out.1,HX.out.2.1,HX.out.2.2⟩
     case measure=>exact gQ
  ·have hs:s=N:=(by omega);subst hs;have bw:¬(s:Int)<=a:=Oa;have aG:=T.out s;have HB:=gb e;have f:=c.cell 0;simp only[gW]at f;have bm:=b.cap;have bn:s<=c9:=Oa;have bo:(s:Int)<=c9:=Oa;have af:=b.take s Oa;rw[ago]at af;have aJ:=km (U.out s) s;have bh:((O s).take s).length=s:=(by grind);have HC:=gb (λ(k:World)(bb:gm wr k)=>Wf P _ ((O s).take s) k ((af.below bb).sl (by grind [kO])) G au Oa (by grind) aJ);rw[<-W.out]at HC;have aS:=gb (f0 wr.heap.size wr);have d0:wr.drew.cell? ⟨w.heap.size,0,none⟩=_:=f;have d1:wr.drew.cell? ⟨w.heap.size,1,none⟩=_:=h;clear b c e af aJ bh aG f;go_wp2;go_region_with ((go_at_call 146;refine(HC.out _ aS.out.drew).mono ?_;rintro E w5 ⟨rfl,bc⟩))
   all_goals
    go_wp2;go_ret;exact⟨rfl,HB.out.drew.trans (bc.mono HB.out.size)⟩
def Sm(P:Nat)(a b c:gA):Prop:=∀j,c.getD j 0=(a.getD j 0+b.getD j 0)%P
theorem tk(l:gA)(i j x:Nat):(l.set i x).getD j 0=if i=j/\i<l.length then x else l.getD j 0:=by
 grind
theorem Sm.set{P:Nat}{a b c:gA}(h:Sm P a b c)(e:a.length=c.length)(f:b.length=c.length){i x y z:Nat}(g:z=(x+y)%P):Sm P (a.set i x) (b.set i y) (c.set i z):=by
 intro j;rw[tk,tk,tk,e,f];by_cases d:i=j/\i<c.length
 ·grind
 ·rw[gh d,gh d,gh d,h j]
theorem XB{P a b:Nat}(h:∃m n,a+P*m=b+P*n):a%P=b%P:=by
 grind [Nat.add_mul_mod_self_left]
theorem wy{P a b c u d e:Nat}(f:c=(a+b)%P)(g:e%P=(u+d)%P):(c+e)%P=((a+u)%P+(b+d)%P)%P:=by
 rw[<-La,f,La,g,akt,<-La]
 grind
theorem AP{P x a b y:Nat}(h:b=(x+a)%P):(b*y)%P=(x*y+a*y)%P:=by
 rw[h,<-qS,uz,akt,<-uz]
theorem IC{P x y a b:Nat}(h:b=(y+a)%P):(x*b)%P=(x*y+x*a)%P:=by
 rw[h,<-yV,uz,akt,<-uz]
theorem Vd{P t a:Nat}(b:t<P)(c:a<P):(P-(t+a)%P)%P=((P-t)+(P-a))%P:=by
 by_cases h:t+a<P
 ·rw[ox h];exact XB ⟨1,0,by omega⟩
 ·have:(t+a)%P=t+a-P:=by rw[al3 Oa,ox Oa]
  grind
theorem Am{P K:Nat}{low a:gA}(b:K<=6)(j:Nat):(shT P K low a K).getD j 0=if j<K then shD P (a.getD (K-1) 0) (if 0<j then a.getD (j-1) 0 else 0) (low.getD j 0)else 0:=by
 by_cases h:j<7
 ·exact FQ h
 ·rw[gh Oa,gc,iO (by rw[uk];omega)];rfl
theorem Sm.shT{P K:Nat}{low a b c:gA}(h:Sm P a b c)(e:K<=6)(f:∀j,a.getD j 0<P)(g:∀j,b.getD j 0<P):Sm P (shT P K low a K) (shT P K low b K) (shT P K low c K):=by
 intro j;rw[Am e,Am e,Am e];by_cases d:j<K
 ·rw[gl d,gl d,gl d];unfold shD;refine wy ?_ ?_
  ·split
   ·exact h _
   ·exact On
  ·rw[h,<-qS,uz,Vd (f _) (g _),<-uz]
 ·rw[gh d,gh d,gh d];simp
theorem rb{P K:Nat}{a b:gA}(c:a.length=7)(j:Nat):(JL P a b K).getD j 0=if j<K/\j<7 then(a.getD j 0+b.getD j 0)%P else a.getD j 0:=by
 by_cases h:j<7
 ·rw[vJ h]
  grind
 ·rw[gh Oa,gc,iO (by rw[qx];omega),gc,iO Oa]
theorem Sm.mlX{P K:Nat}{low a b c:gA}(h:Sm P a b c)(e:K<=6)(d:1<=P)(f:∀j,a.getD j 0<P)(g:∀j,b.getD j 0<P):∀i,Sm P (mlX P K low a i) (mlX P K low b i) (mlX P K low c i)
 |0=>h
 |i+1=>(Sm.mlX h e d f g i).shT e (NP low d f i) (NP low d g i)
theorem Sm.rep(P n:Nat):Sm P (List.replicate n 0) (List.replicate n 0) (List.replicate n 0):=by
 intro j;have:(List.replicate n 0).getD j 0=0:=by
  grind
 rw[this];simp
theorem Sm.mlO1{P K:Nat}{low a b c:gA}(y:gA)(h:Sm P a b c)(d:K<=6)(e:1<=P)(f:∀j,a.getD j 0<P)(g:∀j,b.getD j 0<P):∀i,Sm P (Gl P K low a y i) (Gl P K low b y i) (Gl P K low c y i)
 |0=>Sm.rep P 7
 |i+1=>by
  have k:=Sm.mlO1 (low:=low) y h d e f g i;have l:=Sm.mlX (low:=low) h d e f g i;intro j;simp only[Gl];rw[rb (px _ _ _ _ _ _),rb (px _ _ _ _ _ _),rb (px _ _ _ _ _ _)];split
  ·rw[mE,mE,mE];exact wy (k j) (AP (l j))
  ·exact k j
theorem Sm.mlO2{P K:Nat}{low a b c:gA}(x:gA)(h:Sm P a b c):∀i,Sm P (Gl P K low x a i) (Gl P K low x b i) (Gl P K low x c i)
 |0=>Sm.rep P 7
 |i+1=>by
  have d:=Sm.mlO2 (low:=low) (K:=K) x h i;intro j;simp only[Gl];rw[rb (px _ _ _ _ _ _),rb (px _ _ _ _ _ _),rb (px _ _ _ _ _ _)];split
  ·rw[mE,mE,mE];exact wy (d j) (IC (h i))
  ·exact d j
theorem Sm.ofI{P i t n p:Nat}{b d e o c a:gA}(k:Sm P o c a)(f:o.length=a.length)(g:c.length=a.length)(h:∀j,(p*e.getD j 0)%P=(t*b.getD j 0+n*d.getD j 0)%P):∀j,Sm P (JR P t i b o j) (JR P n i d c j) (JR P p i e a j)
 |0=>k
 |j+1=>by
  have l:=Sm.ofI (i:=i) k f g h j;simp only[JR];exact l.set (by rw[rZ,rZ,f]) (by rw[rZ,rZ,g]) (wy (l _) (h j))
theorem Sm.ofO1{P K:Nat}{a c d:gA}(b:gA)(h:Sm P a c d):∀i,Sm P (C6 P K a b i) (C6 P K c b i) (C6 P K d b i)
 |0=>Sm.rep _ _
 |i+1=>(Sm.ofO1 b h i).ofI Da Da (λj=>AP (h i)) _
theorem Sm.ofO2{P K:Nat}{b c d:gA}(a:gA)(h:Sm P b c d):∀i,Sm P (C6 P K a b i) (C6 P K a c i) (C6 P K a d i)
 |0=>Sm.rep _ _
 |i+1=>(Sm.ofO2 a h i).ofI Da Da (λj=>IC (h j)) _
theorem Sm.orI{P c f g base:Nat}{d a e b:gA}(p:1<=P)(h:Sm P a e b)(i:a.length=b.length)(k:e.length=b.length)(l:g=(c+f)%P):∀j,Sm P (BG P c base d a j) (BG P f base d e j) (BG P g base d b j)
 |0=>h
 |j+1=>by
  have n:=Sm.orI (base:=base) (d:=d) p h i k l j;simp only[BG];refine n.set (by rw[qG,qG,i]) (by rw[qG,qG,k]) ?_;unfold rN;refine wy (n _) ?_;have o:g*d.getD j 0%P=(c*d.getD j 0%P+f*d.getD j 0%P)%P:=(by rw[AP l,La]);rw[o];exact Vd (iD _ Oa) (iD _ Oa)
theorem Sm.orO{P n k:Nat}{d a c b:gA}(g:1<=P)(h:Sm P a c b)(e:a.length=b.length)(f:c.length=b.length):∀s,Sm P (zA P n k d a s) (zA P n k d c s) (zA P n k d b s)
 |0=>h
 |s+1=>by
  have i:=Sm.orO (n:=n) (k:=k) (d:=d) g h e f s;simp only[zA];exact Sm.orI g (i.set (by rw[mM,mM,e]) (by rw[mM,mM,f]) On) (by rw[jY,jY,mM,mM,e]) (by rw[jY,jY,mM,mM,f]) (i _) _
section
theorem EW{P x K j:Nat}(a:1<=P)(c:x<P^K)(b:K<=j):dg P x j=0:=by
 unfold dg;rw[qu (gS c (gN a b)),Nat.zero_mod]
theorem EU{P x m:Nat}(j:Nat):(jo P x m).getD j 0=if j<m then dg P x j else 0:=by
 rw[gc,jo,gY]
 grind
theorem Ad{P x K m:Nat}(a:1<=P)(c:x<P^K)(b:K<=m)(j:Nat):(jo P x m).getD j 0=dg P x j:=by
 grind [EU,EW]
theorem FA{P:Nat}(a:1<=P):∀m n,n<P^m->lJ P (jo P n m)=n
 |0,n,h=>by simp at h;subst h;rfl
 |m+1,n,h=>by
  have e:jo P n (m+1)=dg P n 0::jo P (n/P) m:=by
   rw[jo,wW,jG,jL,jo]
   grind [List.map_congr_left,dg,Nat.mul_comm,Nat.div_div_eq_div_mul]
  rw[e,lJ,FA a m (n/P) (akr (by grind))];unfold dg;rw[Gf,Nat.div_one];exact Nat.mod_add_div n P
theorem EV{P K x y:Nat}(a:1<=P)(b:x<P^K)(c:y<P^K)(h:∀j,dg P x j=dg P y j):x=y:=by
 rw[<-FA a K x b,<-FA a K y c]
 grind [jo,List.map_congr_left]
theorem ahF{P:Nat}(a:1<=P)(x j:Nat):dg P x j<P:=iD _ Oa
section
variable {P K:Nat} (hP:2<=P) (hK6:K<=6)
include hP hK6
theorem Ta(x y:Nat):((JL P (jo P x 7) (jo P y 7) 7).take K).length=K/\∀j,((JL P (jo P x 7) (jo P y 7) 7).take K).getD j 0<P:=by
 refine⟨by rw[i8,qx];omega,km (ZR Oa (ph hP 7) _) K⟩
theorem vK(x y:Nat):mW P K x y<P^K:=by
 obtain⟨a,b⟩:=Ta hP hK6 x y;have:=qf _ b;rw[a]at this;exact this
theorem vV{x y:Nat}(b:x<P^K)(c:y<P^K)(j:Nat):dg P (mW P K x y) j=(dg P x j+dg P y j)%P:=by
 obtain⟨d,a⟩:=Ta hP hK6 x y;unfold mW;rw[uW _ a];by_cases h:j<K
 ·rw[gc,o9,gl h,<-gc,vJ Oa,gl Oa,EU,EU,gl Oa,gl Oa]
 ·rw[gc,o9,gh h,EW Oa b Oa,EW Oa c Oa];exact On
theorem akv{x y:Nat}(a:x<P^K)(b:y<P^K):mW P K x y=mW P K y x:=
 EV Oa (vK hP hK6 _ _) (vK hP hK6 _ _) λj=>by grind [vV]
theorem Wm{x:Nat}(a:x<P^K):mW P K x 0=x:=
 EV Oa (vK hP hK6 _ _) a λj=>by
  rw[vV hP hK6 a Oa,EX,kp,ox (ahF Oa _ _)]
theorem acM{a b c:gA}(h:Sm P a b c)(l:a.length=K)(n:b.length=K)(o:c.length=K)(d:∀j,a.getD j 0<P)(e:∀j,b.getD j 0<P)(f:∀j,c.getD j 0<P):mW P K (lJ P a) (lJ P b)=lJ P c:=by
 have g:=qf _ d;have i:=qf _ e;have k:=qf _ f;rw[l]at g;rw[n]at i;rw[o]at k;refine EV Oa (vK hP hK6 _ _) k λj=> ?_;rw[vV hP hK6 g i,uW _ d,uW _ e,uW _ f,h j]
theorem Sm.dig{x y m:Nat}(b:x<P^K)(c:y<P^K)(a:K<=m):Sm P (jo P x m) (jo P y m) (jo P (mW P K x y) m):=by
 intro j;rw[Ad Oa b a,Ad Oa c a,Ad Oa (vK hP hK6 _ _) a,vV hP hK6 b c]
omit hP hK6 in
theorem Sm.tak{a b c:gA}(h:Sm P a b c)(k:Nat):Sm P (a.take k) (b.take k) (c.take k):=by
 intro j;have e:∀l:gA,(l.take k).getD j 0=if j<k then l.getD j 0 else 0:=λl=>by
  grind
 rw[e,e,e];split
 ·exact h j
 ·exact On
theorem Fw(low:gA)(x y:Nat):uE P K low x y<P^K:=by
 have:=qf _ (km (xK (P:=P) (K:=K) low (jo P x 7) (jo P y 7) Oa K) K);rw[i8,px,show min K 7=K by omega]at this;exact this
theorem XE(low:gA){x y:Nat}(z:Nat)(a:x<P^K)(b:y<P^K):uE P K low (mW P K x y) z=mW P K (uE P K low x z) (uE P K low y z):=by
 have h:=Sm.mlO1 (low:=low) (K:=K) (jo P z 7) (Sm.dig hP hK6 a b (show K<=7 by omega)) hK6 Oa (ph hP 7) (ph hP 7) K;exact Pv
theorem XF(low:gA){x y:Nat}(z:Nat)(a:x<P^K)(b:y<P^K):uE P K low z (mW P K x y)=mW P K (uE P K low z x) (uE P K low z y):=by
 have h:=Sm.mlO2 (low:=low) (K:=K) (jo P z 7) (Sm.dig hP hK6 a b (show K<=7 by omega)) K;exact Pv
theorem aha(low:gA)(x y:Nat):sH P K low x y<P^K:=by
 have a:1<=P:=Oa;have b:∀j,((zA P K (2*K-1) low (C6 P K (jo P x K) (jo P y K) K) K).take K).getD j 0<P:=km (vm (vi _ _ a _) _) _;have:=qf _ b;rw[i8,mM,pA,show min K (2*K)=K by omega]at this;exact this
theorem YE(low:gA){x y:Nat}(z:Nat)(a:x<P^K)(b:y<P^K):sH P K low (mW P K x y) z=mW P K (sH P K low x z) (sH P K low y z):=by
 have h:=Sm.ofO1 (K:=K) (jo P z K) (Sm.dig hP hK6 a b (fZ K)) K;exact KX
theorem YF(low:gA){x y:Nat}(z:Nat)(a:x<P^K)(b:y<P^K):sH P K low z (mW P K x y)=mW P K (sH P K low z x) (sH P K low z y):=by
 have h:=Sm.ofO2 (K:=K) (jo P z K) (Sm.dig hP hK6 a b (fZ K)) K;exact KX
theorem sU{f:Nat->Nat}(c:∀x y,x<P^K->y<P^K->f (mW P K x y)=mW P K (f x) (f y))(b:f 0<P^K):f 0=0:=by
 have a:0<P^K:=Nat.pow_pos Oa;have h:=c 0 0 a a;rw[Wm hP hK6 a]at h;refine EV Oa b a λj=> ?_;have e:dg P (f 0) j=dg P (mW P K (f 0) (f 0)) j:=jA (λt=>dg P t j) h;rw[vV hP hK6 b b]at e;rw[EX];have i:=ahF (P:=P) Oa (f 0) j;generalize dg P (f 0) j=d at*;by_cases g:d+d<P
 ·grind [Nat.mod_eq_of_lt]
 ·rw[al3 Oa,ox Oa]at e;omega
end
def amn(P K:Nat):Bool:=(List.range (P^K)).all λx=>x==0||(List.range K).any λi=>Nat.ble (P^i) x&&mW P K (x-P^i) (P^i)==x
theorem afO:∀K,K<7->∀P,P<65->(!(Nat.ble 1 K&&Nat.ble 2 P&&Nat.ble (P^K) 64)||amn P K)=true:=OH
theorem afP{P K:Nat}(c:2<=P)(j:P<=64)(b:1<=K)(g:K<=6)(d:P^K<=64)(p:Nat->Prop)(f:p 0)(k:∀x i,x<P^K->i<K->p x->p (mW P K x (P^i))):∀x,x<P^K->p x:=by
 intro x
 induction x using Nat.strongRecOn with
 |_ x l=>
  intro e;by_cases h:x=0
  ·grind
  ·have a:=afO K Oa P Oa;rw[show Nat.ble 1 K=true from qn b,show Nat.ble 2 P=true from qn c,show Nat.ble (P^K) 64=true from qn d]at a;simp only[Bool.and_self,qJ,kS]at a;have:=gF.1 a x (gC.2 e)
   grind
theorem ajP{P K i:Nat}(a:2<=P)(hi:i<K):P^i<P^K:=kX Oa hi
theorem Va{P K:Nat}(b:2<=P)(d:P<=64)(c:1<=K)(a:K<=6)(n:P^K<=64){f g:Nat->Nat}(e:∀x y,x<P^K->y<P^K->f (mW P K x y)=mW P K (f x) (f y))(k:∀x y,x<P^K->y<P^K->g (mW P K x y)=mW P K (g x) (g y))(j:f 0<P^K)(l:g 0<P^K)(h:∀i,i<K->f (P^i)=g (P^i)):∀x,x<P^K->f x=g x:=by
 refine afP b d c a n (λx=>f x=g x) ?_ ?_
 ·rw[sU b a e j,sU b a k l]
 grind [ajP]
theorem ae0{P K:Nat}(l:2<=P)(n:P<=64)(e:1<=K)(k:K<=6)(q:P^K<=64){f g:Nat->Nat->Nat}(r:∀x y z,x<P^K->y<P^K->f (mW P K x y) z=mW P K (f x z) (f y z))(t:∀x y z,x<P^K->y<P^K->g (mW P K x y) z=mW P K (g x z) (g y z))(s:∀x y z,x<P^K->y<P^K->f z (mW P K x y)=mW P K (f z x) (f z y))(v:∀x y z,x<P^K->y<P^K->g z (mW P K x y)=mW P K (g z x) (g z y))(o:∀x y,f x y<P^K)(p:∀x y,g x y<P^K)(h:∀i j,i<K->j<K->f (P^i) (P^j)=g (P^i) (P^j)){x y:Nat}(B:x<P^K)(C:y<P^K):f x y=g x y:=by
 refine Va l n e k q (f:=λx=>f x y) (g:=λx=>g x y) (λa b c d=>r a b y c d) (λa b c d=>t a b y c d) (o _ _) (p _ _) (λi w=> ?_) x B;exact Va l n e k q (f:=λy=>f (P^i) y) (g:=λy=>g (P^i) y) (λa b c d=>s a b _ c d) (λa b c d=>v a b _ c d) (o _ _) (p _ _) (λj A=>h i j w A) y C
end
def AU(p k:Int)(low:gP)(x y:Int):Int:=if x2 p k low [x,y]=0 then(uE p.toNat k.toNat (pD low) x.toNat y.toNat:Nat)else 0
theorem aeL(p k x y:Int)(u:Value)(low:gP)(w:World)(O:ja p)(N:ja k)(ix:ja x)(iy:ja y)(q:SR w)(f:Sl w u low)(H:∀x∈low,ja x):
 Calls prog 104 #[kq p k u,.int .i64 x,.int .i64 y] w λj R=>j= .returned (.tuple #[.int .i64 (AU p k low x y),.int .i64 (x2 p k low [x,y])])/\gm w R:=by
 have l:=((f0 w.heap.size w).alloc (fZ _) (.cells #[.int .i64 p,.int .i64 k,u] 60)).alloc On (.cells #[.int .i64 x,.int .i64 y] 3);have B:=(OI.lit2 0 (w.alloc (.cells #[.int .i64 p,.int .i64 k,u] 60)) x y Oa).sl On;have a:=gb (aeg p k u _ low [x,y] _ O N (q.below l) (f.below l) H B (by grind));have e:=gb l;have M:(prog.info? 172).map (·.size)=some 4:=Ob;rw[iV]at a;clear l B;obtain⟨h,i,E⟩:=f.len;subst E;have W:low.length<=17592186044416:=by obtain⟨_,_,_,U,_⟩:=f.out;omega
 by_cases d:x2 p k low [x,y]=0
 ·obtain⟨A,o⟩:=ahX d;obtain⟨P,K,n,rfl,rfl,rfl,b⟩:=ak6 A;have r:=o x On;have s:=o y On;rw[b.ord]at r s;obtain⟨X,rfl⟩:=jW r.1;obtain⟨Y,rfl⟩:=jW s.1;have V:=b.q64;have I:X<64:=Oa;have J:Y<64:=Oa;rw[show AU (P:Int) (K:Int) (nZ (jo P n K)) X Y=(uE P K (jo P n K) X Y:Nat)by rw[AU,gl d,ad3];simp];rw[d]at a⊢;unfold opR Ec kq at a;rw[gl rfl]at a;have v:=gb (λ(C:World)(F:gm w C)=>ajE P K (jp (P:Int) (K:Int)) X Y (.slice h (nZ (jo P n K)).length i) (jo P n K) C (f.below F) b.p2 (by have:=b.p61;omega) b.k1 b.k6 b.q64 (kg _ _ _) (ph b.p2 _) I J);unfold Ec at v;clear r s o A d b f q;generalize (nZ (jo P n K)).length=L at*;generalize jp (P:Int) (K:Int)=Q at*;generalize uE P K (jo P n K) X Y=T at*;unfold kq;go_enter func104,ntmps104;go_wp2_with fail;refine a.out.mono ?_;rintro j t ⟨rfl,g⟩;have c:=e.out.trans (g.mono e.out.size);have z:=c.alloc c.size (.cells #[.int .i64 (P:Int),.int .i64 (K:Int),.slice h L i,.int .i64 (Q:Int)] 172);have r3:=(hU.new t 172 [.int .i64 (P:Int),.int .i64 (K:Int),.slice h L i,.int .i64 (Q:Int)]).range;have HB:=gb z;clear g c e a z;go_wp2_with (refine ii rfl 172 _ rfl t.heap.size 0 rfl [.int .i64 (P:Int),.int .i64 (K:Int),.slice h L i,.int .i64 (Q:Int)] _ r3 underlying172 rfl M ?_);refine(v.out _ HB.out).mono ?_;rintro j w4 ⟨rfl,G⟩;have D:=gb (HB.out.trans (G.mono HB.out.size));go_wp2;go_ret2;exact⟨rfl,D.out⟩
 ·rw[show AU p k low x y=0 from gh d];unfold opR rm0 Ec kq at a;rw[gh d]at a;have Z:(x2 p k low [x,y] !=0)=true:=(by grind);generalize x2 p k low [x,y]=S at*;generalize low.length=L at*;clear f q d;unfold kq;go_enter func104,ntmps104;go_wp2_with fail;refine a.out.mono ?_;rintro j t ⟨rfl,g⟩;have c:=e.out.trans (g.mono e.out.size);have HB:=gb (c.alloc c.size (.cells #[.int .i64 0,.int .i64 0,.slice none 0 0,.int .i64 0] 172));clear g c e a;exact My
def Cb(k:Nat)(l:gP):Bool:=decide (l.length≠k)
theorem abX(k:Nat)(u:Value)(l:gP)(b:Nat)(w:World)(c:Sl w u l)(j:k<=17592186044416)(i:w.cell? ⟨b,0,none⟩=some (.int .i64 k)):
 Calls prog 202 #[u,.pointer (some ⟨b,0,none⟩)] w λe d=>e= .returned (.bool (Cb k l))/\w=d:=by
 obtain⟨f,g,N,rfl,a,n,_⟩:=c.open;unfold Cb;rw[a.out];clear c a;by_cases h:N=k
 ·subst h;rw[gp (λh=>h rfl)];go_enter func202,ntmps202;exact Of
 ·have o:((N:Int) !=k)=true:=(by grind);rw[gy h];go_enter func202,ntmps202;exact Of
def V7(k:Nat)(ll:lO)(r:Int):Prop:=if ll.any (Cb k)=true then 0<=r else r= -1
theorem abZ(k:Nat)(v:Value)(ll:lO)(b:Nat)(w:World)(x:RL w v ll)(F:k<=17592186044416)(c:w.cell? ⟨b,0,none⟩=some (.int .i64 k)):
 Calls prog 252 #[v,.func (.func 202) #[] #[.pointer (some ⟨b,0,none⟩)]] w λe y=>(∃r:Int,e= .returned (.int .i64 r)/\V7 k ll r)/\w=y:=by
 obtain⟨J,L,N,rfl,hN,R,s⟩:=x.open;have o:=gb (λn I d=>abX k n I b w d F c);have P:∀q w,(callFunc 202 q).run prog w= .ok (.enter 202 q) w:=jI func202 Ob Ob
 have g:=gd (∀i:Nat,i<N->Cb k (ll.getD i [])=true->∀r:Int,0<=r->V7 k ll r) (by
  intro i hi a r G;unfold V7;rw[gl]
  ·exact G
  ·rw[iG];rw[gc,gn OZ]at a
   grind)
 have p:=gd ((∀i:Nat,i<N->Cb k (ll.getD i [])=false)->V7 k ll (-1)) (by
  intro C;unfold V7;rw[gh];rw[iG];rintro⟨T,H,a⟩;obtain⟨i,hi,rfl⟩:=je H;have:=C i DK
  grind)
 clear x hN c;go_enter func252,ntmps252;go_wp2;go_loop [8] (λl=>∃i:Nat,i<=N/\l= .int .i64 i/\Hid (∀j:Nat,j<i->Cb k (ll.getD j [])=false)) (λl=>N-(intOf l).toNat)
 case atStart=>exact⟨0,ge _,rfl,gb (λj E=>by omega)⟩
 case round=>
  obtain⟨i,hi,rfl,h⟩:=hrel;by_cases t:i<N
  ·have D:(i:Int)<N:=(by omega);obtain⟨O,S,rfl,Q,c⟩:=s Oa;obtain⟨n,c1,d⟩:=c i t;have z:=gb (o.out n _ d);have A:=gb (g.out i t);obtain⟨K,c2,M,rfl,_,_,_⟩:=d.open;clear c s d o g;go_wp2_with fail;refine z.out.mono ?_;rintro e y ⟨rfl,rfl⟩;cases a:Cb k (ll.getD i [])with
   |false=>
    have f:=gb a;clear a;go_wp2;go_round
    case rel=>exact⟨i+1,by omega,by go_num,gb (λj E=>by
     by_cases e:j=i
     ·rw[e];exact f.out
     ·exact h.out j Oa)⟩
    case measure=>exact gQ
   |true=>
    have f:=gb (A.out a);clear a;go_wp2;go_ret;exact⟨⟨_,rfl,f.out _ Oa⟩,rfl⟩
  ·obtain rfl:i=N:=(by omega);have D:¬(i:Int)<i:=Oa;have B:=gb (p.out h.out);clear p h g;go_wp2;go_ret;exact⟨⟨_,rfl,B.out⟩,rfl⟩
theorem Ip(k:Nat)(v:Value)(ll:lO)(b:Nat)(w:World)(c:RL w v ll)(f:k<=17592186044416)(a:w.cell? ⟨b,0,none⟩=some (.int .i64 k)):
 Calls prog 201 #[v,.func (.func 202) #[] #[.pointer (some ⟨b,0,none⟩)]] w λe d=>e= .returned (.bool (ll.any (Cb k)))/\w=d:=by
 have H:=gb (abZ k v ll b w c f a);clear c a;go_enter func201,ntmps201;go_wp2_with fail;refine H.out.mono ?_;rintro e d ⟨⟨ah,rfl,hr⟩,rfl⟩;unfold V7 at hr;cases hp:ll.any (Cb k)with
 |true=>
  exact Ug
 |false=>
  rw[hp]at hr;have b9:ah<0:=(by grind);have HP:=gb hp;clear hr hp;go_wp2;go_ret;have g:¬0<=ah:=Oa;exact⟨jA (λb=>Ending.returned (.bool b)) ((gp g).trans HP.out.symm),rfl⟩
def py(s:Nat):Value:= .int .u64 (s:Int)
theorem afV:(prog.info? 189).map (λi=>(i.zero,i.size,i.bytes))=some (some (.int .u64 0),1,8):=Ob
theorem ahd:prog.underlying 184=some (.slice 189):=Ob
theorem aaN{p:Nat}(h:p<40):IntKind.u64.wrap (2^p:Int)=((2^p:Nat):Int):=by
 have b:2^p<2^40:=kX Oc h;have a:((2^p:Nat):Int)=(2:Int)^p:=by norm_cast
 rw[<-a];rw[show 2^40=1099511627776 by decide]at b;clear a;generalize 2^p=y at*;exact IntWalk.u64_in _ Oa
theorem LX(P:Nat)(v:Value)(bs:kl)(w:World)(hP:P<=40)(hn:bs.length<=200)(Y:RL w v (bs.map jj))(c:∀b∈bs,∀x∈b,x<P):
 Calls prog 203 #[.agg #[.int .i64 P,v]] w λq w'=>(∃e,q= .returned e/\Ow 189 w.heap.size w' e (bs.map λb=>py (sD 0 b)))/\gm w w':=by
 have s:Below w.heap.size w (w.alloc (.cells #[.int .i64 P,v] 103)):=(f0 _ _).alloc (fZ _) _;have L:=LW w P v;have ac:=gb L;have Z:=Y.below s;have C:=gb s;obtain⟨n,o,N,rfl,hN,aI,O⟩:=Z.open;rw[gv]at hN
 have D:=gd (0<N->∃g a,n=some ⟨g,a,none⟩/\∀i,i<N->∃e,Sl (w.alloc (.cells #[.int .i64 P,.slice n N o] 103)) e (jj (bs.getD i []))/\∀wr,Below (w.heap.size+1) (w.alloc (.cells #[.int .i64 P,.slice n N o] 103)) wr->wr.cell? ⟨g,a+i,none⟩=some e) (λr=>by
  obtain⟨g,a,q1,q2,q3⟩:=O r
  exact⟨g,a,q1,λi hi=>by
   obtain⟨e,u1,u2⟩:=q3 i hi;rw[rQ]at u2
   exact⟨e,u2,λwr r=>(r.cell (p:=⟨g,a+i,none⟩) (by simpa using q2)).trans u1⟩⟩)
 have ak:=gd (∀i,i<N->∀x∈bs.getD i [],x<P) (λi hi=>c _ (CP OZ))
 have ai:=gd (∀i,i<N->(bs.take (i+1)).map (λb=>py (sD 0 b))=(bs.take i).map (λb=>py (sD 0 b))++[py (sD 0 (bs.getD i []))]) (λi hi=>by
  rw[jH,gn OZ,jf,gc,gn OZ]
  rfl)
 have af:=gd (∀i,i<=N->((bs.take i).map (λb=>py (sD 0 b))).length=i) (λi hi=>by
  rw[gv,i8];have:=hN.out
  exact Oa)
 have ah:=gd ((bs.take N).map (λb=>py (sD 0 b))=bs.map (λb=>py (sD 0 b))) (by rw[ie Kt]);have aC:N<=200:=by rw[<-hN.out];exact hn
 clear Y s c Z O hN L;obtain⟨h,k⟩:∃h,Hid (w.alloc (.cells #[.int .i64 P,.slice n N o] 103)=h):=⟨_,gb rfl⟩;have H:=gd (h.heap.size=w.heap.size+1) (by rw[<-k.out];simp);rw[k.out]at D C;clear ac;go_enter func203,ntmps203;go_wp2;rw[k.out];clear k;go_loopw [12,3] (λz ov wr=>∃i:Nat,i<=N/\z= .int .i64 i/\Ow 189 (w.heap.size+1) wr ov ((bs.take i).map (λb=>py (sD 0 b)))/\Below (w.heap.size+1) h wr) (λz _ _=>N-(intOf z).toNat)
 case atStart=>exact⟨0,ge _,rfl,Ow.nil _ _ _,f0 _ _⟩
 case round=>
  obtain⟨i,ar,rfl,d,c⟩:=hrel;by_cases hi:i<N
  ·have au:(i:Int)<N:=(by omega);obtain⟨g,a,rfl,I⟩:=D.out Oa;obtain⟨e,W,J⟩:=I i hi;have c1:=J wr c;have X:=W;obtain⟨a2,c2,M,rfl,hM,aJ,Q⟩:=X.open;rw[show(jj (bs.getD i [])).length=(bs.getD i []).length from jw _]at hM;have aj:=gb (ai.out i hi);have F:=gb (af.out i ar);have R:=ak.out i hi
   have ab:=gd (0<M->∃b a,a2=some ⟨b,a,none⟩/\∀j,j<M->wr.cell? ⟨b,a+j,none⟩=some (.int .i64 (((bs.getD i []).getD j 0:Nat):Int))) (λh0=>by
    obtain⟨b,a,e1,e2,e3⟩:=Q h0
    exact⟨b,a,e1,λi hi=>by
     rw[c.cell (p:=⟨b,a+i,none⟩) (by have:=H.out;grind),e3 i hi,<-mL,gc (l:=jj _)]⟩)
   have ag:=gd (∀j,j<M->(bs.getD i []).getD j 0<P) (λj hj=>R _ (by
    rw[gc (i:=j),gn Uc]
    grind))
   have ae:=gd (∀j,j<M->sD 0 ((bs.getD i []).take (j+1))=sD 0 ((bs.getD i []).take j)|||2^(bs.getD i []).getD j 0) (λj hj=>acB Uc)
   have E:=gd (∀j,sD 0 ((bs.getD i []).take j)<1099511627776) (λj=>acA (P:=40) Oc (λx hx=>by
    grind))
   have ad:=gd (sD 0 ((bs.getD i []).take M)=sD 0 (bs.getD i [])) (by rw[<-hM.out,vA]);have f:=gR d c;clear I J W X Q R hM d c;generalize bs.getD i []=l at*;obtain⟨V,hV⟩:∃V,V=wr:=⟨wr,rfl⟩;subst hV;go_wp2;go_loopw [18,6] (λA sv wr=>∃j:Nat,j<=M/\A= .int .i64 j/\sv=py (sD 0 (l.take j))/\Hid (wr=V)) (λA _ _=>M-(intOf A).toNat)
   case atStart=>exact⟨0,ge _,rfl,rfl,gb rfl⟩
   case round=>
    obtain⟨j,aH,rfl,rfl,HV⟩:=hrel;obtain rfl:=HV.out;by_cases hj:j<M
    ·have av:(j:Int)<M:=(by omega);obtain⟨b,aL,rfl,K⟩:=ab.out Oa;have d1:=K j hj;have hx:=ag.out j hj;have y:=ae.out j hj;have aD:=E.out j;have ap:=E.out (j+1);rw[y]at ap;generalize sD 0 (l.take j)=B at*;generalize l.getD j 0=x at*;have aK:=aaN (p:=x) Oa;have ao:2^x<2^40:=kX Oc Oa;rw[show 2^40=1099511627776 by decide]at ao;have ay:=u64_or_nat B (2^x) Oa Oa;have T:bits .or .u64 (B:Int) ((2:Int)^x)=((B|||2^x:Nat):Int):=by
      grind
     have am:=gb T;have an:=gb y;unfold py;clear K y ay T;go_wp2;go_roundw
     case rel=>exact⟨j+1,by omega,by go_num,by rw[an.out];first|exact jA (Value.int .u64) am.out|rfl,by grind⟩
     case measure=>exact gQ
    ·obtain rfl:j=M:=(by omega);have av:¬(j:Int)<j:=Oa;rw[ad.out];have S:=f.out.1;have t:=f.out.2;have ax:=F.out;have al:=gb S;have U:w.heap.size+1<=wr.heap.size:=(by have:=t.size;have:=H.out;omega);have aa:=gb t;clear S t;have d:=al.out;rw[<-F.out]at ax;have aw:((bs.take i).map (λb=>py (sD 0 b))).length<=1000000000000:=(by grind);have G:=aj.out;generalize (bs.take i).map (λb=>py (sD 0 b))=xs at*;obtain⟨aB,co,eo⟩:=Ow.len d;subst eo;unfold py;go_wp2_with (at_builtin;refine jt wr _ _ 184 189 (.int .u64 0) 8 rfl rfl ahd afV rfl Oc (w.heap.size+1) _ xs rfl d rfl rfl aw U ?_;intro g7 c7 w4 az aq aF aG);have aE:Below (w.heap.size+1) h w4:=aa.out.grown aq U (λaA q=>(d.lt aA q).1);rw[show xs++[Value.int .u64 ((sD 0 l:Nat):Int)]=(bs.take (i+1)).map (λb=>py (sD 0 b))from G.symm]at az;clear G;exact OR
  ·obtain rfl:i=N:=(by omega);have au:¬(i:Int)<i:=Oa;rw[ah.out]at d;have f:=gR d c;clear d c;go_wp2;go_ret;exact⟨⟨_,rfl,f.out.1.mono Oa⟩,C.out.trans (f.out.2.mono Oa)⟩
end Go.Proofs.YtnnaadmegeeinaaGreatDoor
