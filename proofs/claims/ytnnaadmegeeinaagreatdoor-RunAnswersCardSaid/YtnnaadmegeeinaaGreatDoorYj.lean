/-
  Part 10 of a proof: what it proves stands in the last text.
-/
import Derived.Test.YtnnaadmegeeinaaGreatDoorYi
import Derived.RegionTactic
import Derived.RangeFuncLeaves
import Derived.RangeFuncFrom
import Derived.Shelf.Sort.Plain
import Derived.Sort.OwnSortedInts
set_option linter.all false
set_option maxHeartbeats 8000000
set_option maxRecDepth 100000
namespace Go.Proofs.YtnnaadmegeeinaaGreatDoor
open Tryz Go.Proofs.Tryz
open Go.RowKit
def ld:=@World.putObj_heap_other
def o9:=@List.getElem?_take
def rD:=@grownBy_putObj'
def su:=@bodyPost_ret
def vI:=@wpIn_wide
def BH:=@Bool.true_and
def aho:=@List.toArray_replicate
def ahu:=@World.putObj_heap_same
def ahP:=@results_none
def akr:=@Nat.div_lt_of_lt_mul
def amb:=@Bool.not_eq_false
theorem OZ{p:Prop}(h:p:=by rw[hN.out];exact hi):p:=h
theorem O4{p:Prop}(h:p:=by
 have bo:=gb (show false=(List.range (ai+1)).all CX by rw[fs.out];simp);go_wp2;go_region
 all_goals
  go_wp2;go_roundw
  case rel=>exact⟨ai+1,n9+1,false,rfl,by go_num,by omega,bo,rfl⟩
  case measure=>exact gQ):p:=h
theorem Mc{p:Prop}(h:p:=by
 unfold jj;rw[List.any_map];refine jA (λak=>List.any l ak) (funext λn=> ?_);show(decide ((n:Int)<0)||decide ((v:Int)<=n))=_
 grind):p:=h
theorem Mx{p:Prop}(h:p:=by
 obtain⟨b,an,e1,e2,e3⟩:=ay h0
 exact .inr ⟨b,an,e1,e2,λH hi=>by rw[e3 H hi,<-mL,gc]⟩):p:=h
theorem MD{p:Prop}(h:p:=by
 go_wp2;go_region
 all_goals
  go_wp2;go_roundw
  case rel=>exact⟨ai+1,n9+1,true,rfl,by go_num,by omega,bo,rfl⟩
  case measure=>exact gQ):p:=h
theorem ME{p:Prop}(h:p:=by
 clear ex eM;go_wp2;go_region
 all_goals
  go_wp2;go_roundw
  case rel=>exact⟨k+1,ai+1,by go_num,by omega,eV,rfl⟩
  case measure=>exact gQ):p:=h
theorem M7{p:Prop}(h:p:=by
 clear ex eM eH HY be eU;go_wp2;go_region
 all_goals
  go_wp2;go_ret
  exact⟨by rw[HR.out];rfl,ai+1,rfl⟩):p:=h
theorem Sh{p:Prop}(h:p:=by
 go_wp2;go_ret2
 exact⟨by rw[HR.out.1,HR.out.2];rfl,gM HI.out.2 _⟩):p:=h
theorem Sn{p:Prop}(h:p:=by
 go_wp2;go_roundw
 case rel=>exact⟨x+1,bK,by go_num,by omega,dS,ce,HI.out.1.drewN n9,gM HI.out.2 n9⟩
 case measure=>exact gQ):p:=h
theorem Sz{p:Prop}(h:p:=by
 go_wp2;go_ret
 exact⟨rfl,aQ.out⟩):p:=h
theorem SM{p:Prop}(h:p:=by
 clear ho J;go_wp2;go_roundw
 case rel=>exact⟨H+1,by go_num,by omega,HX.out.1,HX.out.2⟩
 case measure=>exact gQ):p:=h
theorem Uf{p:Prop}(h:p:=by rw[hN.out];exact hj):p:=h
theorem Uq{p:Prop}(h:p:=by
 go_wp2;go_ret
 exact⟨rfl,a7.out⟩):p:=h
theorem Us{p:Prop}(h:p:=by
 go_wp2;go_roundw
 case rel=>exact⟨H+1,by go_num,by omega,ez,by grind⟩
 case measure=>exact gQ):p:=h
theorem UL{p:Prop}(h:p:=by
 clear hu;go_enter func76,ntmps76;go_wp2;go_ret
 exact⟨by rw[HR.out];rfl,0,rfl⟩):p:=h
theorem DK{p:Prop}(h:p:=by rw[<-hN.out];exact hi):p:=h
theorem Kr{p:Prop}(h:p:=by
 go_wp2;go_ret2
 exact⟨rfl,a7.out⟩):p:=h
theorem Kt{p:Prop}(h:p:=by have:=hN.out;omega):p:=h
theorem Kw{p:Prop}(h:p:=by rw[I3 hc,lm,h]):p:=h
theorem Pc{p:Prop}(h:p:=by
 go_wp2
 first|go_end0|refine su (ahP rfl _ _ _) rfl ?_
 exact Oy):p:=h
theorem Pe{p:Prop}(h:p:=by
 rcases dB.out with h|h
 ·exact Oa
 ·exact h):p:=h
theorem PT{p:Prop}(h:p:=by
 rcases jz ab with h0|h0
 ·exact Oa
 ·exact Mx):p:=h
theorem PY{p:Prop}(h:p:=by
 rw[HE.out];go_enter func196,ntmps196
 exact Of):p:=h
theorem PZ{p:Prop}(h:p:=by
 rw[hE.out];go_enter func197,ntmps197
 exact Of):p:=h
theorem P4{p:Prop}(h:p:=by
 rw[hE.out];go_enter func286,ntmps286
 exact Of):p:=h
theorem Qt{p:Prop}(h:p:=by
 rcases HC.out with h|h
 ·exact Oa
 ·exact h):p:=h
theorem Qx{p:Prop}(h:p:=by
 subst e1;clear HE cv hu aF J;go_enter func258,ntmps258
 exact Sz):p:=h
theorem Rb{p:Prop}(h:p:=by
 obtain⟨rfl,rfl,rfl⟩:=hrel;go_wp2_with fail;refine HS.out.mono ?_;rintro e aj ⟨rfl,rfl⟩
 exact Pc):p:=h
def dfO(v:Nat)(x:Int):Bool:=decide (x<0)||decide ((v:Int)<=x)
theorem Hf(v:Nat)(x:Int)(b:Nat)(w:World)(d:w.cell? ⟨b,0,none⟩=some (.int .i64 v)):
 Calls prog 286 #[.int .i64 x,.pointer (some ⟨b,0,none⟩)] w λe a=>e= .returned (.bool (dfO v x))/\w=a:=by
 by_cases h:x<0
 ·have hE:=gd (dfO v x=true) (by grind [dfO]);exact P4
 ·by_cases c:(v:Int)<=x
  ·have hE:=gd (dfO v x=true) (by unfold dfO;grind);exact P4
  ·have hE:=gd (dfO v x=false) (by grind [dfO]);exact P4
theorem B5(v:Nat)(b:Nat)(w:World)(a:w.cell? ⟨b,0,none⟩=some (.int .i64 v)):x8 286 #[.pointer (some ⟨b,0,none⟩)] (dfO v) w where
 enter:=jI func286 Ob Ob
 calls:=λx _=>Hf v x b w a
theorem afn(v:Nat)(l:gA):(jj l).any (dfO v)=l.any λn=>decide (v<=n):=Mc
theorem rG(v:Nat)(u:Value)(l:gA)(w:World)(hv:v<1000000000)(hu:Sl w u (jj l))(J:∀x∈l,x<1000000000):
 Calls prog 258 #[.int .i64 v,u] w λf V=>f= .returned (.int .i64 (kH v l))/\gm w V:=by
 have aF:Below w.heap.size w (w.alloc (.cells #[.int .i64 v] 3)):=(f0 _ _).alloc (fZ _) _;have C:(w.alloc (.cells #[.int .i64 v] 3)).cell? ⟨w.heap.size,0,none⟩=some (.int .i64 v):=kY _ _ _;have cv:=gb (kU _ _ _ u (jj l) _ (hu.below aF) (FC J) (B5 v w.heap.size _ C));rw[afn]at cv;have HE:=gd (kH v l=if v<1\/60<v\/(l.any λr=>decide (v<=r))=true then 1 else if kc l=false then 2 else 0) rfl;generalize kH v l=E at*;have aQ:=gb aF;by_cases k:v<1
 ·have M:(v:Int)<1:=(by omega);have e1:=HE.out;rw[gl (.inl k)]at e1;exact Qx
 have M:¬(v:Int)<1:=Oa;by_cases B:60<v
 ·have O:(60:Int)<v:=(by omega);have e1:=HE.out;rw[gl (.inr (.inl B))]at e1;exact Qx
 have O:¬(60:Int)<v:=Oa;cases d:(l.any λr=>decide (v<=r))with
 |true=>
  have e1:=HE.out;rw[gl (.inr (.inr d))]at e1;subst e1;rw[d]at cv;clear HE hu aF J d;go_enter func258,ntmps258;go_wp2_with fail;refine cv.out.mono ?_;rintro f W ⟨rfl,rfl⟩;exact Sz
 |false=>
  have e1:=HE.out;rw[gh (by grind)]at e1;rw[d]at cv;have g:=gb e1;obtain⟨z,Y,N,rfl,hN,ac,D⟩:=(hu.below aF).open;rw[show(jj l).length=l.length from jw l]at hN
  have K:=gd ((∀j,j+1<N->l.getD j 0<l.getD (j+1) 0)->E=0) (λh=>by
   rw[g.out,gh];rw[amb];unfold kc;rw[gF];intro j hj
   exact gy (h j (by have:=gC.1 hj;have:=hN.out;omega)))
  have I:=gd (∀j,j+1<N->¬l.getD j 0<l.getD (j+1) 0->E=2) (λj hj h=>by
   rw[g.out,gl];cases P:kc l with
   |false=>rfl
   |true=>exact absurd (tT P (i:=j) Uf) h)
  have HC:=gd (N=0\/∃b a,z=some ⟨b,a,none⟩/\∀i,i<N->(w.alloc (.cells #[.int .i64 v] 3)).cell? ⟨b,a+i,none⟩=some (.int .i64 ((l.getD i 0:Nat):Int))) (by
   rcases jz N with A|A
   ·exact Oa
   ·obtain⟨b,a,e1,e2,L⟩:=D A
    exact .inr ⟨b,a,e1,λi Q=>by rw[L i Q,<-mL,gc]⟩)
  clear HE g e1 hu aF J D hN d C;obtain⟨c,y⟩:∃c,Hid (w.alloc (.cells #[.int .i64 v] 3)=c):=⟨_,gb rfl⟩;go_enter func258,ntmps258;go_wp2_with fail;refine cv.out.mono ?_;rintro f W ⟨rfl,rfl⟩;rw[y.out]at HC aQ⊢;clear cv y;go_wp2;go_loopw [5] (λp wr=>∃i:Nat,1<=i/\p= .int .i64 i/\Hid (∀j,j+1<N->j+1<i->l.getD j 0<l.getD (j+1) 0)/\∃q,Hid (wr=c.drewN q)) (λp _=>N-(intOf p).toNat)
  case atStart=>exact⟨1,fZ _,rfl,gb (λj _ h=>by omega),0,gb rfl⟩
  case round=>
   obtain⟨i,ab,rfl,F,q,e⟩:=hrel;by_cases R:i<N
   ·have S:(i:Int)<N:=(by omega);obtain⟨b,a,rfl,n⟩:∃b a,z=some ⟨b,a,none⟩/\∀i,i<N->c.cell? ⟨b,a+i,none⟩=some (.int .i64 ((l.getD i 0:Nat):Int)):=Qt;obtain⟨j,hj⟩:∃j,i=j+1:=⟨i-1,by omega⟩;have ad:(i:Int)-1=j:=Oa;have ae:IntKind.i64.wrap (j:Int)=(j:Int):=iE _ Oa;have T:j<N:=Oa;have c1:wr.cell? ⟨b,a+i,none⟩=some (.int .i64 ((l.getD i 0:Nat):Int)):=(by rw[e.out];exact n i R);have c2:wr.cell? ⟨b,a+j,none⟩=some (.int .i64 ((l.getD j 0:Nat):Int)):=(by rw[e.out];exact n j T);have Z:wr.drew.cell? ⟨b,a+i,none⟩=_:=c1;have aa:wr.drew.cell? ⟨b,a+j,none⟩=_:=c2;have t:=gd (wr.drew=c.drewN (q+1)) (by rw[e.out];rfl);have a7:=gb (show Below w.heap.size w wr.drew from by rw[t.out];exact gM aQ.out _);have s:=gd (¬l.getD j 0<l.getD i 0->E=2) (λh=>I.out j Oa (by grind));clear n;by_cases o:l.getD j 0<l.getD i 0
    ·have U:¬((l.getD i 0:Nat):Int)<=((l.getD j 0:Nat):Int):=by omega
     have H:=gd (∀j,j+1<N->j+1<i+1->l.getD j 0<l.getD (j+1) 0) (λG k B=>by
      by_cases f:G=j
      ·grind
      ·exact F.out G k Oa)
     clear hj o;generalize l.getD i 0=x at*;generalize l.getD j 0=X at*;go_wp2;go_region;go_wp2;go_roundw
     case rel=>exact⟨i+1,by omega,by go_num,H,q+1,t⟩
     case measure=>exact gQ
    ·have U:((l.getD i 0:Nat):Int)<=((l.getD j 0:Nat):Int):=(by omega);obtain rfl:=s.out o;clear hj o s;generalize l.getD i 0=x at*;generalize l.getD j 0=X at*;go_wp2;go_region;exact Uq
   ·obtain rfl:=K.out (λj hj=>F.out j hj Oa);have S:¬(i:Int)<N:=Oa;have a7:=gb (show gm w wr from by rw[e.out];exact gM aQ.out _);exact Uq
theorem akh(w:World):(zeroValue 236).run prog w= .ok (.agg (Array.replicate 60 (.int .i64 0))) w:=Ob
theorem agx:uG []=List.replicate 60 (.int .i64 0):=by rfl
theorem alV(w:World):(zeroValue 236).run prog w= .ok (.agg (uG []).toArray) w:=by
 rw[akh,agx,aho]
theorem TA{v a b:Nat}(f:1<=v)(d:a<v)(e:b<v):((a:Int)-b+v).tmod (v:Int)=((Y9 v a b:Nat):Int)/\Y9 v a b<v:=by
 have c:(a:Int)-b+v=((a+v-b:Nat):Int):=Oa;refine⟨?_,iD _ Oa⟩;rw[c,jC Oa];rfl
theorem V9(v:Nat)(u:Value)(l:gA)(w:World)(g:v<1000000000)(c:Sl w u (jj l))(a:∀x∈l,x<1000000000)(h:kH v l≠0):
 Calls prog 208 #[.int .i64 v,u] w λe i=>e= .returned (.tuple #[.int .i64 0,.int .i64 (kH v l)])/\gm w i:=by
 have f:=gb (rG v u l w g c a);have j:(kH v l==0)=false:=by grind
 clear h c a;generalize kH v l=E at*;go_enter func208,ntmps208;go_wp2_with fail;refine f.out.mono ?_;rintro e k ⟨rfl,b⟩;have d:=gb b;clear b;go_wp2;go_ret2;exact⟨rfl,d.out⟩
theorem Zo(v:Nat)(u:Value)(l:gA)(w:World)(hv:v<1000000000)(V:Sl w u (jj l))(c:∀x∈l,x<1000000000)(h:kH v l=0):
 Calls prog 208 #[.int .i64 v,u] w λC w'=>C= .returned (.tuple #[.int .i64 (sC v l),.int .i64 (qp v l)])/\gm w w':=by
 have G:=gb (rG v u l w hv V c);rw[h]at G;obtain⟨aF,aR,T,_⟩:=oL h;have aB:=td h;have o:=gd (qp v l=if TD v l=false then 4 else 0) (by unfold qp;omega);have r:=gd (sC v l=if qp v l=0/\v≠1 then((ES v l 1:Nat):Int)else 0) rfl;obtain⟨N,aG,ab,rfl,hN,aN,ay⟩:=V.open;rw[show(jj l).length=l.length from jw l]at hN;have aJ:ab<=60:=Kt
 have dB:=gd (ab=0\/∃b an,N=some ⟨b,an,none⟩/\b<w.heap.size/\∀H,H<ab->w.cell? ⟨b,an+H,none⟩=some (.int .i64 ((l.getD H 0:Nat):Int))) (by
  exact PT)
 have K:=gd (∀H,H<ab->l.getD H 0<v) (λH hi=>by
  grind [List.getElem_mem])
 have aa:=gb (vU v l);have ac:=gd (∀H,yB v l H ab=JO v l (H+1)) (λH=>by rw[<-hN.out];exact TB v l H)
 have ae:=gd (∀H j,j<ab->uG (yB v l H (j+1))=(uG (yB v l H j)).set (Y9 v (l.getD H 0) (l.getD j 0)) (.int .i64 (((yB v l H j).count (Y9 v (l.getD H 0) (l.getD j 0)):Nat)+1:Int))) (λH j hj=>by
  rw[Hg v l H Uf]
  exact XM _ (by
   have:Y9 v (l.getD H 0) (l.getD j 0)<v:=iD _ Oa
   exact Oa))
 have ad:=gd (∀H j d,H<ab->j<=ab->(yB v l H j).count d<=3660) (λH j d hi hj=>by
  have i:=lZ (a:=d) (l:=yB v l H j);rw[TC v l H Uf,hN.out]at i;have s:H*ab<=60*60:=gE Oa Oa
  exact Oa)
 have ah:=gd (∀d,(JO v l ab).count d=ES v l d) (λd=>by rw[<-hN.out];rfl);have ag:=gd (JO v l 0=[]) rfl
 have A:=gd ((∀n,1<=n->n<v->ES v l n=ES v l 1)->TD v l=true) (λhh=>by
  unfold TD
  grind)
 have z:=gd (∀n,1<=n->n<v->ES v l n≠ES v l 1->TD v l=false) (λn i s aP=>by
  cases D:TD v l with
  |false=>rfl
  |true=>
   unfold TD at D;have:=gF.1 D (n-1) (gC.2 Oa)
   grind)
 have HZ:=alV;generalize sC v l=XX at*;generalize qp v l=EE at*;generalize TD v l=WW at*;generalize ES v l=a at*;clear ay V c h T aB hN;go_enter func208,ntmps208;go_wp2_with fail;refine G.out.mono ?_;rintro C f ⟨rfl,O⟩;have am:=gb O;have aE:=O.size;clear O G;go_wp2;have e:hU (f.alloc (.cells (uG []).toArray 236)) f.heap.size 236 (uG (JO v l 0)):=by rw[ag.out];exact hU.new f _ _
 have ai:Below w.heap.size w (f.alloc (.cells (uG []).toArray 236)):=am.out.alloc aE _;have L:=gR e ai;clear e ai HZ;go_loopw [21] (λW wr=>∃H:Nat,H<=ab/\W= .int .i64 H/\hU wr f.heap.size 236 (uG (JO v l H))/\gm w wr) (λW _=>ab-(intOf W).toNat)
 case atStart=>exact⟨0,ge _,rfl,L.out.1,L.out.2⟩
 case round=>
  obtain⟨H,hi,rfl,e,c⟩:=hrel;clear L;by_cases R:H<ab
  ·have az:(H:Int)<ab:=(by omega);obtain⟨b,an,rfl,aj,P⟩:∃b an,N=some ⟨b,an,none⟩/\b<w.heap.size/\∀H,H<ab->w.cell? ⟨b,an+H,none⟩=some (.int .i64 ((l.getD H 0:Nat):Int)):=Pe;have c1:=(c.cell (p:=⟨b,an+H,none⟩) aj).trans (P H R);have ao:=gb P;have ar:=gb (λj (hj:j<ab)=>ae.out H j hj);have aq:=gb (λj d (hj:j<=ab)=>ad.out H j d R hj);have ap:=gb (ac.out H);have hx:=K.out H R;have J:=gb (show hU wr f.heap.size 236 (uG (yB v l H 0))/\gm w wr from⟨by rw[aa.out];exact e,c⟩);clear e c P;generalize yB v l H=M at*;generalize l.getD H 0=x at*;go_wp2;go_loopw [27] (λX F=>∃j:Nat,j<=ab/\X= .int .i64 j/\hU F f.heap.size 236 (uG (M j))/\gm w F) (λX _=>ab-(intOf X).toNat)
   case atStart=>exact⟨0,ge _,rfl,J.out.1,J.out.2⟩
   case round=>
    obtain⟨j,hj,rfl,e,c⟩:=hrel;clear J;by_cases S:j<ab
    ·have aA:(j:Int)<ab:=(by omega);have c2:=(c.cell (p:=⟨b,an+j,none⟩) aj).trans (ao.out j S);have t:=K.out j S;obtain⟨d1,d2⟩:=TA aF hx t;have ak:=ar.out j S;have aM:=aq.out j (Y9 v x (l.getD j 0)) hj;generalize l.getD j 0=y at*;generalize Y9 v x y=d at*;have ax:=e.cell d;rw[tC _ Oa]at ax;have aL:=e.frozen d;obtain⟨U,hg⟩:=e.stored d (.int .i64 (((M j).count d:Nat)+1:Int));rw[<-ak]at U;have g:=gR U (c.grown hg c.size (λk C=>by grind));have aK:d<60:=Oa;clear ak e c U hg;generalize List.count d (M j)=m at*;go_wp2;go_roundw
     case rel=>exact⟨j+1,by omega,by go_num,g.out.1,g.out.2⟩
     case measure=>exact gQ
    ·obtain rfl:j=ab:=(by omega);have aA:¬(j:Int)<j:=Oa;have g:=gR e c;rw[ap.out]at g;clear e c;go_wp2;go_roundw
     case rel=>exact⟨H+1,by omega,by go_num,g.out.1,g.out.2⟩
     case measure=>exact gQ
  ·obtain rfl:H=ab:=(by omega);have az:¬(H:Int)<H:=Oa
   have I:=gd (∀d,d<60->wr.cell? ⟨f.heap.size,d,none⟩=some (.int .i64 ((a d:Nat):Int))) (λd D=>by
    rw[e.cell d,tC _ D,ah.out])
   have Z:=gb c;clear e c aa ac ae ad ah ag dB K;obtain⟨B,av⟩:∃B,B=wr:=⟨_,rfl⟩;subst av;go_wp2;go_loopw [12] (λY F=>∃n:Nat,1<=n/\n<=v+1/\Y= .int .i64 n/\Hid (∀k,1<=k->k<v->k<n->a k=a 1)/\∃E,Hid (F=B.drewN E)) (λY _=>v+1-(intOf Y).toNat)
   case atStart=>exact⟨1,fZ _,by omega,rfl,gb (λk _ _ h=>by omega),0,gb rfl⟩
   case round=>
    obtain⟨n,aC,aQ,rfl,lM,E,q⟩:=hrel;by_cases T:n<v
    ·have aD:(n:Int)<v:=(by omega);have c1:wr.cell? ⟨f.heap.size,n,none⟩=some (.int .i64 ((a n:Nat):Int)):=(by rw[q.out];exact I.out n Oa);have c2:wr.cell? ⟨f.heap.size,1,none⟩=some (.int .i64 ((a 1:Nat):Int)):=(by rw[q.out];exact I.out 1 Oa);have aH:wr.drew.cell? ⟨f.heap.size,n,none⟩=_:=c1;have aI:wr.drew.cell? ⟨f.heap.size,1,none⟩=_:=c2;have af:=gd (wr.drew=B.drewN (E+1)) (by rw[q.out];rfl);have a7:=gb (show Below w.heap.size w wr.drew from by rw[af.out];exact gM Z.out _);have aO:n<60:=Oa;by_cases Q:a n=a 1
     ·have aw:((a n:Int)==(a 1:Int))=true:=by grind
      have au:=gd (∀k,1<=k->k<v->k<n+1->a k=a 1) (λk i s h3=>by
       by_cases C:k=n
       ·grind
       ·exact lM.out k i s Oa)
      clear Q;generalize a n=x at*;generalize a 1=y at*;go_wp2;go_region;go_wp2;go_roundw
      case rel=>exact⟨n+1,by omega,by omega,by go_num,au,E+1,af⟩
      case measure=>exact gQ
     ·have aw:((a n:Int)==(a 1:Int))=false:=(by grind);have e1:=o.out;rw[gl (z.out n aC T Q)]at e1;subst e1;have e2:=r.out;rw[gh Oa]at e2;subst e2;clear Q r o z A lM;generalize a n=x at*;generalize a 1=y at*;go_wp2;go_region;exact Kr
    ·have aD:¬(n:Int)<v:=(by omega);have e1:=o.out;rw[A.out (λk i s=>lM.out k i s Oa),gh Oc]at e1;subst e1;have e2:=r.out;have a7:=gb (show gm w wr from by rw[q.out];exact gM Z.out _);have c2:wr.cell? ⟨f.heap.size,1,none⟩=some (.int .i64 ((a 1:Nat):Int)):=(by rw[q.out];exact I.out 1 Oa);by_cases al:v=1
     ·subst al;rw[gh Oa]at e2;subst e2;clear r o z A lM;generalize a 1=y at*;exact Kr
     ·have aS:((v:Int)==1)=false:=(by grind);rw[gl ⟨rfl,al⟩]at e2;subst e2;obtain⟨y,t⟩:∃y,a 1=y:=⟨_,rfl⟩;rw[t]at c2;have g:=gb t;clear r o z A lM t;go_wp2;go_ret2;exact⟨by rw[g.out];rfl,a7.out⟩
theorem Sl.openN{w:World}{v:Value}{l:gA}(h:Sl w v (jj l)):∃c d N,v= .slice c N d/\Hid (l.length=N)/\(N<=17592186044416/\N<=d)/\Hid (0<N->∃b a,c=some ⟨b,a,none⟩/\∀f,gm w f->∀i,i<N->f.cell? ⟨b,a+i,none⟩=some (.int .i64 (l.getD i 0:Nat))):=by
 obtain⟨c,d,e,g,j⟩:=h.out;rw[jw]at e g j;refine⟨c,d,l.length,e,gb rfl,g,gb λk=> ?_⟩;obtain⟨b,a,e,n,o⟩:=j k;exact⟨b,a,e,λf r i q=>by rw[r.cell (p:=⟨b,a+i,none⟩) n,o i q,mL]⟩
theorem Ci(v:Nat)(u:Value)(l:gA)(w:World)(hu:Sl w u (jj l)):
 Calls prog 76 #[.int .i64 v,u] w λe P=>e= .returned (.int .i64 (kH v l))/\∃q,P=w.drewN q:=by
 by_cases F:v<1
 ·have HR:=gd (kH v l=1) (gl (.inl F));exact UL
 by_cases G:60<v
 ·have HR:=gd (kH v l=1) (gl (.inr (.inl G)));exact UL
 obtain⟨S,T,N,rfl,hN,U,b⟩:=hu.openN;have o:=gd (∀H,H<N->v<=l.getD H 0->kH v l=1) (λH hi h=>aaL (by grind) h);have p:=gd ((∀H,H<N->¬v<=l.getD H 0)->kH v l=if kc l=false then 2 else 0) (λh=>afs Oa Oa ON);have i:=gd (∀H,H+1<N->¬l.getD H 0<l.getD (H+1) 0->kc l=false) (λH hi h=>CH OZ h);have k:=gd ((∀H,H+1<N->l.getD H 0<l.getD (H+1) 0)->kc l=true) (λh=>Ac ON);clear hu hN;generalize kH v l=R at*;generalize kc l=Q at*;obtain⟨f,y⟩:∃f:Nat->Nat,∀H,l.getD H 0=f H:=⟨λH=>l.getD H 0,λH=>rfl⟩;simp only[y]at b o p i k;clear y;go_enter func76,ntmps76;go_wp2;go_loopw [5] (λa wr=>∃H:Nat,a= .int .i64 H/\H<=N/\Hid (∀j,j<H->¬v<=f j)/\w=wr) (λa _=>N-(intOf a).toNat)
 case atStart=>exact⟨0,rfl,ge _,gb (λj n=>by omega),rfl⟩
 case round=>
  obtain⟨H,rfl,hi,HH,rfl⟩:=hrel;by_cases z:H<N
  ·have J:(H:Int)<N:=(by omega);obtain⟨E,O,rfl,c⟩:=b.out Oa;have X:=c w (f0 _ _) H z;have D:=gb (o.out H z);have g:=gb (λ(h:¬v<=f H)=>(show∀j,j<H+1->¬v<=f j from λj n=>Pi));clear HH c b;generalize f H=x at*;by_cases A:v<=x
   ·have L:(v:Int)<=x:=(by omega);have HR:=gb (D.out A);go_wp2;go_ret;exact⟨by rw[HR.out];rfl,0,rfl⟩
   ·have L:¬(v:Int)<=x:=(by omega);have ez:=gb (g.out A);exact Us
  ·obtain rfl:H=N:=(by omega);have J:¬(H:Int)<H:=Oa;have d:=gb (p.out HH.out);clear HH o p;go_wp2;go_loopw [6] (λa wr=>∃t q:Nat,a= .int .i64 ((t+1:Nat):Int)/\(t+1<=H\/t=0)/\Hid (∀j,j<t->f j<f (j+1))/\wr=w.drewN q) (λa _=>H+2-(intOf a).toNat)
   case atStart=>exact⟨0,0,rfl,.inr rfl,gb (λj n=>by omega),rfl⟩
   case round=>
    obtain⟨t,q,rfl,W,HH,rfl⟩:=hrel;by_cases r:t+1<H
    ·obtain⟨E,O,rfl,c⟩:=b.out Oa;have c0:=c w (f0 _ _) t Oa;have c1:=c w (f0 _ _) (t+1) r;have s:=gb (i.out t r)
     have g:=gb (λ(h:f t<f (t+1))=>(show∀j,j<t+1->f j<f (j+1)from λj n=>by
      by_cases e:j=t
      ·grind
      ·exact HH.out j Oa))
     clear HH c b i k;have K:((t+1:Nat):Int)-1=t:=Oa;obtain⟨M,I⟩:∃M,t+1=M:=⟨_,rfl⟩;rw[I]at r K c1 s g⊢;generalize f t=C at*;generalize f M=x at*;by_cases B:C<x
     ·have ez:=gb (g.out B);go_wp2;go_region;exact Rp
     ·have Y:(x:Int)<=C:=(by omega);have HR:=gb (s.out B);rw[HR.out]at d;go_wp2;go_region;go_wp2;go_ret;exact⟨by rw[d.out];rfl,q+1,rfl⟩
    ·have V:¬((t+1:Nat):Int)<H:=(by omega);have HR:=gb (k.out (λj n=>HH.out j Oa));rw[HR.out]at d;clear HH b i k;go_wp2;go_ret;exact⟨by rw[d.out];rfl,q,rfl⟩
theorem FJ(v:Nat)(u:Value)(l:gA)(w:World)(hu:Sl w u (jj l))(h:kH v l=0):
 Calls prog 77 #[.int .i64 v,u] w λT q=>T= .returned (.tuple #[.int .i64 (sC v l),.int .i64 (qp v l)])/\gm w q:=by
 obtain⟨z1,z2,z3,z4⟩:=oL h;have zl:=td h;obtain⟨ao,ax,N,rfl,hN,az,B⟩:=hu.openN;rw[hN.out]at zl
 have C:=gd (∀H,H<N->l.getD H 0<v) (λH F=>by
  grind [List.getElem_mem])
 have t:=gd (qp v l=if TD v l=false then 4 else 0) (gh Oa);have HX:=gd (sC v l=if qp v l=0/\v≠1 then((ES v l 1:Nat):Int)else 0) rfl;have ae:=gd (yB v l 0 0=[]) (by rw[vU];rfl);have M:=gd (∀H j,j<N->yB v l H (j+1)=yB v l H j++[Y9 v (l.getD H 0) (l.getD j 0)]) (λH j hj=>Hg v l H Uf);have af:=gd (∀H,yB v l H N=yB v l (H+1) 0) (λH=>by rw[vU,<-TB,hN.out])
 have L:=gd (∀H j,H<=N->j<=N->(yB v l H j).length<=4000) (λH j F hj=>by
  rw[TC v l H Uf,hN.out];have:H*N<=60*60:=gE Oa Oa
  exact Oa)
 have O:=gd (∀n,(yB v l N 0).count n=ES v l n) (λn=>by rw[vU,<-hN.out];rfl);have x:=gb (λs o E h3=>aiZ (v:=v) (l:=l) (s:=s) o E h3);have z:=gb (λh=>afo (v:=v) (l:=l) h);have HD:=gb (λA y (Z:A<v) (hy:y<v)=>TA (v:=v) (a:=A) (b:=y) z1 Z hy);have K:=gb (vT v);have I:=gb (λG n (h:n<v)=>aaC G (v:=v) h);have ac:=gb (λG d (h:d<v)=>WM G (v:=v) h);have ab:=gb (aaD v);clear hu h z3 z4 hN;generalize sC v l=RX at*;generalize qp v l=RE at*;generalize TD v l=RW at*;generalize ES v l=a at*;generalize yB v l=e at*;obtain⟨k,hf⟩:∃k:Nat->Nat,∀H,l.getD H 0=k H:=⟨λH=>l.getD H 0,λH=>rfl⟩;simp only[hf]at B C M;clear hf;generalize B6 v=r at*;generalize Y9 v=DD at*;go_enter func77,ntmps77;go_wp2_with (at_make;refine nQ (w:=w) _ _ 45 3 (.int .i64 0) 8 rfl rfl underlying45 info3 rfl Oc w.heap.size _ v rfl rfl rfl Oa (fZ _) ?_;intro w3 Y ai aE);have ah:gm w w3:=(f0 _ _).grown ai (fZ _) (λaw h=>by cases h);rw[<-ab.out,<-ae.out]at Y;have HI:=gR (show OI w.heap.size w3 (.slice (some ⟨w.heap.size,0,none⟩) v v) (r (e 0 0))from Y) ah;clear Y ah ai ae ab;go_wp2_with fail;go_loopw [7,8] (λiv _ wr=>∃H:Nat,iv= .int .i64 H/\H<=N/\OI w.heap.size wr (.slice (some ⟨w.heap.size,0,none⟩) v v) (r (e H 0))/\gm w wr) (λiv _ _=>N-(intOf iv).toNat)
 case atStart=>exact⟨0,rfl,ge _,HI.out.1,HI.out.2⟩
 case round=>
  clear HI;obtain⟨H,rfl,F,ho,J⟩:=hrel;by_cases aj:H<N
  ·have ar:(H:Int)<N:=(by omega);have HI:=gR ho J;clear ho J;go_wp2;go_loopw [8] (λjv wr=>∃j:Nat,jv= .int .i64 j/\j<=N/\OI w.heap.size wr (.slice (some ⟨w.heap.size,0,none⟩) v v) (r (e H j))/\gm w wr) (λjv _=>N-(intOf jv).toNat)
   case atStart=>exact⟨0,rfl,ge _,HI.out.1,HI.out.2⟩
   case round=>
    clear HI;obtain⟨j,rfl,hj,ho,J⟩:=hrel;by_cases X:j<N
    ·have au:(j:Int)<N:=(by omega);obtain⟨Q,am,rfl,V⟩:=B.out Oa;have c1:wr.drew.cell? ⟨Q,am+H,none⟩=_:=V wr J H aj;have c2:wr.drew.cell? ⟨Q,am+j,none⟩=_:=V wr J j X;have Z:=C.out H aj;have hy:=C.out j X;obtain⟨d1,R⟩:=HD.out (k H) (k j) Z hy;have an:=gb (M.out H j X);clear V B;generalize k H=A at*;generalize k j=y at*;generalize DD A y=d at*;have U:=ho.cell d (by rw[K.out];exact R);rw[I.out _ d R]at U;have aA:(e H j).count d<=4000:=gt lZ (L.out H j F hj);have aC:wr.drew.frozen? ⟨w.heap.size,d,none⟩=false:=ho.frozen d;have U:wr.drew.cell? ⟨w.heap.size,d,none⟩=_:=U;obtain⟨s1,s2⟩:=OI.stored (w:=wr.drew) ho.drew d (((((e H j).count d:Nat):Int))+1);rw[ac.out _ d R,<-an.out]at s1;have HX:=gR s1 (J.drew.grown s2 J.size (λaw T=>by grind));clear ho J s1 s2;generalize (e H j).count d=cn at*;have aB:(d:Int)<v:=Oa;go_wp2;go_region;go_wp2;go_roundw
     case rel=>exact⟨j+1,by go_num,by omega,HX.out.1,HX.out.2⟩
     case measure=>exact gQ
    ·obtain rfl:j=N:=(by omega);have au:¬(j:Int)<j:=Oa;have HX:=gR (ho.cast (by rw[af.out])) J;exact SM
  ·obtain rfl:H=N:=(by omega);have ar:¬(H:Int)<H:=Oa;have f:=gd (∀n q,gm w q->OI w.heap.size q (.slice (some ⟨w.heap.size,0,none⟩) v v) (r (e H 0))->n<v->q.cell? ⟨w.heap.size,n,none⟩=some (.int .i64 (a n:Nat))) (λn q _ h hn=>by rw[h.cell n (by rw[K.out];exact hn),I.out _ n hn,O.out]);have D:=gd (∀n,a n<=4000) (λn=>by rw[<-O.out n];exact gt lZ (L.out H 0 F (ge _)));have HI:=gR ho J;clear ho J B C M af L O HD K I ac;generalize r (e H 0)=CL at*;obtain⟨i,aq⟩:∃i,i=wr:=⟨_,rfl⟩;subst aq;go_wp2;go_loopw [9] (λsv wr=>∃s aa:Nat,sv= .int .i64 ((s+2:Nat):Int)/\(s+2<=v\/s=0)/\Hid (∀j,2<=j->j<s+2->a j=a 1)/\wr=i.drewN aa) (λsv _=>v+3-(intOf sv).toNat)
   case atStart=>exact⟨0,0,rfl,.inr rfl,gb (λj o E=>by omega),rfl⟩
   case round=>
    obtain⟨s,aa,rfl,hs,g,rfl⟩:=hrel;obtain⟨S,hS⟩:∃S,s+2=S:=⟨_,rfl⟩;rw[hS]at g hs⊢;by_cases ak:S<v
    ·have av:(S:Int)<v:=(by omega);have ap:(1:Int)<v:=Oa;have c1:=f.out S i HI.out.2 HI.out.1 ak;have c2:=f.out 1 i HI.out.2 HI.out.1 Oa;have P:=gb (x.out S Oa ak);by_cases W:a S=a 1
     ·have ad:=gb (show∀j,2<=j->j<S+1->a j=a 1 from λj o E=>by
       by_cases T:j=S
       ·grind
       ·exact g.out j o Oa)
      rw[W]at c1;clear g f D W P x z;generalize a 1=y at*;go_wp2;go_region;go_wp2;go_roundw
      case rel=>exact⟨s+1,aa+1,by grind,by omega,by rw[<-hS]at ad;exact ad,rfl⟩
      case measure=>exact gQ
     ·have p:=P.out W;have c:=t.out;rw[p,gl rfl]at c;have b:=HX.out;rw[gh Oa]at b;have HR:=gR b c;clear g f D P x z p c b t HX;have aD:((a S:Int) !=(a 1:Int))=true:=by
       grind
      generalize a S=A at*;generalize a 1=y at*;go_wp2;go_region;exact Sh
    ·have av:¬(S:Int)<v:=(by omega);have p:=z.out (λj o E=>g.out j o Oa);have c:=t.out;rw[p,gh Oc]at c;have b:=HX.out;rw[c]at b;by_cases al:v=1
     ·rw[gh (λh=>h.2 al)]at b;have HR:=gR b c;have ag:(v:Int)=1:=Oa;clear g f D x z p c b t HX;exact Sh
     ·rw[gl ⟨rfl,al⟩]at b;have HR:=gR b c;have ag:¬(v:Int)=1:=Oa;have ay:((v:Int)==1)=false:=gL.2 ag;have ap:(1:Int)<v:=Oa;have c2:=f.out 1 i HI.out.2 HI.out.1 Oa;clear g f D x z p c b t HX;generalize a 1=y at*;exact Sh
theorem ahk{n:Nat}{l:gA}{i k:Nat}(hi:i<l.length)(c:k<i)(a:l.getD i 0=l.getD k 0)(b:i/n=k/n\/i%n=k%n):oP n l=true:=by
 unfold oP
 grind
theorem ahj{n:Nat}{l:gA}(h:∀i,i<l.length->∀k,k<i->¬(l.getD i 0=l.getD k 0/\(i/n=k/n\/i%n=k%n))):oP n l=false:=by
 refine kZ.2 λa=> ?_;unfold oP at a
 grind
theorem XV(n:Nat)(v:Value)(l:gA)(w:World)(ae:1<=n)(af:n<=8)(t:Sl w v (jj l))(K:l.length<=1000):
 Calls prog 159 #[.int .i64 n,v] w λe L=>e= .returned (.bool (!(oP n l)))/\∃ai,L=w.drewN ai:=by
 obtain⟨M,P,N,rfl,hN,ac,q⟩:=t.openN;have HY:=gd (∀H,H<N->∀k,k<H->l.getD H 0=l.getD k 0->(H/n=k/n\/H%n=k%n)->oP n l=true) (λH hi k d b c=>ahk OZ d b c);have be:=gd ((∀H,H<N->∀k,k<H->¬(l.getD H 0=l.getD k 0/\(H/n=k/n\/H%n=k%n)))->oP n l=false) (λh=>ahj ON);rw[hN.out]at K;clear t hN;generalize oP n l=R at*;obtain⟨f,r⟩:∃f:Nat->Nat,∀H,l.getD H 0=f H:=⟨λH=>l.getD H 0,λH=>rfl⟩;simp only[r]at q HY be;clear r;go_enter func159,ntmps159;go_wp2;go_loopw [5,6] (λo _ wr=>∃H ai:Nat,o= .int .i64 H/\H<=N/\Hid (∀j,j<H->∀k,k<j->¬(f j=f k/\(j/n=k/n\/j%n=k%n)))/\wr=w.drewN ai) (λo _ _=>N-(intOf o).toNat)
 case atStart=>exact⟨0,0,rfl,ge _,gb (λj i=>by omega),rfl⟩
 case round=>
  obtain⟨H,ai,rfl,hi,HH,rfl⟩:=hrel;by_cases s:H<N
  ·have G:(H:Int)<N:=(by omega);obtain⟨O,ag,rfl,g⟩:=q.out Oa;have hx:=g w (f0 _ _) H s;have E:=gb (λk d=>g w (f0 _ _) k d);have eH:=gb (HY.out H s);have Q:(H:Int).tdiv (n:Int)=((H/n:Nat):Int):=(iS _ _).symm;have S:(H:Int).tmod (n:Int)=((H%n:Nat):Int):=(gO _ _).symm;have T:H/n<=H:=jg _ _;have U:H%n<=H:=Y4 _ _;have eU:=gb (λ(h:∀k,k<H->¬(f H=f k/\(H/n=k/n\/H%n=k%n)))=>(show∀j,j<H+1->∀k,k<j->¬(f j=f k/\(j/n=k/n\/j%n=k%n))from λj i=>Pi));clear g HH;go_wp2;go_loopw [6] (λp wr=>∃k ai:Nat,p= .int .i64 k/\k<=H/\Hid (∀j,j<k->¬(f H=f j/\(H/n=j/n\/H%n=j%n)))/\wr=w.drewN ai) (λp _=>H-(intOf p).toNat)
   case atStart=>exact⟨0,ai,rfl,ge _,gb (λj i=>by omega),rfl⟩
   case round=>
    obtain⟨k,ai,rfl,d,a,rfl⟩:=hrel;by_cases I:k<H
    ·have J:(k:Int)<H:=(by omega);have hy:=E.out k Oa;have V:(k:Int).tdiv (n:Int)=((k/n:Nat):Int):=(iS _ _).symm;have W:(k:Int).tmod (n:Int)=((k%n:Nat):Int):=(gO _ _).symm;have X:k/n<=k:=jg _ _;have Y:k%n<=k:=Y4 _ _;have ad:k<N:=Oa;have ex:=gb (eH.out k I)
     have eM:=gb (λ(h:¬(f H=f k/\(H/n=k/n\/H%n=k%n)))=>(show∀j,j<k+1->¬(f H=f j/\(H/n=j/n\/H%n=j%n))from λj i=>by
      by_cases e:j=k
      ·grind
      ·exact a.out j Oa))
     clear a;generalize f H=C at*;generalize f k=D at*;generalize H/n=y at*;generalize H%n=z at*;generalize k/n=A at*;generalize k%n=B at*;by_cases x:C=D
     ·subst x;by_cases b:y=A
      ·subst b;have HR:=gb (ex.out rfl (.inl rfl));exact M7
      ·have Z:((y:Int)==A)=false:=gL.2 Oa;by_cases c:z=B
       ·subst c;have HR:=gb (ex.out rfl (.inr rfl));exact M7
       ·have aa:((z:Int)==B)=false:=gL.2 Oa;have eV:=gb (eM.out (λh=>h.2.elim b c));exact ME
     ·have ab:((C:Int)==D)=false:=gL.2 Oa;have eV:=gb (eM.out (λh=>x h.1));exact ME
    ·obtain rfl:k=H:=(by omega);have J:¬(k:Int)<k:=Oa;have F:=gb (eU.out a.out);clear a;go_wp2;go_roundw
     case rel=>exact⟨k+1,ai,by go_num,by omega,F,rfl⟩
     case measure=>exact gQ
  ·obtain rfl:H=N:=(by omega);have G:¬(H:Int)<H:=Oa;have HR:=gb (be.out HH.out);clear HH;exact UG
def dcS(n k:Nat)(l:gA)(x:Nat):Option gA:=if dcF n l x then He n k (l++[x])else none
theorem aaB(n k:Nat)(l:gA):He n (k+1) l=(List.range' 0 (n-0)).findSome? (dcS n k l):=rfl
theorem aiY{n k c:Nat}{l:gA}(hc:c<n)(h:dcS n k l c=none):(List.range' c (n-c)).findSome? (dcS n k l)=(List.range' (c+1) (n-(c+1))).findSome? (dcS n k l):=Kw
theorem afl{n k c:Nat}{l m:gA}(hc:c<n)(h:dcS n k l c=some m):(List.range' c (n-c)).findSome? (dcS n k l)=some m:=Kw
theorem afk(n k:Nat)(l:gA):(List.range' n (n-n)).findSome? (dcS n k l)=none:=by grind
def dcC(n:Nat)(l:gA)(x k:Nat):Bool:=decide (l.getD k 0≠x)||(decide (k/n≠l.length/n)&&decide (k%n≠l.length%n))
theorem Ty{n:Nat}{l:gA}{x:Nat}:(List.range l.length).all (dcC n l x)=dcF n l x:=rfl
theorem ZU{p:Nat->Bool}(q:Nat):(List.range (q+1)).all p=((List.range q).all p&&p q):=by grind
theorem aeU{p:Nat->Bool}{q r:Nat}(h:(List.range q).all p=false)(a:q<=r):(List.range r).all p=false:=by
 grind
theorem adb{cs l:gA}{a x M:Nat}(c:cs.length=M)(d:a<M)(b:cs.take a=l):(cs.set a x).length=M/\(cs.set a x).take (a+1)=l++[x]:=by
 refine⟨by grind,?_⟩;rw[List.take_set,jH,gn Oa,x7 _ _ (by grind),i8,Nat.min_eq_left Oa,jU,b];rfl
theorem YA{cs l:gA}{a x:Nat}(b:l.length=a)(h:cs.take (l++[x]).length=l++[x]):cs.take a=l:=by
 have h2:=congrArg (List.take a) h;have e:List.take a (l++[x])=l:=(by rw[List.take_append_of_le_length (by omega),List.take_of_length_le (by omega)]);rw[List.take_take,List.length_append,b,Nat.min_eq_left (Nat.le_add_right a _),e]at h2;exact h2
def OnR(n k:Nat)(l:gA)(B:Nat)(v:Value)(b:Ending)(w':World):Prop:=b= .returned (.bool (He n k l).isSome)/\∃a:gA,OI B w' v (jj a)/\a.length=n*n/\a.take l.length=l/\∀m,He n k l=some m->a=m
theorem VA(n:Nat)(aD:1<=n)(G:n<=8):∀(k a:Nat)(l cs:gA)(B g c:Nat)(w:World),a+k=n*n->cs.length=n*n->cs.take a=l->l.length=a->OI B w (.slice (some ⟨g,0,none⟩) (n*n) c) (jj cs)->B<=w.heap.size->
 Calls prog 160 #[.int .i64 n,.slice (some ⟨g,0,none⟩) (n*n) c,.int .i64 a] w λj i=>OnR n k l B (.slice (some ⟨g,0,none⟩) (n*n) c) j i/\Below B w i
 |0,a,l,cs,B,g,c,w,hk,E,S,s,b,hB=>by
  have aF:(n:Int)*n=((n*n:Nat):Int):=(gI _ _).symm;have aE:n*n<=64:=gE G G
  have D:OnR n 0 l B (.slice (some ⟨g,0,none⟩) (n*n) c) (.returned (.bool true)) w:=⟨rfl,cs,b,E,by grind,λm F=>by
   have j:l=m:=gG F
   grind⟩
  have HR:=gb D;have ha:a=n*n:=Oa;clear b D E S s;generalize n*n=M at*;subst ha;unfold OnR at HR;unfold OnR;go_enter func160,ntmps160;go_wp2;go_ret;exact⟨HR.out,f0 _ _⟩
 |k+1,a,l,cs,B,g,c,w,hk,E,S,s,b,hB=>by
  have aF:(n:Int)*n=((n*n:Nat):Int):=(gI _ _).symm;have aE:n*n<=64:=gE G G;obtain⟨g0,c0,e0,aR,_⟩:=b.form (by grind [jw]);simp only[iU,gH,lz,qW]at e0;obtain⟨⟨rfl,_⟩,aH,rfl⟩:=e0;clear aH;have aj:=gb (λ(x:Nat)(bK:gA)(w1:World)(e:bK.length=n*n)(f:bK.take (a+1)=l++[x])(o:OI B w1 (.slice (some ⟨g,0,none⟩) (n*n) c) (jj bK))(h4:B<=w1.heap.size)=>VA n aD G k (a+1) (l++[x]) bK B g c w1 Oa e f (by grind) o h4);have al:=gb (aaB n k l);have am:=gb (λx (T:x<n)=>aiY (n:=n) (k:=k) (l:=l) T);have ar:=gb (λx m (T:x<n)=>afl (n:=n) (k:=k) (l:=l) (m:=m) T);have ah:=gb (afk n k l)
  have ap:=gd (∀x,(List.range a).all (dcC n l x)=false->dcS n k l x=none) (λx h=>by
   rw[<-s,Ty]at h
   exact gh (by grind))
  have aq:=gd (∀x,(List.range a).all (dcC n l x)=true->dcS n k l x=He n k (l++[x])) (λx h=>by
   rw[<-s,Ty]at h
   exact gl h)
  have X:=gd (∀x ai,dcC n l x ai=(decide (l.getD ai 0≠x)||(decide (ai/n≠a/n)&&decide (ai%n≠a%n)))) (λx ai=>by rw[<-s];rfl)
  have Y:=gd (∀(bK:gA) ai,bK.length=n*n->bK.take a=l->ai<a->(jj bK).getD ai 0=(l.getD ai 0:Nat)) (λbK ai e f o=>by
   rw[mL,<-f,gc (l:=bK.take a),o9,gl o,<-gc])
  have ao:=gd (∀(bK:gA) x,bK.length=n*n->bK.take a=l->(bK.set a x).length=n*n/\(bK.set a x).take (a+1)=l++[x]) (λbK x e f=>adb e Oa f);have ag:=gd (∀(bK:gA) x,bK.take (l++[x]).length=l++[x]->bK.take a=l) (λbK x h=>YA s h);have y:=gd (∀(z:Option gA)(bK:gA)(i:World),He n (k+1) l=z->OI B i (.slice (some ⟨g,0,none⟩) (n*n) c) (jj bK)->bK.length=n*n->bK.take a=l->(∀m,z=some m->bK=m)->OnR n (k+1) l B (.slice (some ⟨g,0,none⟩) (n*n) c) (.returned (.bool z.isSome)) i) (λz bK i e f o h4 h5=>⟨by rw[e],bK,f,o,by grind,λm F=>h5 m (e.symm.trans F)⟩);have ak:=gd (∀bK:gA,bK.length=n*n->(jj bK).length=n*n) (λbK h=>by rw[jw,h]);have aA:=gb zt;have I:=ju E S b;have aC:a<n*n:=Oa;have an:=gd (∀(x:Nat)(j:Ending)(i:World),OnR n k (l++[x]) B (.slice (some ⟨g,0,none⟩) (n*n) c) j i->j= .returned (.bool (He n k (l++[x])).isSome)/\∃cs:gA,OI B i (.slice (some ⟨g,0,none⟩) (n*n) c) (jj cs)/\cs.length=n*n/\cs.take (l++[x]).length=l++[x]/\∀m,He n k (l++[x])=some m->cs=m) (λx j i h=>h);have aS:¬(n:Int)=0:=Oa;have d1:(a:Int).tdiv (n:Int)=((a/n:Nat):Int):=(iS _ _).symm;have d2:(a:Int).tmod (n:Int)=((a%n:Nat):Int):=(gO _ _).symm;have d3:a/n<=a:=jg _ _;have d4:a%n<=a:=Y4 _ _;clear E S b s hk;generalize OnR n (k+1) l B (.slice (some ⟨g,0,none⟩) (n*n) c)=aJ at*;generalize He n (k+1) l=RR at*;generalize dcS n k l=DS at*;generalize n*n=M at*;generalize dcC n l=CC at*;obtain⟨aa,hf⟩:∃aa:Nat->Nat,∀H,l.getD H 0=aa H:=⟨λH=>l.getD H 0,λH=>rfl⟩;simp only[hf]at X Y;clear hf;generalize a/n=a1 at*;generalize a%n=a2 at*;have aK:((a:Int)==M)=false:=gL.2 Oa;have aL:¬(a:Int)=M:=Oa;go_enter func160,ntmps160;go_wp2;go_loopw [7,8,9,10] (λxv _ _ _ wr=>∃(x:Nat)(bK:gA),xv= .int .i64 x/\x<=n/\Hid (RR=(List.range' x (n-x)).findSome? DS)/\Hid (bK.length=M/\bK.take a=l)/\OI B wr (.slice (some ⟨g,0,none⟩) M c) (jj bK)/\Below B w wr) (λxv _ _ _ _=>n-(intOf xv).toNat)
  case atStart=>exact⟨0,cs,rfl,ge _,al,gb ⟨I.out.1,I.out.2.1⟩,I.out.2.2,f0 _ _⟩
  case round=>
   clear I al;obtain⟨x,bK,rfl,T,r,ce,b,v⟩:=hrel;by_cases ax:x<n
   ·have aI:(x:Int)<n:=(by omega);have aw:=gt hB v.size;have K:=gb (λai (hq:ai<a)=>(b.cell ai (by rw[ak.out bK ce.out.1];omega)).trans (by rw[Y.out bK ai ce.out.1 ce.out.2 hq]));have aO:=b.cell a (by rw[ak.out bK ce.out.1];exact aC);have aQ:=b.frozen a;obtain⟨s1,s2⟩:=b.stored a (x:Int);rw[aA.out]at s1;have ac:=v.grown s2 aw (λai j=>by grind);obtain⟨p1,p2⟩:=ao.out bK x ce.out.1 ce.out.2;have HI:=gR b v;have N:=gb (λn9=>aj.out x (bK.set a x) (((wr.drewN n9).setCell ⟨g,a,none⟩ (.int .i64 x))) p1 p2 (show OI B ((wr.drewN n9).setCell ⟨g,a,none⟩ (.int .i64 x)) (.slice (some ⟨g,0,none⟩) M c) (jj (bK.set a x))from s1) (gt aw s2.size));have U:=gb (λn9=>show Below B w ((wr.drewN n9).setCell ⟨g,a,none⟩ (.int .i64 x))from gM ac n9);have P:=gb (ap.out x);have Q:=gb (aq.out x);have A:=gb (am.out x ax);have C:=gb (λm=>ar.out x m ax);have J:=gb (X.out x);have W:=gb (λt=>ag.out t x);have O:=gb (an.out x);clear s1 s2 ac p1 p2 b v ap aq am ar X ao Y aj ag an;generalize He n k (l++[x])=DN at*;generalize CC x=CX at*;generalize (l++[x])=lx at*;obtain⟨R,aB⟩:∃R,R=wr:=⟨_,rfl⟩;subst aB;go_wp2;go_loopw [8,9] (λzv qv wq=>∃(ai n9:Nat)(z:Bool),zv= .bool z/\qv= .int .i64 ai/\ai<=a/\Hid (z=(List.range ai).all CX)/\wq=R.drewN n9) (λzv qv _=>(match zv with| .bool true=>1|_=>0)+(a-(intOf qv).toNat))
    case atStart=>exact⟨0,0,true,rfl,rfl,ge _,gb rfl,rfl⟩
    case round=>
     obtain⟨ai,n9,z,rfl,rfl,hq,d,rfl⟩:=hrel;cases z with
     |false=>
      have dS:=gb (r.out.trans (A.out (P.out (aeU d.out.symm hq))));clear A P Q C N K J d O;by_cases av:ai<a
      ·have ad:(ai:Int)<a:=(by omega);exact Sn
      ·have ad:¬(ai:Int)<a:=(by omega);exact Sn
     |true=>
      by_cases av:ai<a
      ·have ad:(ai:Int)<a:=(by omega);have aP:=K.out ai av;have ae:=ZU (p:=CX) ai;rw[<-d.out,BH,J.out ai]at ae;have e1:(ai:Int).tdiv (n:Int)=((ai/n:Nat):Int):=(iS _ _).symm;have e2:(ai:Int).tmod (n:Int)=((ai%n:Nat):Int):=(gO _ _).symm;have e3:ai/n<=ai:=jg _ _;have aG:(ai:Int)<M:=Oa;have fs:=gb ae;clear A P Q C N K J d O ae HI W r y U ah;generalize aa ai=ay at*;generalize ai/n=q1 at*;generalize ai%n=q2 at*;by_cases e:ay=x
       ·subst e;by_cases f:q1=a1
        ·subst f;exact O4
        ·have ac:((q1:Int) !=a1)=true:=(by rw[iT];omega);by_cases o:q2=a2
         ·subst o;exact O4
         ·have aN:((q2:Int) !=a2)=true:=(by rw[iT];omega);have bo:=gb (show true=(List.range (ai+1)).all CX by rw[fs.out];simp[f,o]);exact MD
       ·have aM:((ay:Int) !=x)=true:=(by rw[iT];omega);have bo:=gb (show true=(List.range (ai+1)).all CX by rw[fs.out];simp[e]);exact MD
      ·obtain rfl:ai=a:=(by omega);have ad:¬(ai:Int)<ai:=Oa;have L:=gb (Q.out d.out.symm);have Z:=gb (N.out n9);have V:=gb (U.out n9);have aG:(ai:Int)<M:=Oa;clear P Q N K J d U HI;obtain⟨W2,ab⟩:∃W2,(R.drewN n9).setCell ⟨g,ai,none⟩ (.int .i64 x)=W2:=⟨_,rfl⟩;rw[ab]at Z V;go_wp2_with fail
       try rw[ab]
       refine Z.out.mono ?_;rintro j w5 ⟨D,au⟩;obtain⟨rfl,t,o2,l2,t2,v2⟩:=O.out _ _ D;have af:=gb (V.out.trans au);have q:=oB o2 l2 t2 v2;clear D au o2 l2 t2 v2 Z O V ab;cases DN with
       |some m=>
        have d:=gb (y.out (some m) t w5 (r.out.trans (C.out m L.out)) q.out.1 q.out.2.1 (W.out t q.out.2.2.1) (λm2 h=>q.out.2.2.2 m2 h));clear y r C L;go_wp2;go_ret;exact⟨d.out,af.out⟩
       |none=>
        have dS:=gb (r.out.trans (A.out L.out));have az:=gR q.out.2.1 (W.out t q.out.2.2.1);clear y r C L A;go_wp2;go_roundw
        case rel=>exact⟨x+1,t,by go_num,by omega,dS,az,q.out.1,af.out⟩
        case measure=>exact gQ
   ·obtain rfl:x=n:=(by omega);have aI:¬(x:Int)<x:=Oa;have d:=gR (y.out none bK wr (by rw[r.out,ah.out]) b ce.out.1 ce.out.2 (λm F=>by cases F)) v;clear b v;go_wp2;go_ret;exact d.out
theorem Jd(n:Nat)(w:World):
 Calls prog 196 #[.int .i64 n] w λe f=>e= .returned (.bool (decide (1<=n/\n<=8)))/\w=f:=by
 by_cases a:1<=n
 ·have c:(1:Int)<=n:=(by omega);by_cases b:n<=8
  ·have d:(n:Int)<=8:=(by omega);have HE:=gb (show decide (1<=n/\n<=8)=true from gy ⟨a,b⟩);exact PY
  ·have d:¬(n:Int)<=8:=(by omega);have HE:=gb (show decide (1<=n/\n<=8)=false from gp (λh=>b h.2));exact PY
 ·have c:¬(1:Int)<=n:=(by omega);have HE:=gb (show decide (1<=n/\n<=8)=false from gp (λh=>a h.1));exact PY
def exO(v:Nat)(x:Int):Bool:=decide (x<0)||decide ((v:Int)<=x)
theorem aa1(v:Nat)(x:Int)(b:Nat)(w:World)(d:w.cell? ⟨b,0,none⟩=some (.int .i64 v)):
 Calls prog 197 #[.int .i64 x,.pointer (some ⟨b,0,none⟩)] w λe a=>e= .returned (.bool (exO v x))/\w=a:=by
 by_cases h:x<0
 ·have hE:=gd (exO v x=true) (by grind [exO]);exact PZ
 ·by_cases c:(v:Int)<=x
  ·have hE:=gd (exO v x=true) (by unfold exO;grind);exact PZ
  ·have hE:=gd (exO v x=false) (by grind [exO]);exact PZ
theorem L7(v:Nat)(b:Nat)(w:World)(a:w.cell? ⟨b,0,none⟩=some (.int .i64 v)):x8 197 #[.pointer (some ⟨b,0,none⟩)] (exO v) w where
 enter:=jI func197 Ob Ob
 calls:=λx _=>aa1 v x b w a
theorem afF(v:Nat)(l:gA):(jj l).any (exO v)=l.any λn=>decide (v<=n):=Mc
theorem aki(w:World):(zeroValue 230).run prog w= .ok (.agg (Array.replicate 64 (.bool false))) w:=Ob
theorem ae3:qM (λ_=>false)=List.replicate 64 (.bool false):=by rfl
theorem alU(w:World):(zeroValue 230).run prog w= .ok (.agg (qM λ_=>false).toArray) w:=by
 rw[aki,ae3,aho]
theorem YM(n:Nat)(v:Value)(l:gA)(w:World)(ax:1<=n)(D:n<=8)(Y:Sl w v (jj l))(C:∀H,H<l.length->l.getD H 0<n)(az:l.length<=n*n):
 Calls prog 198 #[.int .i64 n,v] w λs w'=>s= .returned (.bool (oP n l))/\gm w w':=by
 obtain⟨R,ar,ab,rfl,hN,aw,ay⟩:=Y.open;rw[show(jj l).length=l.length from jw l]at hN;have av:ab<=n*n:=Ut;have aA:n*n<=8*8:=gE D D;have HQ:=gd (∀H,H<ab->H/n<n) (λH hi=>akr Oa)
 have dB:=gd (ab=0\/∃b an,R=some ⟨b,an,none⟩/\b<w.heap.size/\∀H,H<ab->w.cell? ⟨b,an+H,none⟩=some (.int .i64 ((l.getD H 0:Nat):Int))) (by
  exact PT)
 have aa:=gd (∀H,H<ab->l.getD H 0<n) (λH hi=>C H OZ);have aj:=gb (λH (hi:H<ab)=>akd (n:=n) (l:=l) D C (i:=H) OZ);have ah:=gb (λH (hi:H<ab)=>akc (n:=n) (l:=l) D C (i:=H) OZ);have ai:=gd ((∀H,H<ab->Cp n l H (H/n*8+l.getD H 0)=false/\Co n l H (H%n*8+l.getD H 0)=false)->oP n l=false) (λh=>akg (λH hi=>h H DK));have ag:=gb (YV n l);have Z:=gb (YU n l);have Q:=gd (Cp n l 0=λ_=>false) rfl;have P:=gd (Co n l 0=λ_=>false) rfl;generalize oP n l=G at*;generalize Cp n l=e at*;generalize Co n l=d at*;have HZ:=alU;clear ay Y C az hN;go_enter func198,ntmps198;go_wp2;have a:hU ((w.alloc (.cells (qM λ_=>false).toArray 230)).alloc (.cells (qM λ_=>false).toArray 230)) w.heap.size 230 (qM (e 0)):=by rw[Q.out];exact(hU.new w _ _).alloc _
 have c:hU ((w.alloc (.cells (qM λ_=>false).toArray 230)).alloc (.cells (qM λ_=>false).toArray 230)) (w.heap.size+1) 230 (qM (d 0)):=by
  rw[P.out];have:=hU.new (w.alloc (.cells (qM λ_=>false).toArray 230)) 230 (qM λ_=>false);exact OK
 have T:Below w.heap.size w ((w.alloc (.cells (qM λ_=>false).toArray 230)).alloc (.cells (qM λ_=>false).toArray 230)):=((f0 _ _).alloc (fZ _) _).alloc On _;have B:=ju a c T;clear a c T HZ Q P;go_loopw [11] (λM wr=>∃H:Nat,H<=ab/\M= .int .i64 H/\hU wr w.heap.size 230 (qM (e H))/\hU wr (w.heap.size+1) 230 (qM (d H))/\gm w wr/\Hid (∀j,j<H->e j (j/n*8+l.getD j 0)=false/\d j (j%n*8+l.getD j 0)=false)) (λM _=>ab-(intOf M).toNat)
 case atStart=>exact⟨0,ge _,rfl,B.out.1,B.out.2.1,B.out.2.2,gb (λj h=>by omega)⟩
 case round=>
  clear B;obtain⟨H,hi,rfl,a,c,t,X⟩:=hrel;by_cases y:H<ab
  ·have ao:(H:Int)<ab:=(by omega);obtain⟨b,an,rfl,al,V⟩:∃b an,R=some ⟨b,an,none⟩/\b<w.heap.size/\∀H,H<ab->w.cell? ⟨b,an+H,none⟩=some (.int .i64 ((l.getD H 0:Nat):Int)):=Pe;have c1:=(t.cell (p:=⟨b,an+H,none⟩) al).trans (V H y);have hx:=aa.out H y;have hq:=HQ.out H y;have hr:H%n<n:=iD _ Oa;have o:=aj.out H y;have k:=ah.out H y;have i:=ag.out H;have f:=Z.out H;have am:(H:Int).tdiv (n:Int)=((H/n:Nat):Int):=(by grind);have ap:(H:Int).tmod (n:Int)=((H%n:Nat):Int):=(gO _ _).symm;have ad:=gb (λj (W:j<H)=>X.out j W);clear V;obtain⟨x,L⟩:∃x,l.getD H 0=x:=⟨_,rfl⟩;have ak:=gb L;rw[L]at c1 hx o k i f;obtain⟨q,J⟩:∃q,H/n=q:=⟨_,rfl⟩;have ae:=gb J;rw[J]at hq o i am;obtain⟨r,K⟩:∃r,H%n=r:=⟨_,rfl⟩;have af:=gb K;rw[K]at hr k f ap;have E:=a.cell (q*8+x);have N:=c.cell (r*8+x);rw[vN _ Oa]at E N;have f1:=a.frozen (q*8+x);have f2:=c.frozen (r*8+x);have aB:q<8:=Oa;have aC:r<8:=Oa;have aD:x<8:=Oa;have HB:=gb t;have O:=gR a c;clear L J K t a c;cases e1:e H (q*8+x)with
   |true=>
    rw[e1]at E;obtain rfl:G=true:=o e1;clear e1 o k i f;exact MW
   |false=>
    rw[e1]at E;cases e2:d H (r*8+x)with
    |true=>
     rw[e2]at N;obtain rfl:G=true:=k e2;clear e1 e2 o k i f;exact MW
    |false=>
     rw[e2]at N
     have ac:=gd (∀j,j<H+1->e j (j/n*8+l.getD j 0)=false/\d j (j%n*8+l.getD j 0)=false) (λj W=>by
      by_cases s:j=H
      ·rw[s,ak.out,ae.out,af.out]
       grind
      ·exact ad.out j Oa)
     have aE:wr.drew.cell? ⟨w.heap.size,q*8+x,none⟩=_:=E;have au:wr.drew.frozen? ⟨w.heap.size,q*8+x,none⟩=_:=f1;have z:=O.out.1.stored (q*8+x) (.bool true);rw[GQ (g:=e (H+1)) Oa (λj=>by rw[i])]at z;have A:=(O.out.2.kept z.2 On).stored (r*8+x) (.bool true);rw[GQ (g:=d (H+1)) Oa (λj=>by rw[f])]at A;have S:=z.1.kept A.2 On;have I:=HB.out.grown z.2 HB.out.size (λaq s=>by grind);have U:=I.grown A.2 I.size (λaq s=>by grind);have F:=ju S A.1 U;clear e1 e2 o k i f z A S I U;go_wp2;go_region
     all_goals
      go_wp2;go_roundw
      case rel=>exact⟨H+1,by omega,by go_num,F.out.1,F.out.2.1,F.out.2.2.drew,ac⟩
      case measure=>exact gQ
  ·obtain rfl:H=ab:=(by omega);have ao:¬(H:Int)<H:=Oa;obtain rfl:G=false:=ai.out X.out;have HB:=gb t;clear t a c;exact MW
structure aeO(B:Nat)(A C:World)(u:Value):Prop where
 size:A.heap.size<=C.heap.size
 same:∀r,B<=r->r<A.heap.size->u.ownBlock≠some r->C.heap[r]? =A.heap[r]?
def y0(A:World)(u a:Value):Prop:=∀g,a.ownBlock=some g->u.ownBlock=some g\/A.heap.size<=g
def akD(P:Program)(gf:Nat)(lb:Array Value)(h:Nat->Int)(f:World->Prop)(N:Nat):Prop:=
 ∀(l:Nat)(J c:Nat->Value->World->Prop)(W:World),
  (∀k a A,J k a A->f A/\k<N/\∀g,a.ownBlock=some g->g<A.heap.size)->
  (∀k a A C d,J k a A->A.grownBy C d->(∀r,d=some r->W.heap.size<=r/\a.ownBlock≠some r)->J k a C)->
  (∀k a A,J k a A->YieldAt Fence.wide 0 P l #[.int .i64 (h k)] A λe C=>
    (e= .returned (.bool true)/\∃b,J (k+1) b C/\aeO W.heap.size A C a/\y0 A a b)\/(e= .returned (.bool false)/\∃b,c (k+1) b C))->
  J 0 (.slice none 0 0) W->
  CallsIn Fence.wide 0 P gf (#[.func (.yield l) #[] #[]]++lb) W λe C=>(∃v,e= .returned v)/\∃k a,c k a C
def aaU(B:Nat)(I:Nat->Value->World->Prop)(c:Code->Nat->Value->World->Prop)(k:Nat)(u:Value)(W:World):Exit->Act->World->Prop
 | .normal,_,a=>KeepsOthers W a/\∃b,I (k+1) b a/\aeO B W a u/\y0 W u b
 | .ret,_,a=>KeepsOthers W a/\∃b,c .ret (k+1) b a
 | .exit id,_,a=>KeepsOthers W a/\∃b,c (.exit id) (k+1) b a
 | .goto t,_,a=>KeepsOthers W a/\∃b,c (.goto t) (k+1) b a
 | .panic _,_,_=>False
 | .outgrown,_,_=>False
theorem N0{P:Program}{g:Operand}{M:Array Tmp}{assign body:Code}{Z:Exit->Act->World->Prop}{a:Act}{w:World}{gf:Nat}{lb:Array Value}
 (hg:a.eval g= .func (.func gf) #[] lb) (eg:∀D w,(callFunc gf D).run P w= .ok (.enter gf D) w) (au:M.size=1)
 {Y:Nat->Int} {aa:World->Prop} {N:Nat} (hE:akD P gf lb Y aa N)
 (I:Nat->Value->World->Prop) (i:Code->Nat->Value->World->Prop)
 (O:∀k b A C H,I k b A->A.grownBy C H->(∀r,H=some r->w.heap.size<=r/\b.ownBlock≠some r)->I k b C)
 (aj:∀c k b A C H,i c k b A->A.grownBy C H->(∀r,H=some r->w.heap.size<=r/\b.ownBlock≠some r)->i c k b C)
 (hJ:∀k b A,I k b A->aa A/\k<N/\∀g,b.ownBlock=some g->∃o:Obj,A.heap[g]? =some o/\o.isCells=true)
 (aA:∀c k b A,i c k b A->∀g,b.ownBlock=some g->∃o:Obj,A.heap[g]? =some o/\o.isCells=true)
 (h0:I 0 (.slice none 0 0) w) (a₁:Int->Act)
 (an:∀(l:Nat)(x:Int)(W:World)(K:Act->World->Prop),K (a₁ x) W->
   assign.wpIn (Fence.wide.inRound l) 0 P (Exit.then K (λ_ _ _=>False)) {tmps:=(M.zip #[.int .i64 x]).foldl (λX (ax,J)=>X.setIfInBounds ax J) a.tmps,defers:=[]} W)
 (ao:∀(l k:Nat)(b:Value)(W:World),I k b W->body.wpIn (Fence.wide.inRound l) 0 P (aaU (w.heap.size+2) I i k b W) (a₁ (Y k)) W)
 (aw:∀(Q:Nat)(c:Code)(k:Nat)(b:Value)(W:World),w.heap.size<=Q->i c k b W->W.heap[Q]? =some (.deferred (some []))->c.wp P Z {a with defers:={target:= .collected Q,args:= #[]}::a.defers} W):
 (Code.rangeFunc g M assign body).wp P Z a w:=by
 refine(vI (n:=0)).1 (wpIn_rangeFunc λfn _=> ?_);obtain⟨d,y⟩:∃d:LoopState->Option Code->Loop,d=λst pe=>{state:=st,pending:=pe,fn,tmps:=a.tmps,params:=M,assign,body,defers:=w.heap.size}:=⟨_,rfl⟩;obtain⟨V,L⟩:∃V,(w.alloc (.deferred (some []))).alloc (.loop (d .ready none))=V:=⟨_,rfl⟩;have aB:V.heap.size=w.heap.size+2:=by rw[<-L];simp
 have am:V.heap[w.heap.size+1]? =some (.loop (d .ready none)):=by
  rw[<-L];have:=y5 (w.alloc (.deferred (some []))) (.loop (d .ready none))
  rwa [iV]at this
 have ak:V.heap[w.heap.size]? =some (.deferred (some [])):=by
  rw[<-L];exact(Below.heap_alloc _ _ _ On).trans (y5 w _)
 have al:I 0 (.slice none 0 0) V:=by
  rw[<-L];exact O _ _ _ _ none (O _ _ _ _ none h0 (oH _ _ none) (λr e=>by cases e)) (oH _ _ none) (λr e=>by cases e)
 have akb:∀{k:Nat}{b:Value}{A:World}{o:Obj}(z:Obj),I k b A->A.heap[w.heap.size+1]? =some o->o.isCells=false->I k b (A.putObj (w.heap.size+1) z):=by
  intro k b A o z t ho hc;refine O _ _ _ _ _ t (rD A _ z) λr e=> ?_
  grind
 have ae:∀{c:Code}{k:Nat}{b:Value}{A:World}{o:Obj}(z:Obj),i c k b A->A.heap[w.heap.size+1]? =some o->o.isCells=false->i c k b (A.putObj (w.heap.size+1) z):=by
  intro c k b A o z t ho hc;refine aj _ _ _ _ _ _ t (rD A _ z) λr e=> ?_
  grind
 refine⟨w.heap.size+1,[{target:= .collected w.heap.size,args:= #[]}],V,{target:= .fn (.func gf) lb,args:= #[.func (.yield (w.heap.size+1)) #[] #[]]},V,gf,
  #[.func (.yield (w.heap.size+1)) #[] #[]]++lb,V,?_,?_,λ_ _=>trivial,?_,λac=>by simp[Fence.wide]at ac,?_⟩
 ·show(Instr.enterLoop fn a.tmps M assign body none).run P w=_;rw[<-L,y];exact run_enterLoop_outer _ _ _ _ _
 ·simp only[resolve,hg];simp[go_sem]
 ·simp[invoke,go_sem,eg]
 refine(hE (w.heap.size+1) (λk b A=>I k b A/\A.heap[w.heap.size+1]? =some (.loop (d .ready none))/\A.heap[w.heap.size]? =some (.deferred (some [])))
  (λk b A=>∃c,i c k b A/\A.heap[w.heap.size+1]? =some (.loop (d .done (some c)))/\A.heap[w.heap.size]? =some (.deferred (some []))) V ?_ ?_ ?_ ⟨al,am,ak⟩).mono ?_
 ·rintro k b A ⟨t,_,_⟩
  grind
 ·rintro k b A C H ⟨t,j,F⟩ T h;refine⟨O _ _ _ _ _ t T λr e=>⟨by grind,(h r e).2⟩,?_,?_⟩
  ·rw[T.block _ (gZ.1 j).1 (λe=>by grind)];exact j
  ·rw[T.block _ (gZ.1 F).1 (λe=>by grind)];exact F
 ·
  rintro k b A ⟨t,j,F⟩;have aq:=(gZ.1 j).1;have hy:=run_yield (P:=P) (args:= #[.int .i64 (Y k)]) j (by rw[y];simp[au]);rw[y]at hy;refine⟨fn,_,assign,body,hy,roundIn_of_wpIn trivial (an _ _ A _ ⟨_,run_beginRound j (by rw[y]),?_⟩)⟩;obtain⟨B,E⟩:∃B,A.putObj (w.heap.size+1) (.loop {d .ready none with state:= .busy})=B:=⟨_,rfl⟩;have ah:B.heap[w.heap.size+1]? =some (.loop {d .ready none with state:= .busy}):=(by rw[<-E];exact ahu aq);have af:B.heap[w.heap.size]? =some (.deferred (some [])):=(by rw[<-E];exact(ld Oa).trans F);have az:B.heap.size=A.heap.size:=(by rw[<-E];simp);have ai:∀r,w.heap.size+2<=r->B.heap[r]? =A.heap[r]? :=(λr ac=>by rw[<-E];exact ld Oa);have ag:I k b B:=(by rw[<-E];exact akb _ t j rfl);rw[E];refine wpIn_mono (ao _ k b B ag) ?_
  have ab:∀(f:Option Code)(C:World),KeepsOthers B C->
   (Instr.endRound (w.heap.size+1) f).run P C= .ok (.bool f.isNone) (C.putObj (w.heap.size+1) (.loop (d (if f.isNone then .ready else .done) f)))/\
   C.heap[w.heap.size+1]? =some (.loop {d .ready none with state:= .busy})/\
   (C.putObj (w.heap.size+1) (.loop (d (if f.isNone then .ready else .done) f))).heap[w.heap.size+1]? =some (.loop (d (if f.isNone then .ready else .done) f))/\
   (C.putObj (w.heap.size+1) (.loop (d (if f.isNone then .ready else .done) f))).heap[w.heap.size]? =some (.deferred (some [])):=by
   intro f C G;have s:=G.same _ _ ah rfl;have h:=run_endRound (P:=P) f s;rw[y]at h s⊢;exact⟨h,s,ahu (gZ.1 s).1,(ld Oa).trans (G.same _ _ af rfl)⟩
  have stop:∀(c:Code)(C:World),KeepsOthers B C->(∃p,i c (k+1) p C)->∃J v,(Instr.endRound (w.heap.size+1) (some c)).run P C= .ok J v/\
   ((Ending.returned J= .returned (.bool true)/\∃p,(I (k+1) p v/\v.heap[w.heap.size+1]? =some (.loop (d .ready none))/\v.heap[w.heap.size]? =some (.deferred (some [])))/\aeO V.heap.size A v b/\y0 A b p)\/
    (Ending.returned J= .returned (.bool false)/\∃p c,i c (k+1) p v/\v.heap[w.heap.size+1]? =some (.loop (d .done (some c)))/\v.heap[w.heap.size]? =some (.deferred (some [])))):=by
   rintro c C G ⟨p,U⟩;obtain⟨h,s,R,S⟩:=ab (some c) C G;exact⟨_,_,h,.inr ⟨rfl,p,c,ae _ U s rfl,R,S⟩⟩
  rintro e a3 C q;cases e with
  |normal=>
   obtain⟨G,p,ap,ad,ar⟩:=q;obtain⟨h,s,R,S⟩:=ab none C G;refine⟨_,_,h,.inl ⟨rfl,p,⟨akb _ ap s rfl,R,S⟩,⟨?_,λr aC aD av=> ?_⟩,λay hq=> ?_⟩⟩
   ·have:=ad.size;simp;exact Oa
   ·rw[ld Oa,ad.same r Oa Oa av,ai r Oa]
   ·have:=ar ay hq
    grind
  |ret=>exact stop .ret C q.1 q.2
  |exit id=>exact stop (.exit id) C q.1 q.2
  |goto X=>exact stop (.goto X) C q.1 q.2
  |panic ch=>exact q.elim
  |outgrown=>exact q.elim
 ·
  rintro e C ⟨⟨J,rfl⟩,k,b,c,U,j,F⟩;have h:=run_endLoop (P:=P) j (by rw[y];simp);rw[y]at h;exact⟨some c,_,h,vI.2 (aw _ c k b _ (fZ _) (ae _ U j rfl) ((ld Oa).trans F))⟩
section
open Go.Shelf
def abD:Ren:=⟨λx=>match x with|189=>268|125=>282|257=>292|128=>310|129=>296|294=>320|295=>321|296=>322|297=>323|298=>324|299=>325|216=>326|300=>327|301=>328|328=>340|329=>333|330=>334|331=>341|332=>342|215=>311|343=>345|n=>n,λx=>match x with|28=>45|3=>3|46=>126|0=>0|51=>160|53=>188|4=>4|183=>278|182=>277|131=>77|5=>5|9=>9|218=>295|222=>299|228=>307|229=>198|n=>n,λn=>n⟩
theorem alb:Lays.n189 prog abD where
 mixed:=Ob
 f125:=jF func282
 f128:=jF func310
 f129:=jF func296
 f189:=jF func268
 f215:=jF func311
 f216:=jF func326
 f257:=jF func292
 f294:=jF func320
 f295:=jF func321
 f296:=jF func322
 f297:=jF func323
 f298:=jF func324
 f299:=jF func325
 f300:=jF func327
 f301:=jF func328
 f328:=jF func340
 f329:=jF func333
 f330:=jF func334
 f331:=jF func341
 f332:=jF func342
 f343:=jF func345
 t0:=underlying0
 a0:=isAgg0
 z0:=sizeOf0
 v0:=zeroValue0
 t3:=underlying3
 a3:=isAgg3
 z3:=sizeOf3
 v3:=zeroValue3
 t4:=underlying4
 a4:=isAgg4
 z4:=sizeOf4
 v4:=zeroValue4
 t5:=underlying5
 a5:=isAgg5
 z5:=sizeOf5
 v5:=zeroValue5
 t9:=underlying9
 a9:=isAgg9
 z9:=sizeOf9
 v9:=zeroValue9
 t28:=underlying45
 a28:=isAgg45
 z28:=sizeOf45
 v28:=zeroValue45
 t46:=underlying126
 a46:=isAgg126
 z46:=sizeOf126
 v46:=zeroValue126
 t51:=underlying160
 a51:=isAgg160
 z51:=sizeOf160
 v51:=zeroValue160
 t53:=underlying188
 a53:=isAgg188
 z53:=sizeOf188
 v53:=zeroValue188
 t131:=underlying77
 a131:=isAgg77
 z131:=sizeOf77
 v131:=zeroValue77
 t182:=underlying277
 a182:=isAgg277
 z182:=sizeOf277
 v182:=zeroValue277
 t183:=underlying278
 a183:=isAgg278
 z183:=sizeOf278
 v183:=zeroValue278
 t218:=underlying295
 a218:=isAgg295
 z218:=sizeOf295
 v218:=zeroValue295
 t222:=underlying299
 a222:=isAgg299
 z222:=sizeOf299
 v222:=zeroValue299
 t228:=underlying307
 a228:=isAgg307
 z228:=sizeOf307
 v228:=zeroValue307
 t229:=underlying198
 a229:=isAgg198
 z229:=sizeOf198
 v229:=zeroValue198
open Go.Sort Go.Lib
theorem Jf(l:gP)(B g c:Nat)(w:World)(h:OI B w (.slice (some ⟨g,0,none⟩) l.length c) l)(D:l.length<=1000000000):
 Calls prog 268 #[.slice (some ⟨g,0,none⟩) l.length c] w λe b=>
  e= .returned (.tuple #[])/\OI B b (.slice (some ⟨g,0,none⟩) l.length c) (l.mergeSort λx y=>decide (x<=y))/\w.grownBy b (some g):=by
 obtain⟨o,d⟩:=h;rw[gv]at o d;rcases d with⟨p,_⟩|⟨k,j,C,E,q,a,v,r,s,f⟩
 ·cases p
 obtain⟨rfl,rfl⟩:g=k/\c=j:=by grind
 rw[qT]at f;have z:=Any.slices_Sort_int alb g 0 c l w (holds_of_blockI a f) (gZ.1 a).1 Oa;have A:Calls prog 268 #[.slice (some ⟨g,0,none⟩) l.length c] w _:=z;refine A.mono ?_;rintro e b ⟨rfl,n,i,rfl⟩;have t:(l.mergeSort λx y=>decide (x<=y)).length=l.length:=aic l;refine⟨rfl,?_,grownBy_sortedI _⟩;have:=ownsRow_sortedI (n:=n) (os:=i) t q a v r s
 grind [OI,Ow]
def Il:Ren:=⟨λx=>match x with|125=>282|128=>310|129=>296|n=>n,λx=>match x with|46=>126|3=>3|51=>160|53=>188|4=>4|5=>5|9=>9|n=>n,λn=>n⟩
theorem abV:Lays.n125 prog Il where
 mixed:=Ob
 f125:=jF func282
 f128:=jF func310
 f129:=jF func296
 t3:=underlying3
 a3:=isAgg3
 z3:=sizeOf3
 v3:=zeroValue3
 t4:=underlying4
 a4:=isAgg4
 z4:=sizeOf4
 v4:=zeroValue4
 t5:=underlying5
 a5:=isAgg5
 z5:=sizeOf5
 v5:=zeroValue5
 t9:=underlying9
 a9:=isAgg9
 z9:=sizeOf9
 v9:=zeroValue9
 t46:=underlying126
 a46:=isAgg126
 z46:=sizeOf126
 v46:=zeroValue126
 t51:=underlying160
 a51:=isAgg160
 z51:=sizeOf160
 v51:=zeroValue160
 t53:=underlying188
 a53:=isAgg188
 z53:=sizeOf188
 v53:=zeroValue188
theorem rE(x:Nat)(w:World)(h:x<=1000):
 Calls prog 282 #[.int .u64 x] w λe a=>(∃n:Nat,n<=64/\e= .returned (.int .i64 n))/\a=w:=by
 have:=Any.bits_Len abV x w Oa Oa;refine this.mono ?_;rintro e a ⟨b,c⟩;exact⟨⟨_,Lib.bitLen_le _ 64 Oa Oa,b⟩,c⟩
theorem Np(w:World):
 Calls prog 320 #[.slice none 0 0,.int .i64 0,.int .i64 0] w λe a=>e= .returned (.tuple #[])/\w=a:=by
 go_enter func320,ntmps320;go_wp2;go_loopw [6] (λx wr=>x= .int .i64 1/\wr=w) (λ_ _=>0)
 case atStart=>grind
 case round=>
  obtain⟨rfl,rfl⟩:=hrel;exact Pc
theorem agE(n:Nat)(w:World)(b:n<=64):
 Calls prog 292 #[.slice none 0 0,.int .i64 0,.int .i64 0,.int .i64 n] w λe a=>e= .returned (.tuple #[])/\w=a:=by
 have HS:=gb (Np w);go_enter func292,ntmps292;go_wp2;go_loopw [1,2] (λx y wr=>x= .int .i64 0/\y= .int .i64 0/\wr=w) (λ_ _ _=>0)
 case atStart=>grind
 case round=>
  exact Rb
theorem adI(w:World):
 Calls prog 268 #[.slice none 0 0] w λe d=>e= .returned (.tuple #[])/\w=d:=by
 have b:=gb (rE 0 w Oa);have c:=gb (λn (a:n<=64)=>agE n w a);rw[show((0:Nat):Int)=0 from rfl]at b;go_enter func268,ntmps268;go_wp2_with fail;refine b.out.mono ?_;rintro e f ⟨⟨n,a,rfl⟩,rfl⟩;go_wp2_with fail;refine(c.out n a).mono ?_;rintro e g ⟨rfl,rfl⟩;go_wp2;go_end0
 grind
end
end Go.Proofs.YtnnaadmegeeinaaGreatDoor
