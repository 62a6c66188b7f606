/-
  Part 16 of a proof: what it proves stands in the last text.
-/
import Derived.Test.YtnnaadmegeeinaaGreatDoorYo
import Derived.Shelf.SlSortCmp.WholeK
import Derived.TacticsInMore
import Derived.LoopIn
set_option linter.all false
set_option maxHeartbeats 8000000
set_option maxRecDepth 100000
namespace Go.Proofs.YtnnaadmegeeinaaGreatDoor
open Tryz Go.Proofs.Tryz
open Go.RowKit
def mT:=@of_decide_eq_false
def nU:=@List.mem_of_mem_drop
def pL:=@callsIn_wide
def x3:=@Array.getElem?_modify
def Gj:=@getElem!_pos
def aet:=@Sort.heap_grow_old
def ah0:=@Array.getElem?_toList
theorem OU{p:Prop}(h:p:=by
 go_wp2_with (at_builtin;refine g8 wr _ _ 45 rfl rfl underlying45 info3 w.heap.size _ _ rfl fI rfl fx eb ?_;intro g7 c7 w8 aD au aI aU);have HF:=gb (fR.out _ _ _ aD au);clear aD au aI aU
 exact O9):p:=h
theorem O0{p:Prop}(h:p:=by
 show((results _ _).run _ _)=_
 simp[results,f117,asAddr,bx]):p:=h
theorem O7{p:Prop}(h:p:=by
 go_wp2;go_roundg (gk-1)
 case measure=>omega
 case rel=>exact⟨k+1,q',by omega,HA.out _ _ _ _ _ HJ.out au (λah e=>by cases e;exact⟨hB,cY.out⟩),by rw[eA.out];exact aD,λg hg e=>by
  rcases aI g hg with h|h
  ·subst h;exact cY.out e
  grind⟩):p:=h
theorem O9{p:Prop}(h:p:=by
 go_roundw
 case rel=>exact⟨T,by go_num,by omega,HF.out.1,HF.out.2⟩
 case measure=>exact gQ):p:=h
theorem M5{p:Prop}(h:p:=by
 refine⟨rfl,rfl,rfl,by simp,λk hk aK=> ?_⟩;rw[aet _ _ (by simpa using hk)];have:g≠k:=λe=>aK QU
 simp[putRow,mapBlock,Sort.ahead,x3,this]):p:=h
theorem S9{p:Prop}(h:p:=by
 subst h0;have hGp:G=p:=by rw[<-fw.out,Cv]
 subst hGp;go_wp2;go_ret
 exact⟨rfl,k,HK.out⟩):p:=h
theorem Un{p:Prop}(h:p:=by
 have h1:=bE.out;have h2:=iI n (show ax+1<=n by omega)
 grind):p:=h
theorem US{p:Prop}(h:p:=by
 rw[kT hj,ah0]
 simp[putCells,hj,show j<bV.size by omega]):p:=h
theorem UX{p:Prop}(h:p:=by have:=HR.out.p2;omega):p:=h
theorem De{p:Prop}(h:p:=by rw[<-fw.out,ss p ai,aks ai p,ss]):p:=h
theorem KP{p:Prop}(h:p:=by
 have bf:=((HY.out.2.grown bb.2 HY.out.2.size (λk e=>by grind)).grown aJ.2 (gt HY.out.2.size bb.2.size) (λk e=>by grind));have bx:=gV (P:=prog) _ _ _ 99 _ _ hF.range underlying99 rfl cm;refine⟨rfl,.tuple #[.agg #[.int .i64 0,.slice none 0 0],.int .i64 1],?_,⟨0,none,0,0,by rw[HE.out],λh=>absurd (HE.out.symm.trans h) Oc⟩,bf⟩
 exact O0):p:=h
theorem KY{p:Prop}(h:p:=by
 have hm:(p:Int).tmod (ai:Int)=((p%ai:Nat):Int):=(gO p ai).symm;have ap:p%ai<ai:=iD _ Oa;have HN:=gd (Nat.gcd ai (p%ai)=G) De;have eV:=gd (wr.drew=w.drewN (k+1)) (by rw[HK.out];rfl);generalize p%ai=ah at*;go_wp2;go_region
 exact Rp):p:=h
theorem PU{p:Prop}(h:p:=by
 have:=hU.new (w.alloc (.cells #[.int .i64 n] 3)) 99 [.int .i64 0,.slice none 0 0]
 exact OK):p:=h
theorem QV{p:Prop}(h:p:=by
 unfold nh
 exact Oa):p:=h
def ah4(n:Nat)(rs:kl)(d:Ending)(w':World):Prop:=∃(P:Int)(a:Option Addr)(c b:Nat),d= .returned (.tuple #[.agg #[.int .i64 P,.slice a c b],.int .i64 (nh n rs)])/\(nh n rs=0->P=n/\Sl w' (.slice a c b) (jj (tg n rs)))
theorem JZ(n:Nat)(rs:kl)(v:Value)(w:World)(g:RL w v (rs.map jj))(h:(n<1\/8<n)\/n<rs.length):
 Calls prog 117 #[.int .i64 n,v] w λs o=>ah4 n rs s o/\gm w o:=by
 have cm:(prog.info? 99).map (·.size)=some 2:=Ob;have c:=gb (λa=>Jd n a);have i:hU ((w.alloc (.cells #[.int .i64 n] 3)).alloc (.cells #[.int .i64 0,.slice none 0 0] 99)) (w.heap.size+1) 99 [.int .i64 0,.slice none 0 0]:=PU;have j:Below w.heap.size w ((w.alloc (.cells #[.int .i64 n] 3)).alloc (.cells #[.int .i64 0,.slice none 0 0] 99)):=((f0 _ _).alloc (fZ _) _).alloc On _;have HY:=gR i j;clear i j;by_cases f:n<1\/8<n
 ·have HE:=gd (nh n rs=1) (by
   have:po n rs=1:=gl f
   grind [nh])
  rw[gp Oa]at c;clear f h g;go_enter func117,ntmps117;go_wp2_with fail;refine(c.out _).mono ?_;rintro e a ⟨rfl,b⟩;rw[b]at HY;clear b;have t:a.cell? ⟨w.heap.size+1,0,none⟩=some (.int .i64 0):=HY.out.1.cell 0;have x:a.cell? ⟨w.heap.size+1,1,none⟩=some (.slice none 0 0):=HY.out.1.cell 1;have q:=HY.out.1.frozen 0;have r:=HY.out.1.frozen 1;go_wp2;have bb:=HY.out.1.stored 0 (.int .i64 0);have aJ:=bb.1.stored 1 (.slice none 0 0);have hF:hU ((a.setCell ⟨w.heap.size+1,0,none⟩ (.int .i64 0)).setCell ⟨w.heap.size+1,1,none⟩ (.slice none 0 0)) (w.heap.size+1) 99 [.int .i64 0,.slice none 0 0]:=aJ.1;exact KP
 ·have l:1<=n/\n<=8:=(by omega);have y:n<rs.length:=Oa
  have HE:=gd (nh n rs=3) (by
   have:po n rs=3:=by unfold po;omega
   grind [nh])
  obtain⟨A,B,M,rfl,d,_,_⟩:=g.open;rw[gv]at d;have C:(n:Int)<M:=(by have:=d.out;omega);rw[gy l]at c;have z:((w.alloc (.cells #[.int .i64 n] 3)).alloc (.cells #[.int .i64 0,.slice none 0 0] 99)).cell? ⟨w.heap.size,0,none⟩=some (.int .i64 n):=(((f0 (w.alloc (.cells #[.int .i64 n] 3)).heap.size _).alloc (fZ _) _).cell (p:=⟨w.heap.size,0,none⟩) On).trans (kY _ _ _);clear f h g y d l;go_enter func117,ntmps117;go_wp2_with fail;refine(c.out _).mono ?_;rintro e a ⟨rfl,b⟩;rw[b]at HY z;clear b;have t:a.cell? ⟨w.heap.size+1,0,none⟩=some (.int .i64 0):=HY.out.1.cell 0;have x:a.cell? ⟨w.heap.size+1,1,none⟩=some (.slice none 0 0):=HY.out.1.cell 1;have q:=HY.out.1.frozen 0;have r:=HY.out.1.frozen 1;go_wp2;have bb:=HY.out.1.stored 0 (.int .i64 0);have aJ:=bb.1.stored 1 (.slice none 0 0);have hF:hU ((a.setCell ⟨w.heap.size+1,0,none⟩ (.int .i64 0)).setCell ⟨w.heap.size+1,1,none⟩ (.slice none 0 0)) (w.heap.size+1) 99 [.int .i64 0,.slice none 0 0]:=aJ.1;have bf:=((HY.out.2.grown bb.2 HY.out.2.size (λk e=>by grind)).grown aJ.2 (gt HY.out.2.size bb.2.size) (λk e=>by grind));have bx:=gV (P:=prog) _ _ _ 99 _ _ hF.range underlying99 rfl cm;refine⟨rfl,.tuple #[.agg #[.int .i64 0,.slice none 0 0],.int .i64 3],?_,⟨0,none,0,0,by rw[HE.out],λh=>absurd (HE.out.symm.trans h) Oc⟩,bf⟩;exact O0
def ahG:Value->Nat
 | .slice _ k _=>k
 |_=>0
theorem Gx(n:Nat)(rs:kl)(v:Value)(w:World)(hv:RL w v (rs.map jj))(bG:∀m∈rs,∀x∈m,x<1000000000)(aw:1<=n)(W:n<=8)(hM:rs.length<=n):
 Calls prog 117 #[.int .i64 n,v] w λen w'=>ah4 n rs en w'/\gm w w':=by
 have cm:(prog.info? 99).map (·.size)=some 2:=Ob;have aq:=gb (λX=>Jd n X);rw[gy (show 1<=n/\n<=8 from⟨aw,W⟩)]at aq;have bv:po n rs=xu n [] rs:=by unfold po;omega
 have ap:=gd (∀an,xu n [] rs=an->an≠0->nh n rs=an) (λan h h2=>QV);have aF:=gd (xu n [] rs=0->nh n rs=if(BD n (n-rs.length) rs.flatten).isNone then 4 else 0) (λh=>QV);have aG:=gd (tg n rs=((BD n (n-rs.length) rs.flatten).getD [])) rfl;have N:=hv;obtain⟨aQ,ae,c,rfl,s,bA,aW⟩:=hv.open;rw[gv]at s;have aX:c<=n:=by rw[<-s.out];exact hM
 have aN:=gd (c=0\/∃q B,aQ=some ⟨q,B,none⟩/\q<w.heap.size/\∀i,i<c->∃y,w.cell? ⟨q,B+i,none⟩=some y/\Sl w y (jj (rs.getD i []))) (by
  rcases jz c with h0|h0
  ·exact Oa
  ·obtain⟨q,B,e1,e2,e3⟩:=aW h0;refine .inr ⟨q,B,e1,e2,λi Q=> ?_⟩;obtain⟨y,h1,h2⟩:=e3 i Q;refine⟨y,h1,?_⟩;have bF:i<rs.length:=by rw[s.out];exact Q
   grind)
 have aD:=gd (∀i,i<c->rs.drop i=rs.getD i []::rs.drop (i+1)) (λi Q=>by
  have bF:i<rs.length:=by rw[s.out];exact Q
  grind [List.drop_eq_getElem_cons])
 have aO:=gd (∀i,i<c->(rs.take (i+1)).flatten=(rs.take i).flatten++rs.getD i []) (λi Q=>by
  grind [List.take_add_one])
 have ad:=gd ((rs.take c).flatten=rs.flatten/\rs.drop c=[]) (by
  rw[<-s.out,vA,qr]
  grind)
 have aH:=gd (∀i,i<c->∀x∈jj (rs.getD i []),ja x) (λi Q=>by
  grind [FC])
 have bl:=gd (n-rs.length=n-c) (by rw[s.out]);rw[bl.out]at aF aG;have bg:=gd (∀d E rr,xu n d (E::rr)=if E.length≠n then 2 else if E.any (λae=>decide (n<=ae))then 1 else xu n (d++E) rr) (λd E rr=>rfl);have be:=gd (∀d,xu n d []=if oP n d then 6 else 0) (λd=>rfl);have bn:=gb (afF n);have F:=gb jw;have bo:=gd (∀l m:gA,jj l++jj m=jj (l++m)) (λl m=>by simp[jj]);have bp:=gb (λ(y:Value)(l:gA)(X:World) h1 h2 h3=>YM n y l X aw W h1 h2 h3);have bm:=gb (λ(ax:Nat)(l:gA)(bs:Option Addr)(c2:Nat)(X:World) h1 h2 h3 h4=>CV n aw W n ax l bs c2 X (fZ _) h1 h2 h3 h4);have bd:=gd (∀E l,BD n (E+1) l=match xa n n l with|some m=>BD n E m|none=>none) (λE l=>rfl);have bc:=gd (∀l,BD n 0 l=some l) (λl=>rfl);have br:=gb (λl m (h:xa n n l=some m)=>E5 n l m h);have bq:=gb (λl m hl (h:xa n n l=some m)=>L6 n l m hl h);have bT:¬(n:Int)<c:=Oa;have bU:¬n<c:=Oa
 have b:hU ((w.alloc (.cells #[.int .i64 n] 3)).alloc (.cells #[.int .i64 0,.slice none 0 0] 99)) (w.heap.size+1) 99 [.int .i64 0,.slice none 0 0]:=PU;have g:hU ((w.alloc (.cells #[.int .i64 n] 3)).alloc (.cells #[.int .i64 0,.slice none 0 0] 99)) w.heap.size 3 [.int .i64 n]:=(hU.new w _ _).alloc _;have aY:Below w.heap.size w ((w.alloc (.cells #[.int .i64 n] 3)).alloc (.cells #[.int .i64 0,.slice none 0 0] 99)):=((f0 _ _).alloc (fZ _) _).alloc On _;have HW:=ju b g aY;have a0:((w.alloc (.cells #[.int .i64 n] 3)).alloc (.cells #[.int .i64 0,.slice none 0 0] 99)).cell? ⟨w.heap.size,0,none⟩=some (.int .i64 n):=g.cell 0;have aA:w.heap.size+2<=((w.alloc (.cells #[.int .i64 n] 3)).alloc (.cells #[.int .i64 0,.slice none 0 0] 99)).heap.size:=On;clear b g aY N hv hM bG bv aW s bA;go_enter func117,ntmps117;go_wp2_with fail;refine(aq.out _).mono ?_;rintro e X ⟨rfl,a7⟩;rw[a7]at HW a0 aA;clear a7 aq;go_wp2;go_loopw [6,24] (λcv iv wr=>∃i:Nat,i<=c/\iv= .int .i64 i/\OI (w.heap.size+2) wr cv (jj (rs.take i).flatten)/\hU wr (w.heap.size+1) 99 [.int .i64 0,.slice none 0 0]/\hU wr w.heap.size 3 [.int .i64 n]/\gm w wr/\w.heap.size+2<=wr.heap.size/\Hid (xu n (rs.take i).flatten (rs.drop i)=xu n [] rs)/\Hid (((rs.take i).flatten).length=n*i/\∀x∈(rs.take i).flatten,x<n)) (λ_ iv _=>c-(intOf iv).toNat)
 case atStart=>exact⟨0,ge _,rfl,by grind [jj,OI.nil],HW.out.1,HW.out.2.1,HW.out.2.2,aA,gb On,gb On⟩
 case round=>
  clear HW a0 aA;obtain⟨i,Q,rfl,t,b,g,j,a4,aj,r⟩:=hrel;by_cases al:i<c
  ·have bH:(i:Int)<c:=(by omega);obtain⟨q,B,rfl,bD,a2⟩:∃q B,aQ=some ⟨q,B,none⟩/\q<w.heap.size/\∀i,i<c->∃y,w.cell? ⟨q,B+i,none⟩=some y/\Sl w y (jj (rs.getD i [])):=by
    rcases aN.out with h|h
    ·exact Oa
    ·exact h
   obtain⟨y,a5,a6⟩:=a2 i al;have c1:=(j.cell (p:=⟨q,B+i,none⟩) bD).trans a5;have aB:=a6.below j;have Z:=gb (aj.out);have bu:=aH.out i al;have ar:=gb (aO.out i al);have aE:=gb (aD.out i al);rw[aE.out,bg.out]at Z;have K:=g.cell 0;have K:wr.cell? ⟨w.heap.size,0,none⟩=some (.int .i64 n):=K;clear a2 a5 a6 aE aj;generalize rs.getD i []=I at*;obtain⟨ua,uc,aP,rfl,N,bZ,_⟩:=aB.open;rw[show(jj I).length=I.length from F.out I]at N;by_cases az:aP=n
   ·have bO:=az.symm;subst bO;have R:=gb (kU _ _ _ _ (jj I) wr aB bu (L7 n w.heap.size wr K));rw[bn.out]at R;have V:=Z.out;rw[gh (by rw[N.out];omega)]at V;cases ak:(I.any λae=>decide (n<=ae))with
    |true=>
     rw[ak]at R;have HE:=gd (nh n rs=1) (ap.out 1 (by grind) Oc);have HY:=gR b j;clear t r V Z ak;go_wp2_with fail;refine R.out.mono ?_;rintro e Y ⟨rfl,rfl⟩;have ah:wr.cell? ⟨w.heap.size+1,0,none⟩=some (.int .i64 0):=HY.out.1.cell 0;have ai:wr.cell? ⟨w.heap.size+1,1,none⟩=some (.slice none 0 0):=HY.out.1.cell 1;have af:=HY.out.1.frozen 0;have ag:=HY.out.1.frozen 1;go_wp2;have bb:=HY.out.1.stored 0 (.int .i64 0);have aJ:=bb.1.stored 1 (.slice none 0 0);have hF:hU ((wr.setCell ⟨w.heap.size+1,0,none⟩ (.int .i64 0)).setCell ⟨w.heap.size+1,1,none⟩ (.slice none 0 0)) (w.heap.size+1) 99 [.int .i64 0,.slice none 0 0]:=aJ.1;exact KP
    |false=>
     rw[ak]at R V;rw[gh Oc,<-ar.out]at V;have bj:=gb V;have bJ:∀x∈I,x<n:=λx A=>by
      grind
     have bh:=gd (((rs.take (i+1)).flatten).length=n*(i+1)/\∀x∈(rs.take (i+1)).flatten,x<n) (by
      rw[ar.out];refine⟨by rw[gz,r.out.1,N.out,mb],λx A=> ?_⟩;rcases li.1 A with h|h
      ·exact r.out.2 x h
      grind)
     have bI:((jj (rs.take i).flatten).map (Value.int .i64)).length+((jj I).map (Value.int .i64)).length<=1000000000000:=by
      rw[gv,gv,F.out,F.out,r.out.1,N.out];have:n*i<=8*8:=gE W Oa;exact Oa
     have a:=oB b g j a4;have ao:=gb t;clear V Z ak bJ b g j;go_wp2_with fail;refine R.out.mono ?_;rintro e Y ⟨rfl,rfl⟩;clear R;go_wp2_with (first|(at_builtin;refine nP (w:=wr) _ _ 45 3 (.int .i64 0) 8 rfl rfl underlying45 info3 rfl Oc (w.heap.size+2) _ _ _ _ rfl t rfl aB (wj _) bI a4 ?_;intro v4 w4 ay O bC;obtain⟨bt,c4,U⟩:=Ow.len ay;obtain⟨L4,aV⟩:∃L4,((jj (rs.take i).flatten).map (Value.int .i64)++(jj I).map (Value.int .i64)).length=L4:=⟨_,rfl⟩;rw[aV]at U;subst U;clear aV)|fail);have O:wr.grownBy w4 u6.ownBlock:=O;have a1:OI (w.heap.size+2) w4 (.slice bt L4 c4) (jj (rs.take (i+1)).flatten):=by
      rw[ar.out,<-bo.out];exact OI.ofApp ay
     have aT:=a.out.1.kept O (λe=>by have:=(ao.out.lt _ e.symm).1;omega);have aR:=a.out.2.1.kept O (λe=>by have:=(ao.out.lt _ e.symm).1;omega);have aZ:=a.out.2.2.1.grown O a.out.2.2.1.size (λk e=>by have:=(ao.out.lt _ e).1;omega);have a3:=gt a.out.2.2.2 O.size;have f:=vd a1 aT aR aZ a3;clear ay O bC a1 aT aR aZ a3 t;go_roundw
     case rel=>exact⟨i+1,by omega,by go_num,f.out.1,f.out.2.1,f.out.2.2.1,f.out.2.2.2.1,f.out.2.2.2.2,gb bj.out,gb bh.out⟩
     case measure=>exact gQ
   ·have bW:((aP:Int)==n)=false:=(by grind);have HE:=gd (nh n rs=2) (ap.out 2 (by rw[<-Z.out,gl (by rw[N.out];exact az)]) Oc);have HY:=gR b j;clear az t r;have ah:wr.cell? ⟨w.heap.size+1,0,none⟩=some (.int .i64 0):=HY.out.1.cell 0;have ai:wr.cell? ⟨w.heap.size+1,1,none⟩=some (.slice none 0 0):=HY.out.1.cell 1;have af:=HY.out.1.frozen 0;have ag:=HY.out.1.frozen 1;go_wp2;have bb:=HY.out.1.stored 0 (.int .i64 0);have aJ:=bb.1.stored 1 (.slice none 0 0);have hF:hU ((wr.setCell ⟨w.heap.size+1,0,none⟩ (.int .i64 0)).setCell ⟨w.heap.size+1,1,none⟩ (.slice none 0 0)) (w.heap.size+1) 99 [.int .i64 0,.slice none 0 0]:=aJ.1;have bf:=((HY.out.2.grown bb.2 HY.out.2.size (λk e=>by grind)).grown aJ.2 (gt HY.out.2.size bb.2.size) (λk e=>by grind));have bx:=gV (P:=prog) _ _ _ 99 _ _ hF.range underlying99 rfl cm;refine⟨rfl,.tuple #[.agg #[.int .i64 0,.slice none 0 0],.int .i64 2],?_,⟨0,none,0,0,by rw[HE.out],λh=>absurd (HE.out.symm.trans h) Oc⟩,bf⟩;exact O0
  ·obtain rfl:i=c:=(by omega);have bH:¬(i:Int)<i:=Oa;have M:=aj.out;rw[ad.out.1,ad.out.2,be.out]at M;rw[ad.out.1]at t r;obtain⟨ca,cc,e6⟩:=t.len;rw[F.out]at e6;subst e6;have bM:n*i<=n*n:=iI n aX;have bY:n*n<=8*8:=gE W W;have H:Sl wr (.slice ca rs.flatten.length cc) (jj rs.flatten):=t.sl (by rw[F.out,r.out.1];omega);have K:wr.cell? ⟨w.heap.size,0,none⟩=some (.int .i64 n):=g.cell 0
   have T:=gb (bp.out _ rs.flatten wr H (λb0 hj=>by
    rw[gc,gn hj,iQ]
    exact r.out.2 _ (iH hj)) (by rw[r.out.1];exact bM))
   have a:=vd b g j H t;have aC:=gb r.out;generalize rs.flatten=flat at*;obtain⟨FL,au⟩:∃FL,flat.length=FL:=⟨_,rfl⟩;rw[au]at T a;have ac:=gb au;clear t H b g j aj r au ad aN aD aO aH;cases am:oP n flat with
   |true=>
    rw[am]at T M;have HE:=gd (nh n rs=6) (ap.out 6 M.symm Oc);clear am M;rw[ac.out];go_wp2_with fail;refine T.out.mono ?_;rintro e Y ⟨rfl,z⟩;have aS:=a.out.1.below (z.mono (fZ _));have HY:=gR aS (a.out.2.2.1.trans (z.mono a.out.2.2.1.size));clear z aS;have ah:Y.cell? ⟨w.heap.size+1,0,none⟩=some (.int .i64 0):=HY.out.1.cell 0;have ai:Y.cell? ⟨w.heap.size+1,1,none⟩=some (.slice none 0 0):=HY.out.1.cell 1;have af:=HY.out.1.frozen 0;have ag:=HY.out.1.frozen 1;go_wp2;have bb:=HY.out.1.stored 0 (.int .i64 0);have aJ:=bb.1.stored 1 (.slice none 0 0);have hF:hU ((Y.setCell ⟨w.heap.size+1,0,none⟩ (.int .i64 0)).setCell ⟨w.heap.size+1,1,none⟩ (.slice none 0 0)) (w.heap.size+1) 99 [.int .i64 0,.slice none 0 0]:=aJ.1;have bf:=((HY.out.2.grown bb.2 HY.out.2.size (λk e=>by grind)).grown aJ.2 (gt HY.out.2.size bb.2.size) (λk e=>by grind));have bx:=gV (P:=prog) _ _ _ 99 _ _ hF.range underlying99 rfl cm;refine⟨rfl,.tuple #[.agg #[.int .i64 0,.slice none 0 0],.int .i64 6],?_,⟨0,none,0,0,by rw[HE.out],λh=>absurd (HE.out.symm.trans h) Oc⟩,bf⟩;exact O0
   |false=>
    rw[am]at T M;have aU:=aF.out M.symm;have aa:=gb aU;clear am M aU;rw[ac.out];go_wp2_with fail;refine T.out.mono ?_;rintro e Y ⟨rfl,z⟩;have f:=oB (a.out.1.below z) (a.out.2.1.below z) (a.out.2.2.1.trans (z.mono a.out.2.2.1.size)) (a.out.2.2.2.2.below z);clear z T a K;go_wp2;go_loopw [6,9,10] (λcv _ _ wq=>∃(ax:Nat)(d:gA)(C:Option Addr)(L D:Nat),ax<=n/\cv= .slice C L D/\Hid (d.length=L)/\Hid (L=n*ax)/\Hid (∀x∈d,x<n)/\OI (w.heap.size+2) wq (.slice C L D) (jj d)/\hU wq (w.heap.size+1) 99 [.int .i64 0,.slice none 0 0]/\hU wq w.heap.size 3 [.int .i64 n]/\gm w wq/\Hid (BD n (n-ax) d=BD n (n-i) flat)) (λcv _ _ _=>n*n-ahG cv)
    case atStart=>exact⟨i,flat,ca,FL,cc,aX,rfl,gb ac.out,gb (by rw[<-ac.out];exact aC.out.1),gb aC.out.2,f.out.2.2.2,f.out.1,f.out.2.1,f.out.2.2.1,gb rfl⟩
    case round=>
     clear f;obtain⟨ax,d,C,L,D,bB,rfl,J,bE,aK,H,b,g,j,ab⟩:=hrel;have K:wr.cell? ⟨w.heap.size,0,none⟩=some (.int .i64 n):=g.cell 0;have bQ:wr.drew.cell? ⟨w.heap.size,0,none⟩=_:=K;have bX:(n:Int)*n=((n*n:Nat):Int):=(gI _ _).symm;have bR:L<=n*n:=(by have:=bE.out;have:=iI n bB;omega);have bP:w.heap.size+2<=wr.heap.size:=(by have:=b.lt;omega);by_cases bV:ax<n
     ·have bS:L<n*n:=Un
      have S:=gb (bm.out ax d C D wr (by rw[J.out,bE.out];omega) (by
       have h2:=iI n (show ax+1<=n by omega)
       grind) aK.out (by rw[J.out];exact H.sl (by rw[F.out,J.out];omega)))
      rw[J.out,show((n-n:Nat):Int)=0 by omega]at S;have o:=ab.out;rw[show n-ax=(n-(ax+1))+1 by omega,bd.out]at o;have a:=ju b g j;have bz:(L:Int)<((n*n:Nat):Int):=Oa;unfold GA at S;clear b g j H ab;cases A:xa n n d with
      |none=>
       rw[A]at o S
       have HE:=gd (nh n rs=4) (by
        rw[aa.out,<-o]
        rfl)
       clear A o aa;generalize n*n=NN at*;go_wp2_with fail;refine S.out.mono ?_;rintro e w3 ⟨⟨a8,ba,a9,rfl,hS⟩,G⟩;have HY:=gR (a.out.1.below G) (a.out.2.2.trans (G.mono a.out.2.2.size));clear G hS;have ah:w3.cell? ⟨w.heap.size+1,0,none⟩=some (.int .i64 0):=HY.out.1.cell 0;have ai:w3.cell? ⟨w.heap.size+1,1,none⟩=some (.slice none 0 0):=HY.out.1.cell 1;have af:=HY.out.1.frozen 0;have ag:=HY.out.1.frozen 1;go_wp2;have bb:=HY.out.1.stored 0 (.int .i64 0);have aJ:=bb.1.stored 1 (.slice none 0 0);have hF:hU ((w3.setCell ⟨w.heap.size+1,0,none⟩ (.int .i64 0)).setCell ⟨w.heap.size+1,1,none⟩ (.slice none 0 0)) (w.heap.size+1) 99 [.int .i64 0,.slice none 0 0]:=aJ.1;have bf:=((HY.out.2.grown bb.2 HY.out.2.size (λk e=>by grind)).grown aJ.2 (gt HY.out.2.size bb.2.size) (λk e=>by grind));have bx:=gV (P:=prog) _ _ _ 99 _ _ hF.range underlying99 rfl cm;refine⟨rfl,.tuple #[.agg #[.int .i64 0,.slice none 0 0],.int .i64 4],?_,⟨0,none,0,0,by rw[HE.out],λh=>absurd (HE.out.symm.trans h) Oc⟩,bf⟩;exact O0
      |some m=>
       rw[A]at o S;have aI:=gb (br.out d m A);have bk:=gb (bq.out d m aK.out A);have bi:=gb o
       have aM:=gd (m.length<=n*n/\L<m.length) (by
        rw[aI.out,J.out]
        exact Un)
       clear A o;generalize n*n=NN at*;go_wp2_with fail;refine S.out.mono ?_;rintro e w3 ⟨⟨a8,ba,a9,rfl,hS⟩,G⟩;have av:OI (w.heap.size+2) w3 (.slice a8 ba a9) (jj m):=by
        rcases(hS m rfl).2 with⟨h0,_⟩|h
        ·exact Oa
        ·exact h.mono bP
       obtain⟨b1,b2,U⟩:=av.len;rw[F.out]at U;simp only[iU]at U;obtain⟨rfl,rfl,rfl⟩:=U;have f:=oB av (a.out.1.below G) (a.out.2.1.below G) (a.out.2.2.trans (G.mono a.out.2.2.size));clear G hS av;have bK:=aM.out;obtain⟨ML,s⟩:∃ML,m.length=ML:=⟨_,rfl⟩;rw[s]at bK f⊢;have aL:=gb s;clear s aM;go_wp2;go_roundw
       case rel=>exact⟨ax+1,m,_,ML,_,by omega,rfl,gb aL.out,gb (by rw[<-aL.out,aI.out,J.out,bE.out,mb]),gb bk.out,f.out.1,f.out.2.1,f.out.2.2.1,f.out.2.2.2,gb bi.out⟩
       case measure=>grind [ahG]
     ·obtain rfl:ax=n:=(by omega);have bw:L=ax*ax:=bE.out;have bz:¬(L:Int)<((ax*ax:Nat):Int):=Oa;have o:=ab.out;rw[jU,bc.out]at o;have HE:=gd (nh ax rs=0) (by rw[aa.out,<-o];rfl);have HC:=gd (tg ax rs=d) (by rw[aG.out,<-o];rfl);have ah:wr.cell? ⟨w.heap.size+1,0,none⟩=some (.int .i64 0):=b.cell 0;have ai:wr.cell? ⟨w.heap.size+1,1,none⟩=some (.slice none 0 0):=b.cell 1;have af:=b.frozen 0;have ag:=b.frozen 1;have HY:=ju b j H;clear o ab b g j H bw bE aa;generalize ax*ax=NN at*;go_wp2;have bb:=HY.out.1.stored 0 (.int .i64 ax);have aJ:=bb.1.stored 1 (.slice C L D);have hF:hU ((wr.setCell ⟨w.heap.size+1,0,none⟩ (.int .i64 ax)).setCell ⟨w.heap.size+1,1,none⟩ (.slice C L D)) (w.heap.size+1) 99 [.int .i64 ax,.slice C L D]:=aJ.1;have bf:=((HY.out.2.1.grown bb.2 HY.out.2.1.size (λk e=>by grind)).grown aJ.2 (gt HY.out.2.1.size bb.2.size) (λk e=>by grind));have bx:=gV (P:=prog) _ _ _ 99 _ _ hF.range underlying99 rfl cm;refine⟨rfl,.tuple #[.agg #[.int .i64 ax,.slice C L D],.int .i64 0],?_,⟨ax,C,L,D,by rw[HE.out],λ_=>⟨rfl,?_⟩⟩,bf⟩
      ·exact O0
      ·rw[HC.out];have bN:=(HY.out.2.2.kept bb.2 (.inr (λe=>by have:=(HY.out.2.2.lt _ e).1;omega))).kept aJ.2 (.inr (λe=>by have:=(HY.out.2.2.lt _ e).1;omega));exact bN.sl (by rw[F.out,J.out];omega)
section
open Go.Shelf
def abp:Ren:=⟨λx=>match x with|6=>247|15=>282|14=>281|28=>310|29=>296|20=>302|21=>303|22=>304|23=>305|24=>306|25=>307|26=>308|27=>309|46=>332|47=>333|48=>334|49=>335|50=>336|57=>343|n=>n,λx=>match x with|22=>136|24=>179|25=>228|3=>3|39=>126|0=>0|53=>160|55=>188|4=>4|46=>278|45=>277|50=>77|5=>5|9=>9|66=>295|70=>299|76=>307|77=>198|n=>n,λn=>n⟩
theorem ala:SlLaysF0.n6 prog abp where
 mixed:=Ob
 f6:=⟨(f247).name,by kernel_rfl,jF func247⟩
 f14:=⟨(f281).name,by kernel_rfl,jF func281⟩
 f15:=jF func282
 f20:=⟨(f302).name,by kernel_rfl,jF func302⟩
 f21:=⟨(f303).name,by kernel_rfl,jF func303⟩
 f22:=⟨(f304).name,by kernel_rfl,jF func304⟩
 f23:=⟨(f305).name,by kernel_rfl,jF func305⟩
 f24:=⟨(f306).name,by kernel_rfl,jF func306⟩
 f25:=⟨(f307).name,by kernel_rfl,jF func307⟩
 f26:=⟨(f308).name,by kernel_rfl,jF func308⟩
 f27:=⟨(f309).name,by kernel_rfl,jF func309⟩
 f28:=jF func310
 f29:=jF func296
 f46:=⟨(f332).name,by kernel_rfl,jF func332⟩
 f47:=jF func333
 f48:=jF func334
 f49:=⟨(f335).name,by kernel_rfl,jF func335⟩
 f50:=⟨(f336).name,by kernel_rfl,jF func336⟩
 f57:=⟨(f343).name,by kernel_rfl,jF func343⟩
 t0:=underlying0
 a0:=isAgg0
 z0:=sizeOf0
 v0:=zeroValue0
 t3:=underlying3
 a3:=isAgg3
 z3:=sizeOf3
 v3:=zeroValue3
 t4:=underlying4
 a4:=isAgg4
 z4:=sizeOf4
 v4:=zeroValue4
 t5:=underlying5
 a5:=isAgg5
 z5:=sizeOf5
 v5:=zeroValue5
 t9:=underlying9
 a9:=isAgg9
 z9:=sizeOf9
 v9:=zeroValue9
 t22:=underlying136
 a22:=isAgg136
 z22:=sizeOf136
 v22:=zeroValue136
 t25:=underlying228
 a25:=isAgg228
 z25:=sizeOf228
 v25:=zeroValue228
 t39:=underlying126
 a39:=isAgg126
 z39:=sizeOf126
 v39:=zeroValue126
 t45:=underlying277
 a45:=isAgg277
 z45:=sizeOf277
 v45:=zeroValue277
 t46:=underlying278
 a46:=isAgg278
 z46:=sizeOf278
 v46:=zeroValue278
 t50:=underlying77
 a50:=isAgg77
 z50:=sizeOf77
 v50:=zeroValue77
 t53:=underlying160
 a53:=isAgg160
 z53:=sizeOf160
 v53:=zeroValue160
 t55:=underlying188
 a55:=isAgg188
 z55:=sizeOf188
 v55:=zeroValue188
 t66:=underlying295
 a66:=isAgg295
 z66:=sizeOf295
 v66:=zeroValue295
 t70:=underlying299
 a70:=isAgg299
 z70:=sizeOf299
 v70:=zeroValue299
 t76:=underlying307
 a76:=isAgg307
 z76:=sizeOf307
 v76:=zeroValue307
 t77:=underlying198
 a77:=isAgg198
 z77:=sizeOf198
 v77:=zeroValue198
open Go.Sort Go.Lib
theorem Hr(l:List (Nat->Nat)):flatK jP 7 l.toArray=(Hq l).toArray:=by
 refine aeA (by simp[E7]) λt a b=> ?_;have f:t<l.length*7:=by simpa using a
 have e:=M1 l (t/7) (t%7) Oa (iD _ Oa);rw[show t/7*7+t%7=t by omega]at e;have d:t/7<l.length:=Oa;have c:=get_flatK jP 7 l.toArray t Oa
 grind
theorem H3{w:World}{g:Nat}{a:Array Value}{e:TypeId}{xs:np}(b:w.heap[g]? =some (.cells a e (0,0)))(f:a.toList.take xs.length=xs):Holds id w g 0 xs.toArray:=by
 intro j h;have d:j<xs.length:=Oa;refine⟨?_,by simp[World.frozen?,b]⟩;have c:(a.toList.take xs.length)[j]? =xs[j]? :=by rw[f]
 rw[kT d]at c;simp only[World.cell?,b,iL]
 grind
theorem Fc{w:World}{g n:Nat}{os:Array Obj}{a:Array Value}{e:TypeId}{b:Nat×Nat}(d:Array Value)(c:w.heap[g]? =some (.cells a e b)):
 (grow (putRow id (Sort.ahead w n) g 0 d) os).heap[g]? =some (.cells (putCells id 0 d a) e b):=by
 have f:g<w.heap.size:=(gZ.1 c).1;rw[aet _ _ (by simpa using f)];simp[putRow,mapBlock,Sort.ahead,x3,c,onCells]
theorem yE{w:World}{g n:Nat}{os:Array Obj}(d:Array Value):w.grownBy (grow (putRow id (Sort.ahead w n) g 0 d) os) (some g):=M5
theorem Bn(bV:Array Value)(a:np)(h:a.length<=bV.size):(putCells id 0 a.toArray bV).toList.take a.length=a:=by
 apply ib;intro j;by_cases hj:j<a.length
 ·exact US
 grind
theorem aiy:SWO (ltOf Tm) where
 irrefl x:=gp (by grind [yf,AA])
 trans x y z h1 h2:=gy ((yf x z).2 (xG ((yf x y).1 (jy h1)) ((yf y z).1 (jy h2))))
 ntrans x y z h1 h2:=gp (λh=>AB (λa=>mT h1 ((yf x y).2 a)) (λa=>mT h2 ((yf y z).2 a)) ((yf x z).1 h))
theorem abq(l:List (Nat->Nat))(B b c:Nat)(w:World)(h:OM B w (.slice (some ⟨b,0,none⟩) l.length c) l)(V:l.length<=1000000000):
 Calls prog 247 #[.slice (some ⟨b,0,none⟩) l.length c,.func (.func 248) #[] #[]] w λk f=>
  k= .returned (.tuple #[])/\∃e,e.Perm l/\e.Pairwise (λp q=>¬Tm q p<0)/\OM B f (.slice (some ⟨b,0,none⟩) l.length c) e/\w.grownBy f (some b):=by
 obtain⟨S,E⟩:=h;rcases E with⟨v,_⟩|⟨t,r,Q,d,z,o,K,A,C,Y⟩
 ·cases v
 obtain⟨rfl,rfl⟩:b=t/\c=r:=by grind
 have s:∀g w,(callFunc 248 g).run prog w= .ok (.enter 248 g) w:=enters_of func248 Ob rfl;have y:HoldsK jP 7 w b 0 l.toArray:=by
  unfold HoldsK
  grind [Hr,H3]
 have M:=AnyQ.slices_SortFunc ala 7 isAgg179 sizeOf179 jP kx (λx aa d=>by
  simp only[jP,gK]at d;obtain⟨i,_,rfl⟩:=d
  rfl) Tm aiy 248 #[] b 0 c l.toArray w s (λm O R _ x P=>agc x P _) y (gZ.1 o).1 Oo
 have N:Calls prog 247 #[.slice (some ⟨b,0,none⟩) l.length c,.func (.func 248) #[] #[]] w _:=M;refine N.mono ?_;rintro k f ⟨rfl,a,Z,O,⟨X,_,W⟩,L,rfl⟩;have D:a.size=l.length:=Oa;refine⟨rfl,a.toList,?_,?_,?_,?_⟩
 ·grind [Array.extract_eq_self_of_le]
 ·rw[Zq];intro i j T U I;have n:=L i j (ge _) I (by grind);have H:i<a.size:=Oa;have J:j<a.size:=Oa;rw[Gj _ i H,Gj _ j J]at n;have:=mT n
  grind
 ·have F:flatK jP 7 a=(Hq a.toList).toArray:=by
   have:=Hr a.toList;exact Oa
  unfold sortWorldK putRowK;rw[F];have G:(Hq a.toList).length=l.length*7:=(by grind [E7]);unfold OM;rw[show a.toList.length=l.length by simp[D]];exact⟨G,.inr ⟨b,c,_,rfl,z,Fc _ o,K,A,by simp[putCells,C],by grind [Bn]⟩⟩
 ·exact yE _
end
section
open Go.Maps
theorem abP:laidOutB prog=true:=Ob
theorem zr:Keyed prog 179:=Keyed.of_law (deep_law_laid abP (m:=2) Oa (jy Ob) Ob OK)
def kF(l:gP):Value:= .agg (l.map (Value.int .i64)).toArray
theorem abG(x y:gP)(h:kF x=kF y):x=y:=by
 simp only[kF,Value.agg.injEq]at h
 grind [List.map_inj_right]
def NR(x:Nat->Nat):gP:=(List.range 7).map λi=>((x i:Nat):Int)
theorem xN(x:Nat->Nat):Vk x=kF (NR x):=by
 unfold Vk kF NR jP;exact OK
theorem agl{n:Nat}(b:n<=7){x y:Nat->Nat}(P:Mv n x)(Q:Mv n y)(h:NR x=NR y):x=y:=by
 funext i;by_cases a:i<7
 ·have h1:=congrArg (λl=>l[i]?) h;simp only[NR,List.getElem?_map,List.getElem?_range a,Option.map_some,Option.some.injEq]at h1;omega
 ·rw[P.st i Oa,Q.st i Oa]
theorem agi:prog.keyType 179=true:=Ob
theorem AQ:prog.cellsOf 179=7:=Ob
theorem Nq:prog.cellsOf 3=1:=Ob
theorem Jw:∃m,prog.types.size=m+1:=⟨prog.types.size-1,by
 exact OK⟩
theorem Ve{x:Nat->Nat}(h:∀i,i<7->x i<7):∃c,keyOf prog 179 (Vk x)=some c:=by
 have a:∀i,i<7->(Lit.int .i64 ((x i:Nat):Int)).wf=true:=λi o=>WalkArith.wf_i64 (by grind);have d:=a 0 Oa;have f:=a 1 Oa;have g:=a 2 Oa;have j:=a 3 Oa;have k:=a 4 Oa;have l:=a 5 Oa;have n:=a 6 Oa;obtain⟨m,b⟩:=Jw;have e:Vk x= .agg #[.int .i64 (x 0:Nat),.int .i64 (x 1:Nat),.int .i64 (x 2:Nat),.int .i64 (x 3:Nat),.int .i64 (x 4:Nat),.int .i64 (x 5:Nat),.int .i64 (x 6:Nat)]:=rfl;rw[e]
 suffices h:keyOf prog 179 (.agg #[.int .i64 (x 0:Nat),.int .i64 (x 1:Nat),.int .i64 (x 2:Nat),.int .i64 (x 3:Nat),.int .i64 (x 4:Nat),.int .i64 (x 5:Nat),.int .i64 (x 6:Nat)])=some (.string (keyBytes [.int .i64 (x 0:Nat),.int .i64 (x 1:Nat),.int .i64 (x 2:Nat),.int .i64 (x 3:Nat),.int .i64 (x 4:Nat),.int .i64 (x 5:Nat),.int .i64 (x 6:Nat)]))from⟨_,h⟩
 unfold keyOf;simp only[underlying179];rw[gl (by simp[agi,Value.formed,underlying179,AQ]),b];unfold Program.keyLits;simp only[underlying179,Value.cells];rw[gl (by rw[AQ];rfl)];simp[Nq,Program.keyLits,underlying3,d,f,g,j,k,l,n,show List.range 7=[0,1,2,3,4,5,6]from rfl]
theorem yA{κ:Type}{f:κ->Value}{w:World}{b n:Nat}{S:List κ}{ops:Array Oper}{rest:List Oper}{o:Oper}{a:Act}{Q:Exit->Act->World->Prop}
 (j:o.guard=none) (m x:Operand) (t:TypeId) (p:o.op=Op.lookup t m x true) (K:TypeId) (L:Keyed prog K) (r:prog.underlying t=some (.map K 3))
 (l:a.eval m= .map (some b)) (q:KM K f w b n S) (y:κ) (s:a.eval x=f y) (k:∃d,keyOf prog K (f y)=some d)
 (i:∀(c:Int)(z:Bool),(z=true↔y∈S)->wpList prog ops Q rest (a.put o.dst (.tuple #[.int .i64 c,.bool z])) w):wpList prog ops Q (o::rest) a w:=by
 obtain⟨D,g,v,A,h⟩:=q;obtain⟨d,e⟩:=k;exact aez w j m x t p K 3 .i64 L r underlying3 (zeroValue3 w) b n D l g _ d s e (λc _ _=>i c _ (h y d e))
theorem F4{κ:Type}[DecidableEq κ]{f:κ->Value}{w:World}{b n:Nat}{S:List κ}{ops:Array Oper}{rest:List Oper}{o:Oper}{a:Act}{Q:Exit->Act->World->Prop}
 (s:o.guard=none) (m x v:Operand) (t:TypeId) (C:o.op=Op.insert t m x v) (K:TypeId) (L:Keyed prog K) (r:∀x y,f x=f y->x=y) (F:prog.underlying t=some (.map K 3))
 (A:a.eval m= .map (some b)) (D:KM K f w b n S) (B:n<maxLen) (y:κ) (c:Int) (H:a.eval x=f y) (G:a.eval v= .int .i64 c) (z:∃h,keyOf prog K (f y)=some h) (q:(Lit.int .i64 c).wf=true)
 (l:∀d,KM K f d b (n+1) (ins y S)->w.grownBy d (some b)->wpList prog ops Q rest (a.put o.dst undef) d):wpList prog ops Q (o::rest) a w:=by
 obtain⟨M,e,i,j,k⟩:=D;obtain⟨h,g⟩:=z;refine wpList_plain s λN p=> ?_;obtain⟨d,E,I,J⟩:=e.update L F B g (plainElem_int underlying3 q);unfold Oper.wp;simp[execOp,C,A,H,G,E,Result.andThen];exact p _ _ (l d (KM.put L r e i j k g I) J)
end
theorem Hj(a b:Nat)(w:World)(f:a<=1000000000)(g:b<=1000000000):
 Calls prog 259 #[.int .i64 a,.int .i64 b] w λe h=>e= .returned (.int .i64 (Nat.gcd a b))/\∃ai,h=w.drewN ai:=by
 obtain⟨G,c⟩:∃G,Nat.gcd a b=G:=⟨_,rfl⟩;rw[c];have d:=gb c;clear c;go_enter func259,ntmps259;go_wp2;go_loopw [0,1] (λx y wr=>∃p ai:Nat,x= .int .i64 p/\y= .int .i64 ai/\Hid (Nat.gcd p ai=G)/\p<=1000000000/\ai<=1000000000/\∃k,Hid (wr=w.drewN k)) (λ_ y _=>(intOf y).toNat)
 case atStart=>exact⟨a,b,rfl,rfl,gb d.out,f,g,0,gb rfl⟩
 case round=>
  obtain⟨p,ai,rfl,rfl,fw,i,j,k,HK⟩:=hrel;by_cases h0:ai=0
  ·exact S9
  ·have l:¬(ai:Int)=0:=(by omega);exact KY
theorem LZ{l m:gP}(a:l.length=m.length)(h:∀i,i<l.length->l.getD i 0=m.getD i 0):l=m:=by
 grind [List.ext_getElem]
theorem WU(v u:Value)(l m:gP)(w:World)(z:Sl w v l)(y:Sl w u m)(k:l.length=m.length):
 Calls prog 261 #[v,u] w λe M=>e= .returned (.bool (decide (l=m)))/\∃q,M=w.drewN q:=by
 obtain⟨p,c1,N,rfl,hN,S,I⟩:=z.open;obtain⟨r,c2,F,rfl,s,T,J⟩:=y.open;obtain rfl:N=F:=by rw[<-hN.out,<-s.out,k]
 have E:=gd ((∀i,i<N->l.getD i 0=m.getD i 0)->decide (l=m)=true) (λh=>gy (LZ k ON));have D:=gd (∀i,i<N->l.getD i 0≠m.getD i 0->decide (l=m)=false) (λi _ h=>gp (λe=>h QU))
 have HC:=gd (N=0\/∃a c b d,p=some ⟨a,c,none⟩/\r=some ⟨b,d,none⟩/\∀i,i<N->w.cell? ⟨a,c+i,none⟩=some (.int .i64 (l.getD i 0))/\w.cell? ⟨b,d+i,none⟩=some (.int .i64 (m.getD i 0))) (by
  grind)
 clear I J z y k hN s;generalize decide (l=m)=Z at*;have Q:((N:Int)==N)=true:=On;go_enter func261,ntmps261;go_wp2;go_loopw [13] (λn wr=>∃i:Nat,i<=N/\n= .int .i64 i/\Hid (∀j,j<i->l.getD j 0=m.getD j 0)/\∃q,Hid (wr=w.drewN q)) (λn _=>N-(intOf n).toNat)
 case atStart=>exact⟨0,ge _,rfl,gb (λj h=>by omega),0,gb rfl⟩
 case round=>
  obtain⟨i,R,rfl,lM,q,f⟩:=hrel;by_cases x:i<N
  ·have H:(i:Int)<N:=(by omega);obtain⟨a,c,b,d,rfl,rfl,t⟩:∃a c b d,p=some ⟨a,c,none⟩/\r=some ⟨b,d,none⟩/\∀i,i<N->w.cell? ⟨a,c+i,none⟩=some (.int .i64 (l.getD i 0))/\w.cell? ⟨b,d+i,none⟩=some (.int .i64 (m.getD i 0)):=Qt;obtain⟨A,B⟩:=t i x;have K:wr.cell? ⟨a,c+i,none⟩=some (.int .i64 (l.getD i 0)):=(by rw[f.out];exact A);have L:wr.cell? ⟨b,d+i,none⟩=some (.int .i64 (m.getD i 0)):=(by rw[f.out];exact B);have U:wr.drew.cell? ⟨a,c+i,none⟩=_:=K;have V:wr.drew.cell? ⟨b,d+i,none⟩=_:=L;have o:=gd (wr.drew=w.drewN (q+1)) (by rw[f.out];rfl);clear t A B;by_cases g:l.getD i 0=m.getD i 0
   ·have G:(l.getD i 0==m.getD i 0)=true:=by grind
    have C:=gd (∀j,j<i+1->l.getD j 0=m.getD j 0) (λj h=>by
     by_cases e:j=i
     ·grind
     ·exact lM.out j Oa)
    clear g;generalize l.getD i 0=O at*;generalize m.getD i 0=P at*;go_wp2;go_region;go_wp2;go_roundw
    case rel=>exact⟨i+1,by omega,by go_num,C,q+1,o⟩
    case measure=>exact gQ
   ·have G:(l.getD i 0==m.getD i 0)=false:=(by grind);obtain rfl:=D.out i x g;clear g;generalize l.getD i 0=O at*;generalize m.getD i 0=P at*;go_wp2;go_region;go_wp2;go_ret;exact⟨rfl,_,o.out⟩
  ·obtain rfl:i=N:=(by omega);have H:¬(i:Int)<i:=Oa;obtain rfl:=E.out lM.out;go_wp2;go_ret;exact⟨rfl,_,f.out⟩
def WA(v:Nat)(l:gA)(t m i:Nat):gP:=(l.take i).map λn=>(((n*t+m)%v:Nat):Int)
theorem G0(v:Nat)(l:gA)(t m:Nat){i:Nat}(h:i<l.length):WA v l t m i++[(((l.getD i 0*t+m)%v:Nat):Int)]=WA v l t m (i+1):=by
 grind [WA,List.take_add_one]
theorem Tq(v:Nat)(l:gA)(t m:Nat):WA v l t m l.length=chM v l t m:=by unfold WA chM;grind
theorem Tr(v:Nat)(l:gA)(t m:Nat){i:Nat}(h:i<=l.length):(WA v l t m i).length=i:=by grind [WA]
theorem za(v:Nat)(l:gA)(t m:Nat):(vS v l t m).length=l.length:=by unfold vS chM;simp_all
theorem G1(v t m:Nat)(u:Value)(l:gA)(w:World)(hv:1<=v/\v<=60)(R:t<=60)(hm:m<=60)(A:Sl w u (jj l))(O:l.length<=60)(L:∀x∈l,x<v):
 Calls prog 260 #[.int .i64 v,u,.int .i64 t,.int .i64 m] w λe B=>(∃r,e= .returned r/\OI w.heap.size B r (vS v l t m))/\gm w B:=by
 obtain⟨k,V,ab,rfl,hN,ac,ay⟩:=A.open;rw[show(jj l).length=l.length from jw l]at hN;have aa:ab<=60:=Kt
 have C:=gd (∀H,H<ab->l.getD H 0<v) (λH hi=>by
  grind [List.getElem_mem])
 have dB:=gd (ab=0\/∃b an,k=some ⟨b,an,none⟩/\b<w.heap.size/\∀H,H<ab->w.cell? ⟨b,an+H,none⟩=some (.int .i64 ((l.getD H 0:Nat):Int))) (by
  exact PT)
 have E:=gb (λH (hi:H<ab)=>G0 v l t m (i:=H) OZ);have j:=gb (λH (hi:H<=ab)=>Tr v l t m (i:=H) OZ);have i:=gd ((WA v l t m ab).mergeSort (λx U=>decide (x<=U))=vS v l t m) (by rw[<-hN.out,Tq];rfl);have D:=gd (WA v l t m 0=[]) rfl;have h:=gd ((vS v l t m).length=ab) (by rw[za,hN.out]);generalize vS v l t m=G at*;generalize WA v l t m=a at*;clear ay A L O hN;go_enter func260,ntmps260;go_wp2;go_loopw [9,14] (λS g wr=>∃H:Nat,H<=ab/\g= .int .i64 H/\OI w.heap.size wr S (a H)/\gm w wr) (λ_ g _=>ab-(intOf g).toNat)
 case atStart=>exact⟨0,ge _,rfl,by rw[D.out];exact OI.nil _ _,f0 _ _⟩
 case round=>
  obtain⟨H,hi,rfl,ho,aC⟩:=hrel;by_cases f:H<ab
  ·have N:(H:Int)<ab:=(by omega);obtain⟨b,an,rfl,M,n⟩:∃b an,k=some ⟨b,an,none⟩/\b<w.heap.size/\∀H,H<ab->w.cell? ⟨b,an+H,none⟩=some (.int .i64 ((l.getD H 0:Nat):Int)):=Pe;have c1:=(aC.cell (p:=⟨b,an+H,none⟩) M).trans (n H f);have hx:=C.out H f;have F:=gb (E.out H f);have P:(a H).length<=1000000000000:=(by rw[j.out H hi];omega);have z:=aC.size;clear n;generalize l.getD H 0=x at*;have af:(x:Int)*t=((x*t:Nat):Int):=(gI _ _).symm;have ad:x*t<=60*60:=gE Oa R;have ae:(((x*t:Nat):Int)+m).tmod (v:Int)=(((x*t+m)%v:Nat):Int):=by
    grind
   generalize (x*t+m)%v=r at*;generalize x*t=xt at*;go_wp2_with (at_builtin;refine g8 wr _ _ 45 rfl rfl underlying45 info3 w.heap.size _ _ rfl ho rfl P z ?_;intro X c7 w4 aD au aI aU);have HX:=gR (aD.cast F.out) (ho.grown aC au z);exact SZ
  ·obtain rfl:H=ab:=(by omega);have N:¬(H:Int)<H:=Oa;have d:=gb aC;have y:=j.out H (fZ _);rcases ho.2 with⟨rfl,h0⟩|⟨J,I,W,rfl,au,Q⟩
   ·have c:=gb (adI wr)
    have K:G=[]:=iX (by
     have Y:((a H).map (Value.int IntKind.i64)).length=(a H).length:=On;have Z:=h.out
     exact Oa)
    subst K;clear ho aC h0 i h y;go_wp2_with fail;refine c.out.mono ?_;rintro e T ⟨rfl,rfl⟩;go_wp2;go_ret;exact⟨⟨_,rfl,OI.nil _ _⟩,d.out⟩
   ·have q:((a H).map (Value.int IntKind.i64)).length=H:=(by grind);rw[q]at ho⊢;have c:=gb (Jf (a H) w.heap.size J I wr (by grind) Oa);rw[y,i.out]at c;clear ho aC Q q;go_wp2_with fail;refine c.out.mono ?_;rintro e T ⟨rfl,s,o⟩;have HX:=gR s (d.out.grown o d.out.size (λag e=>by grind));clear s o c;exact Ro
theorem Zt(v:Nat)(u:Value)(l:gA)(w:World)(g:v<1000000000)(c:Sl w u (jj l))(a:∀x∈l,x<1000000000)(h:kH v l≠0):
 Calls prog 209 #[.int .i64 v,u] w λe i=>e= .returned (.tuple #[.slice none 0 0,.int .i64 (kH v l)])/\gm w i:=by
 have f:=gb (rG v u l w g c a);have j:(kH v l==0)=false:=by grind
 clear h c a;generalize kH v l=E at*;go_enter func209,ntmps209;go_wp2_with fail;refine f.out.mono ?_;rintro e k ⟨rfl,b⟩;have d:=gb b;clear b;go_wp2;go_ret2;exact⟨rfl,d.out⟩
theorem acE{v:Nat}{l:gA}{t:Nat}(h:∀s,s<v->decide (vS v l t 0=vS v l 1 s)=false):mtB v l t=false:=by
 grind [mtB]
theorem Vg{v:Nat}{l:gA}{t s:Nat}(a:¬1<Nat.gcd t v)(b:s<v)(h:decide (vS v l t 0=vS v l 1 s)=true):mtB v l t=true:=by
 unfold mtB
 grind
theorem Vf{v:Nat}{l:gA}{t:Nat}(a:1<Nat.gcd t v):mtB v l t=false:=by
 grind [mtB]
theorem aeM(v:Nat)(u:Value)(l:gA)(w:World)(hv:v<1000000000)(W:Sl w u (jj l))(hb:∀aK∈l,aK<1000000000)(h:kH v l=0):
 Calls prog 209 #[.int .i64 v,u] w λe w'=>(∃am,e= .returned (.tuple #[am,.int .i64 0])/\OI w.heap.size w' am (qN v l (v-1)))/\gm w w':=by
 have L:=gb (rG v u l w hv W hb);rw[h]at L;obtain⟨aI,aJ,ah,_⟩:=oL h;have aE:=td h;have HD:=gb (λ(t:Nat)(b:World)(F:t<=60)=>Hj t v b Oa Oa);have aa:=gb (λ(t m:Nat)(b:World)(F:t<=60)(hm:m<=60)(n:gm w b)=>G1 v t m u l b ⟨aI,aJ⟩ F hm (W.below n) Oa ah);have ao:=gb (λ(H I:Value)(t s:Nat)(b:World)(n:Sl b H (vS v l t 0))(h2:Sl b I (vS v l 1 s))=>WU H I _ _ b n h2 (by grind [za]));have ab:=gb (λt m=>show(vS v l t m).length<=100 from by rw[za];omega);have aw:=gb (λt=>acE (v:=v) (l:=l) (t:=t));have ay:=gb (λt s=>Vg (v:=v) (l:=l) (t:=t) (s:=s));have ap:=gb (λt=>Vf (v:=v) (l:=l) (t:=t));have av:=gb (CY v l);have au:=gb (AS v l);have ar:=gd (qN v l 0=[]) rfl;generalize qN v l=a at*;generalize mtB v l=MB at*;generalize vS v l=f at*;clear ah aE h hb W;go_enter func209,ntmps209;go_wp2_with fail;refine L.out.mono ?_;rintro e b ⟨rfl,af⟩;have an:=gb af;clear af L;go_wp2;go_loopw [7,8] (λX Z wr=>∃t:Nat,t+1<=v/\Z= .int .i64 ((t:Int)+1)/\OI w.heap.size wr X (a t)/\gm w wr) (λ_ Z _=>v-(intOf Z).toNat)
 case atStart=>exact⟨0,by omega,rfl,by rw[ar.out];exact OI.nil _ _,an.out⟩
 case round=>
  obtain⟨t,F,rfl,C,B⟩:=hrel;obtain⟨T,z⟩:∃T,T=t+1:=⟨_,rfl⟩;have HT:=gb z;rw[show(t:Int)+1=T by omega];rw[<-z]at F;have x:=gb (av.out t);rw[<-z]at x;clear z;by_cases aL:T<v
  ·have aH:(T:Int)<v:=(by omega);have O:=gb (HD.out T wr Oa);have aq:=gb (ap.out T);have az:=gb (ay.out T);have HX:=gR C B;clear C B;generalize Nat.gcd T v=G at*;by_cases y:1<G
   ·have aA:(1:Int)<G:=(by omega);have d:=gd (a T=a t) (by rw[x.out,aq.out y];rfl);clear y;go_wp2_with fail;refine O.out.mono ?_;rintro e w2 ⟨rfl,q,rfl⟩;go_wp2;go_roundw
    case rel=>exact⟨T,by omega,by go_num,by rw[d.out];exact HX.out.1.drewN q,gM HX.out.2 q⟩
    case measure=>exact gQ
   ·have aA:¬(1:Int)<G:=(by omega);have HG:=gb y;clear y;go_wp2_with fail;refine O.out.mono ?_;rintro e w2 ⟨rfl,q,rfl⟩;have g:=gR (HX.out.1.drewN q) (gM HX.out.2 q);obtain⟨P,ad⟩:∃P,wr.drewN q=P:=⟨_,rfl⟩;rw[ad]at g⊢;clear HX ad O;have N:=gb (aa.out T 0 P Oa Oa g.out.2);have h0:((0:Nat):Int)=0:=rfl;rw[h0]at N;go_wp2_with fail;refine N.out.mono ?_;rintro e w3 ⟨⟨H,rfl,ak⟩,S⟩;have c:=ju (g.out.1.below S) (g.out.2.trans (S.mono g.out.2.size)) (ak.sl (by have:=ab.out T 0;omega));clear ak S N g;go_wp2;go_loopw [7,31] (λX Y wq=>∃s:Nat,s<=v/\Y= .int .i64 s/\Hid (∀k,k<s->decide (f T 0=f 1 k)=false)/\OI w.heap.size wq X (a t)/\gm w3 wq) (λ_ Y _=>v-(intOf Y).toNat)
    case atStart=>exact⟨0,ge _,rfl,gb (λk h=>by omega),c.out.1,f0 _ _⟩
    case round=>
     obtain⟨s,hs,rfl,ai,E,p⟩:=hrel;by_cases aG:s<v
     ·have aF:(s:Int)<v:=(by omega);have K:=gb p;have ax:=gb E;have M:=gb (aa.out 1 s wr Oa Oa (c.out.2.1.trans (p.mono c.out.2.1.size)));clear p E;have n:((1:Nat):Int)=1:=rfl;rw[n]at M;go_wp2_with fail;refine M.out.mono ?_;rintro e w4 ⟨⟨I,rfl,al⟩,U⟩;have ac:=gb (ax.out.below U);have J:=gb (K.out.trans (U.mono K.out.size));have r:=gb (ao.out H I T s w4 (c.out.2.2.below J.out) (al.sl (by have:=ab.out 1 s;omega)));clear al U M K;obtain⟨R,o⟩:∃R,decide (f T 0=f 1 s)=R:=⟨_,rfl⟩;rw[o]at r;cases R with
      |true=>
       have d:=gd (a t++[((T:Nat):Int)]=a T) (by rw[x.out,az.out s HG.out aG o];rfl);clear o;go_wp2_with fail;refine r.out.mono ?_;rintro e w5 ⟨rfl,i,rfl⟩;have D:=ac.out.drewN i;have A:=gM (c.out.2.1.trans (J.out.mono c.out.2.1.size)) i;have aD:(a t).length<=1000000000000:=(by have:=au.out t;have:=HT.out;omega);have V:=A.size;obtain⟨Q,ae⟩:∃Q,w4.drewN i=Q:=⟨_,rfl⟩;rw[ae]at D A V⊢;clear ae r;go_wp2_with (at_builtin;refine g8 Q _ _ 45 rfl rfl underlying45 info3 w.heap.size _ _ rfl D rfl aD V ?_;intro g7 c7 w6 aj ag aB aC);have j:=gR (aj.cast d.out) (D.grown A ag V);clear aj ag aB aC D A;go_roundw
       case rel=>exact⟨T,by omega,by go_num,j.out.1,j.out.2⟩
       case measure=>exact gQ
      |false=>
       have d:=gd (∀k,k<s+1->decide (f T 0=f 1 k)=false) (λk hk=>by
        by_cases e:k=s
        ·rw[e];exact o
        ·exact ai.out k Oa)
       clear o;go_wp2_with fail;refine r.out.mono ?_;rintro e w5 ⟨rfl,i,rfl⟩;go_wp2;go_roundw
       case rel=>exact⟨s+1,by omega,by go_num,d,ac.out.drewN i,gM J.out i⟩
       case measure=>exact gQ
     ·obtain rfl:s=v:=(by omega);have aF:¬(s:Int)<s:=Oa;have d:=gd (a T=a t) (by rw[x.out,aw.out T ai.out];rfl);have j:=gR E (c.out.2.1.trans (p.mono c.out.2.1.size));clear p E;go_wp2;go_roundw
      case rel=>exact⟨T,by omega,by go_num,by rw[d.out];exact j.out.1,j.out.2⟩
      case measure=>exact gQ
  ·have aH:¬(T:Int)<v:=(by omega);have HX:=gR C B;rw[show t=v-1 by have:=HT.out;omega]at HX;clear C B;exact QK
theorem LH(a b:Nat)(w:World)(f:a<=1000000000)(g:b<=1000000000):
 Calls prog 164 #[.int .i64 a,.int .i64 b] w λe h=>e= .returned (.int .i64 (Nat.gcd a b))/\∃ai,h=w.drewN ai:=by
 obtain⟨G,c⟩:∃G,Nat.gcd a b=G:=⟨_,rfl⟩;rw[c];have d:=gb c;clear c;go_enter func164,ntmps164;go_wp2;go_loopw [0,1] (λx y wr=>∃p ai:Nat,x= .int .i64 p/\y= .int .i64 ai/\Hid (Nat.gcd p ai=G)/\p<=1000000000/\ai<=1000000000/\∃k,Hid (wr=w.drewN k)) (λ_ y _=>(intOf y).toNat)
 case atStart=>exact⟨a,b,rfl,rfl,gb d.out,f,g,0,gb rfl⟩
 case round=>
  obtain⟨p,ai,rfl,rfl,fw,i,j,k,HK⟩:=hrel;by_cases h0:ai=0
  ·exact S9
  ·have l:(0:Int)<ai:=(by omega);exact KY
theorem FM(v t m:Nat)(u:Value)(l:gA)(w:World)(hv:1<=v/\v<=60)(W:t<=60)(hm:m<=60)(E:Sl w u (jj l))(T:l.length<=60)(P:∀x∈l,x<v):
 Calls prog 165 #[.int .i64 v,u,.int .i64 t,.int .i64 m] w λs F=>(∃r,s= .returned r/\OI w.heap.size F r (vS v l t m))/\gm w F:=by
 have o:=gb (λ(r:Value)(G:World)(h:OI w.heap.size G r (chM v l t m))=>yx r (chM v l t m) G (h.sl (by grind [chM])) (by grind [chM]));obtain⟨aa,ac,N,rfl,hN,ad,d⟩:=E.openN;rw[hN.out]at T
 have k:=gd (∀i,i<N->l.getD i 0<v) (λi C=>by
  grind [List.getElem_mem])
 have n:=gb (λi (h:i<N)=>G0 v l t m (i:=i) ON);have K:=gd (WA v l t m N=chM v l t m) (by rw[<-hN.out];grind [Tq]);have M:=gb (λi (h:i<=N)=>Tr v l t m (i:=i) ON);have J:=gd (WA v l t m 0=[]) rfl;have I:=gd (nG (chM v l t m)=vS v l t m) rfl;clear E P hN;generalize WA v l t m=j at*;generalize chM v l t m=CM at*;generalize vS v l t m=Z at*;obtain⟨f,B⟩:∃f:Nat->Nat,∀i,l.getD i 0=f i:=⟨λi=>l.getD i 0,λi=>rfl⟩;simp only[B]at d k n;clear B;go_enter func165,ntmps165;go_wp2;go_loopw [9,10] (λX g wr=>∃i:Nat,g= .int .i64 i/\i<=N/\OI w.heap.size wr X (j i)/\gm w wr) (λ_ g _=>N-(intOf g).toNat)
 case atStart=>exact⟨0,rfl,ge _,by rw[J.out];exact OI.nil _ _,f0 _ _⟩
 case round=>
  obtain⟨i,rfl,C,c,a⟩:=hrel;by_cases e:i<N
  ·have S:(i:Int)<N:=(by omega);obtain⟨ab,aj,rfl,A⟩:=d.out Oa;have hx:=A wr a i e;have ah:=k.out i e;have L:=gb (n.out i e);have U:(j i).length<=1000000000000:=(by rw[M.out i C];omega);have D:=a.size;have b:=gb a;clear A d a;generalize f i=x at*;have ag:x*t<=60*60:=gE Oa W;have n1:(x:Int)*t=((x*t:Nat):Int):=(gI _ _).symm;have n2:((x*t:Nat):Int)+m=((x*t+m:Nat):Int):=Oa;have n3:((x*t+m:Nat):Int).tmod (v:Int)=(((x*t+m)%v:Nat):Int):=(gO _ _).symm;generalize x*t=H at*;have ai:H+m<=5000:=Oa;generalize H+m=Y at*;generalize Y%v=r at*;go_wp2_with (at_builtin;refine g8 wr _ _ 45 rfl rfl underlying45 info3 w.heap.size _ _ rfl c rfl U D ?_;intro g7 c7 w4 V R ae af);have Q:=c.grown b.out R D;have p:=gR (V.cast L.out) Q;go_roundw
   case rel=>exact⟨i+1,by go_num,by omega,p.out.1,p.out.2⟩
   case measure=>exact gQ
  ·obtain rfl:i=N:=(by omega);have S:¬(i:Int)<i:=Oa;have O:=gb (o.out _ wr (c.cast K.out));have b:=gb a;clear o c a;go_wp2_with fail;refine O.out.mono ?_;rintro s w5 ⟨⟨r,rfl,y⟩,z⟩;have q:=gR ((y.mono b.out.size).cast I.out) (b.out.trans (z.mono b.out.size));clear y z;go_wp2;go_ret;exact⟨⟨_,rfl,q.out.1⟩,q.out.2⟩
theorem XG(v:Nat)(u:Value)(l:gA)(w:World)(hu:Sl w u (jj l))(h:kH v l=0):
 Calls prog 78 #[.int .i64 v,u] w λe B=>(∃aw,e= .returned aw/\OI w.heap.size B aw (qN v l (v-1)))/\gm w B:=by
 obtain⟨ar,aM,an,_⟩:=oL h;have aR:=td h;obtain⟨V,hV⟩:∃V,v-1=V:=⟨_,rfl⟩;rw[hV];have HD:=gb (λ(t:Nat)(a:World)(ht:t<=60)=>LH t v a Oa Oa);have aa:=gb (λ(t m:Nat)(a:World)(ht:t<=60)(hm:m<=60)(n:gm w a)=>FM v t m u l a ⟨ar,aM⟩ ht hm (hu.below n) Oa an);have D:=gd (∀t m,(vS v l t m).length=l.length) (λt m=>za v l t m)
 have ay:=gb (λ(Q R:Value)(B1 B2 t s:Nat)(a:World)(n:OI B1 a Q (vS v l 1 s))(J:OI B2 a R (vS v l t 0))=>(show Calls prog 166 #[Q,R] a λe B=>e= .returned (.bool (decide (vS v l t 0=vS v l 1 s)))/\∃aN,B=a.drewN aN from by
  have h3:=abA Q R _ _ a (n.sl (by rw[D.out];omega)) (J.sl (by rw[D.out];omega))
  rwa [show decide (vS v l 1 s=vS v l t 0)=decide (vS v l t 0=vS v l 1 s)from vC.2 eq_comm]at h3))
 have aF:=gb (λt=>acE (v:=v) (l:=l) (t:=t));have aG:=gb (λt s=>Vg (v:=v) (l:=l) (t:=t) (s:=s));have az:=gb (λt=>Vf (v:=v) (l:=l) (t:=t));have aA:=gd (∀t,1<=Nat.gcd t v) (λt=>uI t Oa);have aE:=gb (CY v l);have aC:=gb (AS v l);have aB:=gd (qN v l 0=[]) rfl;clear hu an h;generalize qN v l=c at*;generalize mtB v l=MB at*;generalize vS v l=d at*;generalize l.length=aO at*;go_enter func78,ntmps78;go_wp2;go_loopw [5,6,7,8,9,10,11] (λov U _ _ _ _ _ wr=>∃k:Nat,U= .int .i64 ((k+1:Nat):Int)/\k+1<=v/\OI w.heap.size wr ov (c k)/\gm w wr) (λ_ U _ _ _ _ _ _=>v-(intOf U).toNat)
 case atStart=>exact⟨0,rfl,ar,by rw[aB.out];exact OI.nil _ _,f0 _ _⟩
 case round=>
  obtain⟨k,rfl,hk,A,y⟩:=hrel;obtain⟨T,K⟩:∃T,k+1=T:=⟨_,rfl⟩;have p:=aE.out k;rw[K]at hk p⊢;have HT:=gb K;by_cases aP:T<v
  ·have aL:(T:Int)<v:=(by omega);have ab:=gb (HD.out T wr Oa);have aK:=aA.out T;have ac:=gb (az.out T);have af:=gb (aG.out T);have f:=gR A y;have ad:=gb p;clear A y p K;obtain⟨G,hG⟩:∃G,Nat.gcd T v=G:=⟨_,rfl⟩;rw[hG]at ab aK ac af;clear hG;go_wp2_with fail;refine ab.out.mono ?_;rintro e w2 ⟨rfl,q,rfl⟩;by_cases aH:G=1
   ·subst aH;have Y:=gb (aa.out T 0 (wr.drewN q) Oa Oa (gM f.out.2 q));go_wp2_with fail;refine Y.out.mono ?_;rintro e w3 ⟨⟨mv,rfl,N⟩,O⟩;obtain⟨ma,mc,ah⟩:=N.len;rw[D.out]at ah;subst ah;have ak:=(gM f.out.2 q).trans (O.mono f.out.2.size);have ap:=(f.out.1.drewN q).below O;have g:=ju N ak ap;clear N O ak ap Y;obtain⟨F,aJ⟩:∃F,F=w3:=⟨_,rfl⟩;subst aJ;go_wp2;go_loopw [9,10,11] (λW S _ wq=>∃(s:Nat)(z:Bool),W= .bool z/\S= .int .i64 s/\s<=v/\Hid (z=true->MB T=true)/\Hid (z=false->∀j,j<s->decide (d T 0=d 1 j)=false)/\gm F wq) (λW S _ _=>(match W with| .bool true=>0|_=>1)+(v-(intOf S).toNat))
    case atStart=>exact⟨0,false,rfl,rfl,ge _,gb (λh=>by cases h),gb (λ_ j hj=>by omega),f0 _ _⟩
    case round=>
     obtain⟨s,z,rfl,rfl,hs,E,x,i⟩:=hrel;have b:=ju (g.out.1.below i) (g.out.2.2.below i) (g.out.2.1.trans (i.mono g.out.2.1.size));by_cases L:s<v/\z=false
     ·obtain⟨o,rfl⟩:=L;have aq:(s:Int)<v:=Oa;have Z:=gb (aa.out 1 s wr Oa Oa b.out.2.2);have X:=gb i;clear i;go_wp2_with fail;refine Z.out.mono ?_;rintro e w5 ⟨⟨lv,rfl,am⟩,M⟩;have HI:=gb (ay.out lv _ _ _ T s w5 am (b.out.1.below M));have al:=X.out.trans (M.mono X.out.size);have ax:=gb al;have ae:=gb (af.out s Oa o)
      have ag:=gb (λ(h:decide (d T 0=d 1 s)=false)=>(show∀j,j<s+1->decide (d T 0=d 1 j)=false from λj hj=>by
       by_cases e:j=s
       ·rw[e];exact h
       ·exact x.out OK j Oa))
      clear am M al Z x E;obtain⟨C,av⟩:∃C,decide (d T 0=d 1 s)=C:=⟨_,rfl⟩;rw[av]at HI ae ag;clear av;go_wp2_with fail;refine HI.out.mono ?_;rintro e w6 ⟨rfl,q2,rfl⟩;go_wp2;go_roundw
      case rel=>exact⟨s+1,C,rfl,by go_num,by omega,gb (λh=>ae.out h),gb (λh=>ag.out h),gM ax.out q2⟩
      case measure=>cases C<;>simp[intOf]<;>omega
     ·have r:=gd (c T=if z=true then c k++[(T:Int)]else c k) (by
       rw[ad.out];cases z with
       |true=>rw[E.out rfl]
       |false=>
        have o:s=v:=gx λh=>L ⟨by omega,rfl⟩
        rw[aF.out T (by rw[<-o];exact x.out rfl)])
      clear E x i;cases z with
      |true=>
       rw[gl rfl]at r;have fI:=b.out.2.1;have eb:=b.out.2.2.size;have fx:(c k).length<=1000000000000:=gt (aC.out k) (by have:=HT.out;omega);have aj:=b.out.2.2;have ai:∀I H w8,OI w.heap.size w8 (.slice (some ⟨I,0,none⟩) ((c k).length+1) H) (c k++[(T:Int)])->wr.grownBy w8 _->OI w.heap.size w8 (.slice (some ⟨I,0,none⟩) ((c k).length+1) H) (c T)/\gm w w8:=λI H w8 n J=>⟨n.cast r.out.symm,fI.grown aj J eb⟩;have fR:=gb ai;clear ai aj g b;by_cases o:s<v
       ·have aq:(s:Int)<v:=(by omega);exact OU
       ·have aq:¬(s:Int)<v:=(by omega);exact OU
      |false=>
       rw[gh Oc]at r;have o:s=v:=gx λh=>L ⟨by omega,rfl⟩;have HF:=gR (b.out.2.1.cast r.out.symm) b.out.2.2;clear g b;go_wp2;exact O9
   ·have aQ:((G:Int) !=1)=true:=(by rw[iT];omega);have ao:=ac.out Oa;have P:=ad.out;rw[ao,gh Oc]at P;have HF:=gR ((f.out.1.drewN q).cast P.symm) (gM f.out.2 q);clear ao P f;go_wp2;exact O9
  ·have aL:¬(T:Int)<v:=(by omega);obtain rfl:k=V:=Oa;have HF:=gR A y;clear A y p;go_wp2;go_ret;exact⟨⟨_,rfl,HF.out.1⟩,HF.out.2⟩
theorem adr(p:Int)(a b:Option Addr)(n c e d:Nat)(w:World):
 Calls prog 106 #[.int .i64 p,.slice a n c,.slice b e d] w λf g=>f= .returned (.func (.func 187) #[] #[.pointer (some ⟨w.heap.size+1+1,0,none⟩),.pointer (some ⟨w.heap.size+1,0,none⟩),.pointer (some ⟨w.heap.size,0,none⟩)])/\
  g=((w.alloc (.cells #[.int .i64 p] 3)).alloc (.cells #[.slice a n c] 45)).alloc (.cells #[.slice b e d] 45):=by
 go_enter func106,ntmps106;go_wp2;go_ret;exact⟨rfl,rfl⟩
structure ZM(p:Int)(taps seed:gP)(bs bt bp:Nat)(sv tv:Value)(A:World):Prop where
 cp:A.cell? ⟨bp,0,none⟩=some (.int .i64 p)
 ct:A.cell? ⟨bt,0,none⟩=some tv
 cs:A.cell? ⟨bs,0,none⟩=some sv
 tl:Sl A tv taps
 sl:Sl A sv seed
theorem GM{a w:World}(h:gm a w)(c:Option Nat):a.grownBy w c:=⟨h.os,h.tape,h.output,h.size,λk b _=>h.block k b⟩
theorem Sl.at'{b a n c:Nat}{w:World}{l:gP}(h:Sl w (.slice (some ⟨b,a,none⟩) n c) l)(i:Nat)(hi:i<n):b<w.heap.size/\w.cell? ⟨b,a+i,none⟩=some (.int .i64 (l[i]?.getD 0)):=by
 obtain⟨d,e,N,f,k,g,j⟩:=h.open
 grind
theorem adp(p:Int)(taps seed:gP)(R:ZL p taps seed)(bs G F:Nat)(sv tv:Value)(N:Nat):
 akD prog 187 #[.pointer (some ⟨bs,0,none⟩),.pointer (some ⟨G,0,none⟩),.pointer (some ⟨F,0,none⟩)] (I4 p taps seed) (ZM p taps seed bs G F sv tv) N:=by
 intro aK X Jx W J hA hY H;refine pL.2 ?_;show Calls _ _ #[.func (.yield aK) #[] #[],.pointer (some ⟨bs,0,none⟩),.pointer (some ⟨G,0,none⟩),.pointer (some ⟨F,0,none⟩)] W _;have v:=(J _ _ _ H).1;have af:=R.k1;have aG:=R.k8;have r:=R.len;have aB:=v.cs;have Q:=v.sl;obtain⟨a',c',M,rfl,b,aU,ag⟩:=Q.open;rw[b.out]at r;obtain⟨b',aL,rfl,aS,aA⟩:=ag Oa;obtain⟨a2,c2,M2,rfl,ac,aV,ai⟩:=v.tl.open;obtain⟨b2,a1,rfl,aT,_⟩:=ai (by rw[<-ac.out];omega);obtain rfl:M=M2:=by rw[r,ac.out]
 have HS:=gb J;have HA:=gb hA;have HY:=gb hY;have H0:=gb H;have HR:=gb R;have l:=gb r;clear J hA hY H v ag aA R r ai;go_enter func187,ntmps187;go_wp2_with fail;refine(uT b' aL M c' seed W Q (by rw[b.out,l.out];omega)).mono ?_;rintro e w1 ⟨⟨u,rfl,o⟩,hb⟩;have aJ:Cw W.heap.size w1 u (sp p taps seed 0):=by rw[aef];exact Cw.of_ow o (by rw[b.out,l.out];exact af)
 have aE:X 0 (.slice none 0 0) w1:=HA.out _ _ _ _ none H0.out (GM hb _) (λah e=>by cases e);clear aB Q o hb;go_wp2_with fail;go_loopg [5] N (λax al wr=>∃k y,ax+k=N/\X k y wr/\Cw W.heap.size wr al (sp p taps seed k)/\(∀g,al.ownBlock=some g->y.ownBlock≠some g))
 case atStart=>exact⟨0,_,by omega,aE,aJ,λg _=>by simp[Value.ownBlock]⟩
 case round=>
  obtain⟨k,y,hf,L,d,t⟩:=hrel;obtain⟨f,w,aw,rfl⟩:=d.form;have I:1<=M:=(by rw[l.out];exact af);have aQ:M<=8:=(by rw[l.out];exact aG);rw[wR,b.out]at d t⊢;have hB:=d.lt.1;have az:=d.lt.2.1;have aR:=d.lt.2.2.2;have ae:=d.cell 0 (by rw[wR,b.out];exact I);rw[ahg (by rw[b.out];exact I),kp]at ae;obtain⟨fn,a3,assign,body,hy,ad⟩:=HY.out k y wr L;refine wp_seq_k λK1 aN=> ?_;refine wp_seq_k λK2 aO=> ?_;refine(vI (n:=0)).1 ?_;gi_wp2;refine⟨rfl,ad.mono ?_⟩;rintro e C (⟨rfl,q',O,P,o⟩|⟨rfl,q',hx⟩)
  ·obtain⟨⟨s1,s2,s3,s4,s5⟩,s6,s7⟩:=HS.out _ _ _ O;have S:=d.same (P.same f hB az (t f rfl));have aj:q'.ownBlock≠some f:=λe=>by
    rcases o f e with h|h
    ·exact t f rfl h
    ·exact Oa
   have aM:=P.size;have HJ:=gb O;have cY:=gb aj;have V:=gb S;have ap:=gb (λi (K:i<M)=>(s4.at' i K).2);have aq:=gb (λi (K:i<M)=>S.cell i (by rw[wR,b.out];exact K));have T:∀x∈sp p taps seed k,0<=x/\x<p:=λx hx=>wK UX HR.out.fs _ x (nU hx);have ar:=gb (λj=>rM UX T j);have ao:=gb (λj=>rM UX HR.out.ft j);have U:=gb (LU UX HR.out.p7 HR.out.ft T);have an:=gd (∀j,ym taps (sp p taps seed k) (j+1)=ym taps (sp p taps seed k) j+taps.getD j 0*(sp p taps seed k).getD (M-1-j) 0) (λj=>by simp only[ym];rw[wR,b.out]);have am:=gb (aee p taps seed k (by rw[b.out];exact I));have ay:=gd ((sp p taps seed k).length=M) (by rw[wR,b.out]);have aX:=HR.out.p2;have aH:=HR.out.p7;clear d t L ae hy ad P o S aj O s3 s4 s5 T;generalize sp p taps seed k=c at*;gi_wp2;go_wp2;go_loop [6,7,8,18] (λs _ _ i=>∃a:Nat,a<=M/\i= .int .i64 a/\s= .int .i64 (ym taps c a)) (λ_ _ _ i=>M-(intOf i).toNat)
   case atStart=>exact⟨0,ge _,rfl,rfl⟩
   case round=>
    obtain⟨a,L,rfl,rfl⟩:=hrel;by_cases aF:a<M
    ·have c1:=ap.out a aF;have c3:=aq.out (M-1-a) Oa;have D:=ao.out a;have E:=ar.out (M-1-a);obtain⟨Y,av⟩:=U.out a;obtain⟨Z,aa⟩:=AV D E aH;have A:=gb (an.out a);rw[Nc]at D Z aa A;obtain⟨z,hz⟩:∃z:Nat,z=M-1-a:=⟨_,rfl⟩;rw[<-hz]at c3 E Z aa A;have aY:(M:Int)-1-a=z:=Oa;have a0:z<M:=Oa;generalize taps[a]?.getD 0=x at*;generalize c.getD z 0=a4 at*;generalize ym taps c a=s at*;clear hz D E;go_wp2;go_round
     case rel=>exact⟨a+1,by omega,by go_num,by rw[A.out]⟩
     case measure=>exact gQ
    ·obtain rfl:M=a:=(by omega);obtain⟨Y,av⟩:=U.out M
     have eA:=gd (sp p taps seed (k+1)=c.drop 1++[ym taps c M%p]) (by
      rcases am.out with h|h
      ·rw[h,<-l.out]
      ·exact absurd (by rw[<-l.out,b.out]) h)
     generalize ym taps c M=s at*;have ab:W.heap.size<=C.heap.size:=Oa;have ak:(c.drop 1).length<=1000000000000:=(by rw[ow,ay.out];omega);have aP:(1:Int)<=M:=Oa;have aW:¬p=0:=Oa;have aZ:s.tmod p=s%p:=jC Y;by_cases aC:aw=1
     ·subst aC;obtain rfl:M=1:=Oa;have q:=V.out.slice1 Oa w rfl;have B:=gb q;clear q;go_wp2;go_region_law (refine Ji C _ _ 45 rfl rfl underlying45 info3 W.heap.size f w _ _ (c.drop 1) rfl B.out rfl ak ab ?_;intro v' w2 aD au aI);exact O7
     ·have q:=V.out.slice1 Oa (w+1) (by grind);have B:=gb q;clear q;go_wp2;go_region_law (refine Ji C _ _ 45 rfl rfl underlying45 info3 W.heap.size f (w+1) _ _ (c.drop 1) rfl B.out rfl ak ab ?_;intro v' w2 aD au aI);exact O7
  ·gi_wp2;go_wp2;go_end0
   grind
end Go.Proofs.YtnnaadmegeeinaaGreatDoor
