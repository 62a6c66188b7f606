/-
  Part 19 of a proof: what it proves stands in the last text.
-/
import Derived.Test.YtnnaadmegeeinaaGreatDoorYr
import Derived.Lib.SmallJoins
import Derived.Lib.AtoiErrMem
import Derived.Lib.AppendIntMem
import Derived.WalkLawsBesides
set_option linter.all false
set_option maxHeartbeats 8000000
set_option maxRecDepth 100000
namespace Go.Proofs.YtnnaadmegeeinaaGreatDoor
open Tryz Go.Proofs.Tryz
open Go.RowKit
def pF:=@List.mapM_cons
def yQ:=@Lib.decDigits_length
def Bw:=@List.length_pos_iff
def JJ:=@Option.bind_some
def aeC:=@Boxed.set
def aeS:=@World.block_lt_of_cell?
theorem O1{p:Prop}(h:p:=by exact⟨rfl,HZ.out⟩):p:=h
theorem O8{p:Prop}(h:p:=by
 have dG:=gR (aeC (.int .i64 (m:Int)) HI.out.2.1) (nN HI.out.2.2 (JP wr (Z.heap.size+1) (.int .i64 (m:Int))) (λah e _=>by omega));gi_wp2
 exact⟨(oD _ _ _).from _,lp.setCell _ _ _ (by grind),fM.out,by rw[fk.out];exact dG.out.1,dG.out.2⟩):p:=h
theorem Mf{p:Prop}(h:p:=by
 have bx:=gV (P:=prog) _ _ _ 103 _ _ hF.range underlying103 rfl cm;refine⟨rfl,.tuple #[.agg #[.int .i64 v,.slice pa pn pc],.int .i64 0],?_,⟨v,pa,pn,pc,by rw[HE.out],λ_=>by rw[dI.out];exact dc⟩,bf⟩
 exact Sg):p:=h
theorem Mw{p:Prop}(h:p:=by
 have HMT2:=gb fl;clear fl fe hq;generalize lr ((o5 bs).take j) x=m at*;gi_wp2;go_roundw
 case rel=>exact⟨j+1,by omega,by go_num,by rw[HMT2.out];go_num,gb trivial⟩
 case measure=>exact gQ):p:=h
theorem MK{p:Prop}(h:p:=by rw[cu.out,<-HR.out,ie QY]):p:=h
theorem Sa{p:Prop}(h:p:=by rw[<-dk];exact(f0 _ _).alloc (fZ _) _):p:=h
theorem Sg{p:Prop}(h:p:=by
 show((results _ _).run _ _)=_
 simp[results,f120,asAddr,bx]):p:=h
theorem UO{p:Prop}(h:p:=by rw[dd,jB];rfl):p:=h
theorem UY{p:Prop}(h:p:=by unfold oC;omega):p:=h
theorem Dc{p:Prop}(h:p:=by rw[ec.out];exact cL):p:=h
theorem DO{p:Prop}(h:p:=by rw[<-dk];simp):p:=h
theorem DP{p:Prop}(h:p:=by
 show((results _ _).run _ _)=_
 simp[results,f207,asAddr,bx]):p:=h
theorem KD{p:Prop}(h:p:=by
 have eN:=gb (λZ h=>LR W0 (w.heap.size+1) v aw Z fz Oa h);have dI:=gb hx;clear fz hx;generalize v%6=ai at*;generalize v/6=I at*;rw[<-cU.out]at HC;go_enter func120,ntmps120;go_wp2_with fail;refine HC.out.mono ?_;rintro e Z ⟨⟨ah,rfl⟩,a6⟩;rw[cU.out]at a6;have ea:=gb (eN.out Z a6);clear a6 eN HC cU;go_wp2_with fail;refine ea.out.mono ?_;rintro e aj ⟨⟨pa,pn,pc,rfl,aL,dn⟩,ar⟩;have bz:hU aj w.heap.size 103 [.int .i64 0,.slice none 0 0]:=(ar.block w.heap.size Oa).trans HW.out.1;have eZ:aj.cell? ⟨w.heap.size,0,none⟩=some (.int .i64 0):=bz.cell 0;have fo:aj.cell? ⟨w.heap.size,1,none⟩=some (.slice none 0 0):=bz.cell 1;have e4:=bz.frozen 0;have fm:=bz.frozen 1;have aP:=HW.out.2.1.trans (ar.mono Oa);have HY:=ju bz dn aP;clear bz dn ar aP ea;go_wp2;have bb:=HY.out.1.stored 0 (.int .i64 v);have aJ:=bb.1.stored 1 (.slice pa pn pc);have hF:hU ((aj.setCell ⟨w.heap.size,0,none⟩ (.int .i64 v)).setCell ⟨w.heap.size,1,none⟩ (.slice pa pn pc)) w.heap.size 103 [.int .i64 v,.slice pa pn pc]:=aJ.1;have dM:=((HY.out.2.1.kept bb.2 (λk e=>by grind)).kept aJ.2 (λk e=>by grind));have bf:=((HY.out.2.2.grown bb.2 HY.out.2.2.size (λk e=>by grind)).grown aJ.2 (gt HY.out.2.2.size bb.2.size) (λk e=>by grind));have ek:=(qH aw).1
 have dc:=dM.rl Oa (λH hi=>by
  grind)
 exact Mf):p:=h
theorem KV{p:Prop}(h:p:=by
 clear h;go_enter func120,ntmps120;go_wp2;have bx:=gV (P:=prog) _ _ _ 103 _ _ HR.out.1.range underlying103 rfl cm;refine⟨rfl,.tuple #[.agg #[.int .i64 0,.slice none 0 0],.int .i64 1],?_,⟨0,none,0,0,by rw[HE.out],λh=>absurd (HE.out.symm.trans h) Oc⟩,HR.out.2⟩
 exact Sg):p:=h
theorem Pt{p:Prop}(h:p:=by
 have HZ:=gb (cK.out [] (.slice none 0 0) w (bp.out dd) (OI.nil _ _) (f0 _ _))
 exact Rs):p:=h
theorem Pw{p:Prop}(h:p:=by
 obtain rfl:I=NW:=Oa;have cV:¬(I:Int)<I:=Oa;have HZ:=gb (cK.out l _ wr MK (hl.mono eg) aO.out);clear hl J HR
 exact OO):p:=h
theorem Qu{p:Prop}(h:p:=by
 have HZ:=gb (bd.out Z (HV.out.trans (gh Oa)) HB.out);go_wp2
 exact O1):p:=h
theorem QA{p:Prop}(h:p:=by
 have:=lT (Z.alloc (.cells #[.int .i64 K] 3)) 3 (.int .i64 (-1))
 exact OK):p:=h
theorem QY{p:Prop}(h:p:=by rw[ec.out];omega):p:=h
theorem Rs{p:Prop}(h:p:=by
 have hq:((gJ s).toList==[45])=true:=UO;clear dd
 exact OO):p:=h
def AH(w:World)(P:Nat)(v:Value):World:=(((w.alloc (.cells #[.int .i64 P,v] 103)).alloc (.cells #[.int .i64 0] 3)).alloc (.cells #[.int .i64 0] 3)).alloc (.cells #[.int .i64 0] 49)
theorem ack(w:World)(P:Nat)(v:Value):(AH w P v).heap.size=w.heap.size+4:=by
 unfold AH;exact On
theorem pM(w:World)(P:Nat)(v:Value):Below w.heap.size w (AH w P v):=by
 unfold AH;exact((((f0 _ _).alloc (fZ _) _).alloc On _).alloc Oo _).alloc Oo _
theorem ahL(w:World)(P:Nat)(v:Value):(AH w P v).cell? ⟨w.heap.size,0,none⟩=some (.int .i64 P)/\(AH w P v).cell? ⟨w.heap.size,1,none⟩=some v:=by
 have h:=LW w P v;have a:Below (w.heap.size+1) (w.alloc (.cells #[.int .i64 P,v] 103)) (AH w P v):=by
  unfold AH;exact(((f0 _ _).alloc On _).alloc On _).alloc OK _
 exact⟨(a.cell (p:=⟨w.heap.size,0,none⟩) (vB _)).trans h.1,(a.cell (p:=⟨w.heap.size,1,none⟩) (vB _)).trans h.2⟩
theorem acj(w:World)(P:Nat)(v:Value):Boxed (AH w P v) (w.heap.size+1) 3 (.int .i64 0)/\Boxed (AH w P v) (w.heap.size+1+1) 3 (.int .i64 0)/\Boxed (AH w P v) (w.heap.size+1+1+1) 49 (.int .i64 0):=by
 unfold AH;refine⟨?_,?_,?_⟩
 ·have:=((lT (w.alloc (.cells #[.int .i64 P,v] 103)) 3 (.int .i64 0)).alloc (.cells #[.int .i64 0] 3)).alloc (.cells #[.int .i64 0] 49);exact OK
 ·have:=(lT ((w.alloc (.cells #[.int .i64 P,v] 103)).alloc (.cells #[.int .i64 0] 3)) 3 (.int .i64 0)).alloc (.cells #[.int .i64 0] 49);exact OK
 ·have:=lT (((w.alloc (.cells #[.int .i64 P,v] 103)).alloc (.cells #[.int .i64 0] 3)).alloc (.cells #[.int .i64 0] 3)) 49 (.int .i64 0);exact OK
theorem rP{n:Nat}{W a:World}{B:Nat}{t:TypeId}{v:Value}(h:Boxed W B t v)(c:Below n W a)(b:B<n):Boxed a B t v:=(c.block B b).trans h
structure LvB(w:World)(P:Nat)(v:Value)(W:World):Prop where
 d0:W.cell? ⟨w.heap.size,0,none⟩=some (.int .i64 P)
 d1:W.cell? ⟨w.heap.size,1,none⟩=some v
 r1:Boxed W (w.heap.size+1) 3 (.int .i64 0)
 r2:Boxed W (w.heap.size+1+1) 3 (.int .i64 0)
 r3:Boxed W (w.heap.size+1+1+1) 49 (.int .i64 0)
 bl:gm w W
 sz:w.heap.size+4<=W.heap.size
theorem LvB.at0(w:World)(P:Nat)(v:Value):LvB w P v (AH w P v):=
 ⟨(ahL w P v).1,(ahL w P v).2,(acj w P v).1,(acj w P v).2.1,(acj w P v).2.2,pM w P v,by rw[ack];omega⟩
theorem LvB.below{w:World}{P:Nat}{v:Value}{W b:World}(h:LvB w P v W)(a:Below (w.heap.size+4) W b):LvB w P v b:=
 ⟨(a.cell (p:=⟨w.heap.size,0,none⟩) (by grind)).trans h.d0,(a.cell (p:=⟨w.heap.size,1,none⟩) (by grind)).trans h.d1,rP h.r1 a Oa,rP h.r2 a Oa,rP h.r3 a Oa,h.bl.trans (a.mono Oa),gt h.sz a.size⟩
def tw(w W:World)(x y z:Int):World:=((W.setCell ⟨w.heap.size+1,0,none⟩ (.int .i64 x)).setCell ⟨w.heap.size+1+1,0,none⟩ (.int .i64 y)).setCell ⟨w.heap.size+1+1+1,0,none⟩ (.int .i64 z)
theorem tZ{W:World}{B C:Nat}{t:TypeId}{v:Value}(h:Boxed W B t v)(a:B≠C)(u:Value):Boxed (W.setCell ⟨C,0,none⟩ u) B t v:=(kr W ⟨C,0,none⟩ u B a).trans h
theorem rh{w W:World}{a b c:Value}{p q r:TypeId}(d:Boxed W (w.heap.size+1) p a)(e:Boxed W (w.heap.size+1+1) q b)(f:Boxed W (w.heap.size+1+1+1) r c)(x y z:Int):
 Boxed (tw w W x y z) (w.heap.size+1) p (.int .i64 x)/\Boxed (tw w W x y z) (w.heap.size+1+1) q (.int .i64 y)/\Boxed (tw w W x y z) (w.heap.size+1+1+1) r (.int .i64 z):=by
 unfold tw;exact⟨tZ (tZ (aeC _ d) Oa _) Oa _,tZ (aeC _ (tZ e Oa _)) Oa _,aeC _ (tZ (tZ f Oa _) Oa _)⟩
theorem nO{w W:World}(h:gm w W)(x y z:Int):Below w.heap.size w (tw w W x y z):=by
 unfold tw;exact((h.setCell (p:=⟨w.heap.size+1,0,none⟩) On _).setCell (p:=⟨w.heap.size+1+1,0,none⟩) (by grind) _).setCell (p:=⟨w.heap.size+1+1+1,0,none⟩) (by grind) _
theorem Fo{R:Ending->World->Prop}{a:Act}{W:World}(H:Nat)(x y z:Int)(f:a.defers=[])(b:a.tmps[4]?.getD undef= .pointer (some ⟨H+1,0,none⟩))(c:a.tmps[5]?.getD undef= .pointer (some ⟨H+1+1,0,none⟩))(d:a.tmps[6]?.getD undef= .pointer (some ⟨H+1+1+1,0,none⟩))
 (c1:W.cell? ⟨H+1,0,none⟩=some (.int .i64 x)) (c2:W.cell? ⟨H+1+1,0,none⟩=some (.int .i64 y)) (c3:W.cell? ⟨H+1+1+1,0,none⟩=some (.int .i64 z)) (e:R (.returned (.tuple #[.int .i64 x,.int .i64 y,.int .i64 z])) W):
 bodyPost prog f119 R .ret a W:=
 su (by simp[results,f119,go_sem,b,c,d,c1,c2,c3,asAddr]) f e
theorem JY(P t:Nat)(v:Value)(bs:kl)(w:World)(k:P<1000000000)(g:RL w v (bs.map jj))(l:∀j∈bs,∀x∈j,x<1000000000)(h:rC P bs≠0):
 Calls prog 119 #[.agg #[.int .i64 P,v],.int .i64 t] w λe n=>e= .returned (.tuple #[.int .i64 0,.int .i64 0,.int .i64 (rC P bs)])/\gm w n:=by
 have i:=gb (pM w P v);have c:=gb (oZ P v bs (AH w P v) k (g.below i.out) l);have r:(rC P bs !=0)=true:=by grind
 generalize rC P bs=E at*;unfold AH at c;clear h g;go_enter func119,ntmps119;go_wp2_with fail;refine c.out.mono ?_;rintro e s ⟨rfl,f⟩;have a:=gb ((LvB.at0 w P v).below (f.mono OK));clear f;have c1:=a.out.r1.cell;have c2:=a.out.r2.cell;have c3:=a.out.r3.cell;have o:=a.out.r1.frozen;have p:=a.out.r2.frozen;have q:=a.out.r3.frozen;have b:=gb (rh a.out.r1 a.out.r2 a.out.r3 0 0 E);have d:=gb (nO a.out.bl 0 0 E);unfold tw at b d;go_wp2;exact Fo w.heap.size 0 0 E rfl rfl rfl rfl b.out.1.cell b.out.2.1.cell b.out.2.2.cell ⟨rfl,d.out⟩
theorem Wa(P t:Nat)(v:Value)(bs:kl)(w:World)(k:P<1000000000)(y:t<1000000000)(g:RL w v (bs.map jj))(l:∀j∈bs,∀x∈j,x<1000000000)(h:rC P bs=0)(r:4<t\/P<t):
 Calls prog 119 #[.agg #[.int .i64 P,v],.int .i64 t] w λe n=>e= .returned (.tuple #[.int .i64 0,.int .i64 0,.int .i64 1])/\gm w n:=by
 have i:=gb (pM w P v);have c:=gb (oZ P v bs (AH w P v) k (g.below i.out) l);rw[h]at c;unfold AH at c;clear h g;by_cases s:4<t
 all_goals
  go_enter func119,ntmps119;go_wp2_with fail;refine c.out.mono ?_;rintro e z ⟨rfl,f⟩;have a:=gb ((LvB.at0 w P v).below (f.mono OK));clear f;have c1:=a.out.r1.cell;have c2:=a.out.r2.cell;have c3:=a.out.r3.cell;have o:=a.out.r1.frozen;have p:=a.out.r2.frozen;have q:=a.out.r3.frozen;have b:=gb (rh a.out.r1 a.out.r2 a.out.r3 0 0 1);have d:=gb (nO a.out.bl 0 0 1);unfold tw at b d;have hi:(4:Int)<(t:Int)\/((t:Int)<=4/\(P:Int)<(t:Int)):=by omega
  have c0:=a.out.d0;go_wp2;exact Fo w.heap.size 0 0 1 rfl rfl rfl rfl b.out.1.cell b.out.2.1.cell b.out.2.2.cell ⟨rfl,d.out⟩
theorem J7(P t:Nat)(v:Value)(w:World)(n:P<1000000000)(C:t<1000000000)(d:RL w v (List.map jj []))(h:rC P []=0)(y:t<=4)(A:t<=P):
 Calls prog 119 #[.agg #[.int .i64 P,v],.int .i64 t] w λe p=>e= .returned (.tuple #[.int .i64 0,.int .i64 0,.int .i64 4])/\gm w p:=by
 have j:=gb (pM w P v);obtain⟨k,l,N,e,g,B,o⟩:=d.open;have c:=gb (oZ P v [] (AH w P v) n (d.below j.out) On);rw[h]at c;unfold AH at c;obtain rfl:N=0:=by rw[<-g.out];rfl
 subst e;clear h d g o;go_enter func119,ntmps119;go_wp2_with fail;refine c.out.mono ?_;rintro e D ⟨rfl,i⟩;have a:=gb ((LvB.at0 w P (.slice k 0 l)).below (i.mono OK));clear i;have c0:=a.out.d0;have q:=a.out.d1;have c1:=a.out.r1.cell;have c2:=a.out.r2.cell;have c3:=a.out.r3.cell;have r:=a.out.r1.frozen;have s:=a.out.r2.frozen;have x:=a.out.r3.frozen;have b:=gb (rh a.out.r1 a.out.r2 a.out.r3 0 0 4);have f:=gb (nO a.out.bl 0 0 4);unfold tw at b f;have z:¬(4:Int)<t:=Oa;go_wp2;exact Fo w.heap.size 0 0 4 rfl rfl rfl rfl b.out.1.cell b.out.2.1.cell b.out.2.2.cell ⟨rfl,f.out⟩
section
attribute [local go_sem] Oper.semAt_some
theorem Im(k:Nat)(bs:kl):(bs.map jj).any (Cb k)=bs.any λb=>decide (b.length≠k):=by
 rw[List.any_map];refine jA (λf=>List.any bs f) (funext λb=> ?_);show decide ((jj b).length≠k)=_;rw[jw]
theorem ajJ{B:Nat}{w:World}{u:Value}{bs:kl}(h:Ow 189 B w u (bs.map λb=>py (sD 0 b)))(i:0<bs.length):
 ∃g c,u= .slice (some ⟨g,0,none⟩) bs.length c/\B<=g/\g<w.heap.size/\∀j,j<bs.length->w.cell? ⟨g,j,none⟩=some (.int .u64 (((o5 bs).getD j 0:Nat):Int)):=by
 obtain⟨g,c,e,a,d⟩:=h.form (by grind);subst e;rw[gv];refine⟨g,c,rfl,a,d,λj f=> ?_⟩;rw[h.cell j (by grind)]
 grind [o5,py]
theorem ajx{P:Nat}{bs:kl}(a:P<=40)(c:∀b∈bs,∀x∈b,x<P)(j:Nat):(o5 bs).getD j 0<1099511627776:=by
 unfold o5;rw[gc,gY];cases e:bs[j]? with
 |none=>simp
 |some b=>
  obtain⟨d,rfl⟩:=lP.1 e;exact acA (P:=40) Oc λx f=>by
   grind
theorem aiz{P:Nat}(d:P<=40):∀(t a s:Nat),s<2^40->∀x∈oz P t a s,x<2^40
 |0,a,s,c,x,b=>by
  grind [oz]
 |t+1,a,s,c,x,b=>by
  unfold oz at b;obtain⟨f,e,b⟩:=List.mem_flatMap.1 b;have:=gC.1 e;exact aiz d t _ _ (uA c (kX Oc Oa)) x b
structure SK(w:World)(D:Nat)(x y z:Int)(V:World):Prop where
 r1:Boxed V (w.heap.size+1) 3 (.int .i64 x)
 r2:Boxed V (w.heap.size+1+1) 3 (.int .i64 y)
 r3:Boxed V (w.heap.size+1+1+1) 49 (.int .i64 z)
 bl:gm w V
 dd:V.heap[D]? =some (.deferred (some []))
 hd:w.heap.size+4<=D
theorem SK.cells{w:World}{D:Nat}{x y z:Int}{V:World}(h:SK w D x y z V):
 (V.putObj D (.deferred none)).cell? ⟨w.heap.size+1,0,none⟩=some (.int .i64 x)/\(V.putObj D (.deferred none)).cell? ⟨w.heap.size+1+1,0,none⟩=some (.int .i64 y)/\(V.putObj D (.deferred none)).cell? ⟨w.heap.size+1+1+1,0,none⟩=some (.int .i64 z)/\Below w.heap.size w (V.putObj D (.deferred none)):=by
 have a:=rD V D (.deferred none);have b:=h.hd;exact⟨(h.r1.kept a Oo).cell,(h.r2.kept a Oo).cell,(h.r3.kept a Oo).cell,h.bl.grown a h.bl.size (λk e=>by grind)⟩
def oF(P t:Nat)(bs:kl):Prop:=(bs.any λb=>decide (b.length≠Iy bs))=true\/¬C5 (o5 bs) (oz P t 0 0)
def qL(P t:Nat)(bs:kl)(e:Ending):Prop:=(oF P t bs->e= .returned (.tuple #[.int .i64 0,.int .i64 0,.int .i64 4]))/\(¬oF P t bs->e= .returned (.tuple #[.int .i64 (Iy bs),.int .i64 (nR (o5 bs) (oz P t 0 0)),.int .i64 0]))
theorem qL.bad{P t:Nat}{bs:kl}(h:oF P t bs):qL P t bs (.returned (.tuple #[.int .i64 0,.int .i64 0,.int .i64 4])):=⟨λ_=>rfl,λa=>absurd h a⟩
theorem qL.good{P t:Nat}{bs:kl}(h:¬oF P t bs):qL P t bs (.returned (.tuple #[.int .i64 (Iy bs),.int .i64 (nR (o5 bs) (oz P t 0 0)),.int .i64 0])):=⟨λa=>absurd a h,λ_=>rfl⟩
theorem Ey(P t:Nat)(v:Value)(bs:kl)(w:World)(W:P<1000000000)(n:RL w v (bs.map jj))(h:rC P bs=0)(h4:t<=4)(h5:t<=P)(V:0<bs.length)(k:(bs.any λD=>decide (D.length≠Iy bs))=true):
 Calls prog 119 #[.agg #[.int .i64 P,v],.int .i64 t] w λs w'=>
  qL P t bs s/\gm w w':=by
 obtain⟨z1,z2,z3,z4⟩:=vY h;have O:=gb (pM w P v);have i:=gb (oZ P v bs (AH w P v) W (n.below O.out) (λD hb ag hx=>by grind));rw[h]at i;unfold AH at i;have R:=gb n;obtain⟨aa,r,N,rfl,y,ae,J⟩:=n.open;rw[gv]at y;have G:0<N:=by rw[<-y.out];exact V
 obtain⟨c,d,rfl,X,I⟩:=J G;obtain⟨u0,l,z⟩:=I 0 G;rw[rQ]at z;obtain⟨S,c0,K,rfl,x,Y,_⟩:=z.open;rw[jw]at x;have F:=gd (Iy bs=K) x.out;have C:=gR X l;have ac:N<=200:=by rw[<-y.out];exact z3
 clear h n I z x J l;have ab:¬(4:Int)<t:=Oa;have ad:((N:Int)==0)=false:=by grind
 rw[F.out]at k;go_enter func119,ntmps119;go_wp2_with fail;refine i.out.mono ?_;rintro s Z ⟨rfl,H⟩;have b:=gb ((LvB.at0 w P (.slice (some ⟨c,d,none⟩) N r)).below (H.mono OK));clear H i;have T:=b.out.d0;have E:=b.out.d1;have l:Z.cell? ⟨c,d,none⟩=some (.slice S K c0):=(b.out.bl.cell (p:=⟨c,d,none⟩) C.out.1).trans C.out.2;have af:=b.out.sz;have g:=gb (λ(e f:Obj)=>show Below Z.heap.size Z ((Z.alloc e).alloc f)from((f0 _ _).alloc (fZ _) _).alloc On _);have U:∀e f,((Z.alloc e).alloc f).cell? ⟨w.heap.size,1,none⟩=some (.slice (some ⟨c,d,none⟩) N r):=λe f=>((g.out e f).cell (p:=⟨w.heap.size,1,none⟩) (by grind)).trans E
 have o:=gd (Boxed ((Z.alloc (.cells #[.int .i64 K] 3)).alloc (.cells #[.int .i64 (-1)] 3)) Z.heap.size 3 (.int .i64 K)/\Boxed ((Z.alloc (.cells #[.int .i64 K] 3)).alloc (.cells #[.int .i64 (-1)] 3)) (Z.heap.size+1) 3 (.int .i64 (-1))) ⟨(lT Z _ _).alloc _,by
  exact QA⟩
 have q:=gb (Ip K (.slice (some ⟨c,d,none⟩) N r) (bs.map jj) Z.heap.size ((Z.alloc (.cells #[.int .i64 K] 3)).alloc (.cells #[.int .i64 (-1)] 3)) ((R.out.below b.out.bl).below (g.out _ _)) Y.1 o.out.1.cell);rw[Im,k]at q;go_wp2_with fail;refine q.out.mono ?_;rintro s w2 ⟨rfl,L⟩;have Q:=o;have A:=gb (g.out (.cells #[.int .i64 K] 3) (.cells #[.int .i64 (-1)] 3));rw[L]at Q A;have a:=gb (b.out.below (A.out.mono b.out.sz));clear o q U T E l L g;have M:=gd (oF P t bs) (.inl (by rw[F.out];exact k));clear k;have c1:=a.out.r1.cell;have c2:=a.out.r2.cell;have c3:=a.out.r3.cell;have f1:=a.out.r1.frozen;have f2:=a.out.r2.frozen;have f3:=a.out.r3.frozen;have j:=gb (rh a.out.r1 a.out.r2 a.out.r3 0 0 4);have B:=gb (nO a.out.bl 0 0 4);unfold tw at j B;go_wp2;exact Fo w.heap.size 0 0 4 rfl rfl rfl rfl j.out.1.cell j.out.2.1.cell j.out.2.2.cell ⟨qL.bad M.out,B.out⟩
theorem J6(P t:Nat)(v:Value)(bs:kl)(w:World)(hP:P<1000000000)(hv:RL w v (bs.map jj))(h:rC P bs=0)(O:t<=4)(U:t<=P)(y:0<bs.length)(ai:(bs.any λL=>decide (L.length≠Iy bs))=false):
 Calls prog 119 #[.agg #[.int .i64 P,v],.int .i64 t] w λe w'=>
  qL P t bs e/\gm w w':=by
 obtain⟨z1,z2,z3,z4⟩:=vY h;have aX:=gb (pM w P v);have J:=gb (oZ P v bs (AH w P v) hP (hv.below aX.out) (λL hb x X=>by grind));rw[h]at J;unfold AH at J;have r:=gb hv;obtain⟨bk,ag,N,rfl,V,bt,aR⟩:=hv.open;rw[gv]at V;have aL:0<N:=by rw[<-V.out];exact y
 obtain⟨M,R,rfl,a9,aN⟩:=aR aL;obtain⟨u0,aj,aw⟩:=aN 0 aL;rw[rQ]at aw;obtain⟨a3,c0,K,rfl,l,bc,_⟩:=aw.open;rw[jw]at l;have ar:=gd (Iy bs=K) l.out;have aC:=gR a9 aj;have bn:N<=200:=by rw[<-V.out];exact z3
 clear h hv aN aw l aR aj;have bm:¬(4:Int)<t:=Oa;have bo:((N:Int)==0)=false:=by grind
 have bp:(0:Int)<N:=Oa;rw[ar.out]at ai;refine pL.1 (Bz (F:=Fence.wide) (n:=0) func119 rfl trivial ?_);refine vI.2 ?_;simp only[ntmps119,jT,iP,jk,Nat.reduceAdd,Nat.reduceSub,lX,lY,nw,mt,ko,jD];go_wp2_with fail;refine J.out.mono ?_;rintro e Z ⟨rfl,E⟩;have C:=gb ((LvB.at0 w P (.slice (some ⟨M,R,none⟩) N ag)).below (E.mono OK));clear E J;have d0:=C.out.d0;have T:=C.out.d1;have aj:Z.cell? ⟨M,R,none⟩=some (.slice a3 K c0):=(C.out.bl.cell (p:=⟨M,R,none⟩) aC.out.1).trans aC.out.2;have bA:=C.out.sz;have ab:=gb (λ(B Y:Obj)=>show Below Z.heap.size Z ((Z.alloc B).alloc Y)from((f0 _ _).alloc (fZ _) _).alloc On _);have a5:∀B Y,((Z.alloc B).alloc Y).cell? ⟨w.heap.size,1,none⟩=some (.slice (some ⟨M,R,none⟩) N ag):=λB Y=>((ab.out B Y).cell (p:=⟨w.heap.size,1,none⟩) (by grind)).trans T
 have an:=gd (Boxed ((Z.alloc (.cells #[.int .i64 K] 3)).alloc (.cells #[.int .i64 (-1)] 3)) Z.heap.size 3 (.int .i64 K)/\Boxed ((Z.alloc (.cells #[.int .i64 K] 3)).alloc (.cells #[.int .i64 (-1)] 3)) (Z.heap.size+1) 3 (.int .i64 (-1))) ⟨(lT Z _ _).alloc _,by
  exact QA⟩
 have ao:=gb (Ip K (.slice (some ⟨M,R,none⟩) N ag) (bs.map jj) Z.heap.size ((Z.alloc (.cells #[.int .i64 K] 3)).alloc (.cells #[.int .i64 (-1)] 3)) ((r.out.below C.out.bl).below (ab.out _ _)) bc.1 an.out.1.cell);rw[Im,ai]at ao;go_wp2_with fail;refine ao.out.mono ?_;rintro e w2 ⟨rfl,ax⟩;have ad:=an;have az:=gb (ab.out (.cells #[.int .i64 K] 3) (.cells #[.int .i64 (-1)] 3));rw[ax]at ad az;have af:=gb (C.out.below (az.out.mono C.out.sz));have bw:w2.heap.size=Z.heap.size+2:=by rw[<-ax];simp
 clear an ao a5 d0 T aj ax ab;have d0:=af.out.d0;have T:=af.out.d1
 have a0:=gd (C5 (o5 bs) (oz P t 0 0)->¬oF P t bs) (λh=>by
  rintro(a|a)
  ·rw[ar.out,ai]at a;cases a
  grind)
 have aY:=gd (¬C5 (o5 bs) (oz P t 0 0)->oF P t bs) (λh=> .inr h);have aI:=gb (LX P (.slice (some ⟨M,R,none⟩) N ag) bs w2 z2 z3 (r.out.below af.out.bl) (λL hb=>(z4 L hb).1));clear ai;go_wp2_with fail;refine aI.out.mono ?_;rintro e c ⟨⟨u,rfl,aT⟩,z⟩;obtain⟨D,cm,rfl,br,ba,au⟩:=ajJ aT y;rw[V.out]at au⊢;have aD:=gb (af.out.below (z.mono Oa));have aA:=gR (rP ad.out.1 z Oa) (rP ad.out.2 z Oa);have bx:w2.heap.size<=c.heap.size:=z.size;have aZ:=gb au;clear aT z au d0 T aI ad;have a4:∀B,(c.alloc B).cell? ⟨w.heap.size,0,none⟩=some (.int .i64 P):=λB=>(((f0 _ _).alloc (fZ _) _).cell (p:=⟨w.heap.size,0,none⟩) (by grind)).trans aD.out.d0;go_wp2_with fail;refine(G2 P t _).mono ?_;rintro e s ⟨rfl,ak⟩;clear a4
 have ac:=gd (gm c s) (by
  rw[ak]
  exact(((f0 _ _).alloc (fZ _) _).alloc On _).alloc Oo _)
 have bz:s.heap.size=c.heap.size+3:=by rw[ak];simp
 have am:=gd (Boxed s c.heap.size 184 (.slice (some ⟨D,0,none⟩) N cm)/\Boxed s (c.heap.size+1) 3 (.int .i64 P)/\Boxed s (c.heap.size+1+1) 3 (.int .i64 t)) (by
  rw[ak];refine⟨((lT c _ _).alloc _).alloc _,?_,?_⟩
  ·have:=(lT (c.alloc (.cells #[.slice (some ⟨D,0,none⟩) N cm] 184)) 3 (.int .i64 P)).alloc (.cells #[.int .i64 t] 3);exact OK
  ·have:=lT ((c.alloc (.cells #[.slice (some ⟨D,0,none⟩) N cm] 184)).alloc (.cells #[.int .i64 P] 3)) 3 (.int .i64 t)
   exact OK)
 clear ak;have S:=gb (aD.out.below (ac.out.mono Oa));have aB:=gR (rP aA.out.1 ac.out Oa) (rP aA.out.2 ac.out Oa);simp only[iV];go_wp2_with fail;have aK:∀(A:World),s.grownBy A (some (Z.heap.size+1))->Boxed A (w.heap.size+1) 3 (.int .i64 0)/\Boxed A (w.heap.size+1+1) 3 (.int .i64 0)/\Boxed A (w.heap.size+1+1+1) 49 (.int .i64 0)/\gm w A/\A.cell? ⟨Z.heap.size,0,none⟩=some (.int .i64 K)/\A.cell? ⟨c.heap.size,0,none⟩=some (.slice (some ⟨D,0,none⟩) N cm)/\∀j,j<N->A.cell? ⟨D,j,none⟩=some (.int .u64 (((o5 bs).getD j 0:Nat):Int)):=by
  intro A d;refine⟨S.out.r1.kept d Oo,S.out.r2.kept d Oo,S.out.r3.kept d Oo,S.out.bl.grown d S.out.bl.size (λbB e=>by grind),(aB.out.1.kept d On).cell,(am.out.1.kept d Oo).cell,λj Q=> ?_⟩;refine(nW (d.block D Oa Oo)).trans ?_;exact(ac.out.cell (p:=⟨D,j,none⟩) ba).trans (aZ.out j Q)
 have GR:=gb aK;clear aK
 refine(vI (n:=3)).1 (alT rfl Oc (gf:=253) (lb:= #[.pointer (some ⟨c.heap.size+1,0,none⟩),.pointer (some ⟨c.heap.size+1+1,0,none⟩)]) rfl trivial
  (jI func253 Ob Ob)
  (B0 (c.heap.size+1) P (c.heap.size+1) (c.heap.size+1+1) t s z2 O am.out.2.1.cell am.out.2.2.cell Oa (oz P t 0 0).length (fZ _) 2)
  lp.trans (λW ay bg o' _ g a _=>lp.put W ay bg o' g a) (f0 _ _) (λ_=>rfl)
  (λb W=>C5 (o5 bs) (AL b)/\Boxed W (Z.heap.size+1) 3 (.int .i64 (nR (o5 bs) (AL b)))/\s.grownBy W (some (Z.heap.size+1)))
  (λcd b W=>cd= .ret/\¬C5 (o5 bs) (AL b)/\Boxed W (w.heap.size+1) 3 (.int .i64 0)/\Boxed W (w.heap.size+1+1) 3 (.int .i64 0)/\Boxed W (w.heap.size+1+1+1) 49 (.int .i64 4)/\gm w W)
  ?_ ?_ ?_ ?a1 ?assign ?body ?done ?stop)
 case assign=>
  intro ay x W Kk a6;gi_wp2;exact a6
 ·rintro bi A aW bh ⟨g,a,f⟩ d hr;refine⟨g,a.kept d (λe=> ?_),nN f d (λah e bv=> ?_)⟩
  ·grind
  grind
 ·rintro cd bi A aW bh ⟨g,a,f,O,U,y⟩ d hr;refine⟨g,a,f.kept d (λe=> ?_),O.kept d (λe=> ?_),U.kept d (λe=> ?_),y.grown d y.size (λah e=> ?_)⟩
  ·grind
  ·grind
  ·grind
  grind
 ·exact⟨agz _,aB.out.2,⟨rfl,rfl,rfl,fZ _,λ_ _ _=>rfl⟩⟩
 case body=>
  rintro ay b ⟨x,X⟩ W ⟨g,a,f⟩ bd;obtain⟨G,H,r3,o,rk,ra,rc⟩:=GR.out W f;have i:=oB G H r3 o;have J:=gb rc;have be:=g;have c1:=a.cell;have c2:=a.frozen;have HI:=ju g a f;clear G H r3 o rk rc g a f bd;have bf:=AM b ⟨x,X⟩
  have aG:=gd (¬(0<=nR (o5 bs) (AL b)/\(lr (o5 bs) x:Int)≠nR (o5 bs) (AL b))->C5 (o5 bs) (AL (b++[⟨x,X⟩]))) (λh=>by
   grind [acS])
  have a1:=gd (0<=nR (o5 bs) (AL b)->(lr (o5 bs) x:Int)≠nR (o5 bs) (AL b)->¬C5 (o5 bs) (AL (b++[⟨x,X⟩]))) (λh a=>by
   grind [agy])
  have fk:=gd (nR (o5 bs) (AL (b++[⟨x,X⟩]))=lr (o5 bs) x) (by rw[AM,CR]);have bu: -1<=nR (o5 bs) (AL b)/\nR (o5 bs) (AL b)<=200:=by
   grind [o5,Ax,xI,Ay,abQ]
  have a8:(o5 bs).length=N:=(by unfold o5;rw[gv];exact V.out);have aF:=gd (∀j,j<N->lr ((o5 bs).take (j+1)) x=lr ((o5 bs).take j) x+if((o5 bs).getD j 0&&&x==x)=true then 1 else 0) (λj Q=>NK Oa);have aE:=gd (lr ((o5 bs).take N) x=lr (o5 bs) x) (by grind)
  have aq:=gd (∀j,j<=N->lr ((o5 bs).take j) x<=200) (λj Q=>by
   grind [xI])
  have aJ:=gb (ajx z2 (λL hb=>(z4 L hb).1));clear bf be a8;generalize nR (o5 bs) (AL b)=k at*;generalize AL b=bj at*;unfold py;gi_wp2;gi_loopw [54,12] (λiv mv wr=>∃j:Nat,j<=N/\iv= .int .i64 j/\mv= .int .i64 ((lr ((o5 bs).take j) x:Nat):Int)/\Hid (wr=W)) (λiv _ _=>N-(intOf iv).toNat)
  case atStart=>exact⟨0,ge _,rfl,by simp[lr],gb rfl⟩
  case round=>
   obtain⟨j,Q,rfl,rfl,HW⟩:=hrel;obtain rfl:=HW.out;by_cases aQ:j<N
   ·have bb:(j:Int)<N:=(by omega);have T:=J.out j aQ;have fl:=aF.out j aQ;have aS:=aq.out j Q;have hy:=aJ.out j;generalize (o5 bs).getD j 0=al at*;have fe:=bits_and_u64_nat al x Oa Oa;by_cases hq:al&&&x=x
    ·rw[gl (by grind)]at fl;have E:((bits .and .u64 (al:Int) (x:Int))==(x:Int))=true:=(by grind);exact Mw
    ·rw[gh (by grind)]at fl;have E:((bits .and .u64 (al:Int) (x:Int))==(x:Int))=false:=by
      grind
     exact Mw
   ·obtain rfl:j=N:=(by omega);have bb:¬(j:Int)<j:=Oa;have aS:=aq.out j Q;rw[aE.out]at aS⊢;have q1:=i.out.1.cell;have q2:=i.out.2.1.cell;have q3:=i.out.2.2.1.cell;have f1:=i.out.1.frozen;have f2:=i.out.2.1.frozen;have f3:=i.out.2.2.1.frozen;clear aF aq aE aJ;generalize lr (o5 bs) x=m at*;by_cases aP:0<=k
    ·by_cases av:(m:Int)=k
     ·subst av;have fM:=gb (aG.out (λh=>h.2 rfl));exact O8
     ·have a2:=gb (a1.out aP av);have q:=gb (rh i.out.1 i.out.2.1 i.out.2.2.1 0 0 4);have ae:=gb (nO i.out.2.2.2 0 0 4);unfold tw at q ae;have hq:((m:Int) !=k)=true:=(by grind);clear av;gi_wp2;exact⟨(((oD _ _ _).trans (oD _ _ _)).trans (oD _ _ _)).from _,rfl,a2.out,q.out.1,q.out.2.1,q.out.2.2,ae.out⟩
    ·have fM:=gb (aG.out (λh=>aP h.1));exact O8
 case done=>
  rintro I ys W hD aV ⟨g,a,f⟩ l;obtain⟨G,H,r3,o,rk,ra,rc⟩:=GR.out W f;have aO:=a.cell;have a7:=gd (¬oF P t bs) (a0.out (by grind));have aH:=gb (qL.good a7.out);rw[ar.out]at aH;rw[aV]at aO;have q1:=G.cell;have q2:=H.cell;have q3:=r3.cell;have f1:=G.frozen;have f2:=H.frozen;have f3:=r3.frozen;have bC:W.drew.cell? ⟨w.heap.size+1,0,none⟩=_:=q1;have bl:W.drew.frozen? ⟨w.heap.size+1,0,none⟩=_:=f1;have bD:W.drew.cell? ⟨Z.heap.size,0,none⟩=_:=rk;have bq:W.drew.cell? ⟨Z.heap.size+1,0,none⟩=_:=aO;generalize nR (o5 bs) (oz P t 0 0)=k at*;have ap:=gb l;have E:Boxed W.drew (w.heap.size+1) 3 (.int .i64 0):=G;have aM:Boxed W.drew (w.heap.size+1+1) 3 (.int .i64 0):=H;have z:Boxed W.drew (w.heap.size+1+1+1) 49 (.int .i64 0):=r3;have q:=gb (rh E aM z K k 0);have ae:=gb (nO (show Below w.heap.size w W.drew from⟨o.os,o.tape,o.output,o.size,o.block⟩) K k 0);clear g a f l G H r3 o aV ra rc E aM z;go_wp2;go_region;go_wp2
  have r:=gd (SK w I K k 0 (((W.setCell ⟨w.heap.size+1,0,none⟩ (.int .i64 K)).setCell ⟨w.heap.size+1+1,0,none⟩ (.int .i64 k)).setCell ⟨w.heap.size+1+1+1,0,none⟩ (.int .i64 0)).drew) ⟨q.out.1,q.out.2.1,q.out.2.2,ae.out,by
   exact((kr _ ⟨w.heap.size+1+1+1,0,none⟩ _ I (by grind)).trans ((kr _ ⟨w.heap.size+1+1,0,none⟩ _ I (by grind)).trans (kr _ ⟨w.heap.size+1,0,none⟩ _ I (by grind)))).trans ap.out,by omega⟩
  obtain⟨e1,e2,e3,e4⟩:=r.out.cells;refine⟨by simp,.inl ⟨_,_,rfl,vG r.out.dd,?_⟩⟩;refine⟨.tuple #[.int .i64 K,.int .i64 k,.int .i64 0],?_,aH.out,e4⟩;simp[results,f119,go_sem,asAddr,e1,e2,e3]
 case stop=>
  rintro I cd b W hD aU ⟨rfl,a,f,O,U,y⟩ l;have HA:=gd (oF P t bs) (aY.out (λh=>a (agA h aU)));have ap:=gb l;have aa:=oB f O U y;clear a f O U y l aU;refine vI.2 ?_;go_wp2;have r:=gd (SK w I 0 0 4 W) ⟨aa.out.1,aa.out.2.1,aa.out.2.2.1,aa.out.2.2.2,ap.out,by omega⟩;obtain⟨e1,e2,e3,e4⟩:=r.out.cells;refine⟨by simp,.inl ⟨_,_,rfl,vG r.out.dd,?_⟩⟩;refine⟨.tuple #[.int .i64 0,.int .i64 0,.int .i64 4],?_,qL.bad HA.out,e4⟩;simp[results,f119,go_sem,asAddr,e1,e2,e3]
end
def ah3(v:Value):Prop:=v= .nilIface\/∃b a,v= .iface b a
structure J8(w:World):Prop where
 max:∃m,w.cell? ⟨0,0,none⟩=some (.int .i64 m)
 syn:∃v,w.cell? ⟨4,0,none⟩=some v/\ah3 v
 rng:∃v,w.cell? ⟨5,0,none⟩=some v/\ah3 v
theorem uS{w w':World}{p:Addr}{v:Value}(a:gm w w')(h:w.cell? p=some v):w'.cell? p=some v:=(a.cell (aeS w _ h)).trans h
theorem J8.below{w w':World}(h:J8 w)(a:gm w w'):J8 w':=by
 obtain⟨⟨m,b⟩,⟨v,c,d⟩,⟨g,e,f⟩⟩:=h;exact⟨⟨m,uS a b⟩,⟨v,uS a c,d⟩,⟨g,uS a e,f⟩⟩
theorem aav(T:iF)(w:World)(f:T.length<=1000000000)(b:J8 w)(c:UInt8):
 Calls prog 7 #[.string (gJ T),.string ⟨#[c]⟩] w λe a=>e= .returned (.tuple #[.string (gJ (Lib.cut T [c]).1),.string (gJ (Lib.cut T [c]).2.1),.bool (Lib.cut T [c]).2.2])/\gm w a:=by
 obtain⟨m,d⟩:=b.max;refine(aaw (gJ T) ⟨#[c]⟩ m w Kj d).mono ?_;rintro e a ⟨rfl,n,rfl⟩;exact⟨rfl,gM (f0 _ _) n⟩
def pj(c:UInt8)(T:iF):j9:=Lib.splitK [c] 0 (Lib.count T [c]) T
theorem adJ(c:UInt8)(T:iF):Lib.splitB ⟨#[c]⟩ 0 (Lib.countB (gJ T) ⟨#[c]⟩) (gJ T)=(pj c T).map gJ:=by
 refine agb ?_;rw[Lib.splitB_data];rfl
theorem um(c:UInt8)(T:iF):(pj c T).length=Lib.countB (gJ T) ⟨#[c]⟩+1:=by
 have a:=Lib.splitB_all ⟨#[c]⟩ (fZ 1) 0 _ (gJ T) rfl
 grind [adJ]
theorem sf(c:UInt8)(T:iF):(pj c T).length<=T.length+1:=by
 rw[um];have h:=Lib.countB_le ⟨#[c]⟩ (fZ 1) _ (gJ T) (fZ _)
 grind [iw]
theorem oO(c:UInt8)(T:iF):∀x∈pj c T,x.length<=T.length:=λx a=>by
 have h:=IP ⟨#[c]⟩ (Lib.countB (gJ T) ⟨#[c]⟩) (gJ T) (gJ x) (by grind [adJ])
 grind [iw]
theorem FU(T:iF)(w:World)(f:T.length<=1000000000)(b:J8 w)(c:UInt8):
 Calls prog 15 #[.string (gJ T),.string ⟨#[c]⟩] w λe a=>∃g,e= .returned (.slice (some ⟨g,0,none⟩) (pj c T).length (pj c T).length)/\Ow 9 w.heap.size a (.slice (some ⟨g,0,none⟩) (pj c T).length (pj c T).length) ((pj c T).map λx=> .string (gJ x))/\gm w a:=by
 obtain⟨m,d⟩:=b.max;refine(RH (gJ T) ⟨#[c]⟩ m w Kj d (fZ 1)).mono ?_;rintro e a ⟨rfl,rfl⟩;rw[adJ,<-um,jL];refine⟨w.heap.size,rfl,?_,(f0 _ _).alloc (fZ _) _⟩;exact Ow.lit 9 w.heap.size w _ _ (fZ _) On (by grind [sf])
theorem aio(T:iF)(w:World)(n:T.length<=1000000000)(a:J8 w):
 Calls prog 107 #[.string (gJ T)] w λe c=>((∃v,Lib.atoiAll T= .ok v/\e= .returned (.tuple #[.int .i64 v,.nilIface]))\/((∀v,Lib.atoiAll T≠ .ok v)/\∃v q,e= .returned (.tuple #[.int .i64 v,.iface 219 q])))/\gm w c:=by
 have o:=iw T;by_cases b:∃v,Lib.atoiAll T= .ok v
 ·obtain⟨v,h⟩:=b;refine(EF (gJ T) Oa v h w).mono ?_;rintro e c ⟨rfl,f⟩;refine⟨.inl ⟨v,h,rfl⟩,?_⟩;rcases f with rfl|⟨t,rfl⟩
  ·exact f0 _ _
  ·exact Lib.bytesWorld_below w _ _
 ·obtain⟨ev,l,i⟩:=a.syn;obtain⟨d,k,g⟩:=a.rng;have j:∀v,Lib.atoiAll T≠ .ok v:=λv h=>b ⟨v,h⟩;refine(ED (gJ T) Oa j ev d w l i k g).mono ?_
  grind
theorem aiW{T:iF}(a:T≠[])(c:UInt8):(Lib.cut T [c]).1.length<=T.length/\((Lib.cut T [c]).2.2=true->(Lib.cut T [c]).2.1.length<T.length):=by
 have b:0<T.length:=Bw.2 a;unfold Lib.cut
 grind
theorem abz(a:Option Addr)(c:Nat)(f:Value)(w:World):
 Calls prog 312 #[.slice a 0 c,.int .i64 0,.int .i64 0,f] w λe b=>e= .returned (.tuple #[])/\w=b:=by
 go_enter func312,ntmps312;go_wp2;go_loopw [8] (λx wr=>x= .int .i64 1/\wr=w) (λ_ _=>0)
 case atStart=>grind
 case round=>
  obtain⟨rfl,rfl⟩:=hrel;exact Pc
theorem ac0(a:Option Addr)(c n:Nat)(f:Value)(w:World)(d:n<=64):
 Calls prog 285 #[.slice a 0 c,.int .i64 0,.int .i64 0,.int .i64 n,f] w λe b=>e= .returned (.tuple #[])/\w=b:=by
 have HS:=gb (abz a c f w);go_enter func285,ntmps285;go_wp2;go_loopw [1,2] (λx y wr=>x= .int .i64 0/\y= .int .i64 0/\wr=w) (λ_ _ _=>0)
 case atStart=>grind
 case round=>
  exact Rb
theorem Ys(a:Option Addr)(c:Nat)(f:Value)(w:World):
 Calls prog 256 #[.slice a 0 c,f] w λe h=>e= .returned (.tuple #[])/\w=h:=by
 have d:=gb (rE 0 w Oa);have g:=gb (λn (b:n<=64)=>ac0 a c n f w b);rw[show((0:Nat):Int)=0 from rfl]at d;go_enter func256,ntmps256;go_wp2_with fail;refine d.out.mono ?_;rintro e i ⟨⟨n,b,rfl⟩,rfl⟩;go_wp2_with fail;refine(g.out n b).mono ?_;rintro e j ⟨rfl,rfl⟩;go_wp2;go_end0
 grind
def fT(t:Nat×Nat×Nat)(i:Nat):Nat:=((vO t).getD i 0).toNat
theorem y8{t:Nat×Nat×Nat}{x:Int}(h:x∈vO t):x=t.1\/x=t.2.1\/x=t.2.2:=by
 grind [vO,List.mem_mergeSort]
theorem elT(t:Nat×Nat×Nat):pZ 3 (fT t)=vO t:=by
 have d:=y7 t;refine ib λi=> ?_;by_cases a:i<3
 ·have e:=y8 (iH (show i<(vO t).length by omega));have c:0<=(vO t)[i]' Oa:=Oa;rw[gn (show i<(vO t).length by omega),pZ,gY,i7 a];have b:(vO t).getD i 0=(vO t)[i]' Oa:=(by grind);show some (((((vO t).getD i 0).toNat:Nat)):Int)=_
  grind
 grind [rI]
theorem amm(L:List (Nat×Nat×Nat)):(L.map fT).map (pZ 3)=L.map vO:=by
 grind [List.map_congr_left,elT]
def Wl(c:List (Nat->Nat)):Prop:=c.Pairwise λa b=>¬oU 3 b a
def sB(l:gP)(i:Nat):Nat:=(l.getD i 0).toNat
theorem T3(x:Nat->Nat){i:Nat}(h:i<3):sB (pZ 3 x) i=x i:=by
 grind [sB,pZ]
theorem Nw(x y:Nat->Nat):oU 3 (sB (pZ 3 x)) (sB (pZ 3 y))↔oU 3 x y:=
 (xF (λi a=>T3 x a)).1.trans (xF (λi a=>T3 y a)).2
theorem ag4{a b:List (Nat->Nat)}(j:a.Perm b)(e:Wl a)(f:Wl b):a.map (pZ 3)=b.map (pZ 3):=by
 refine aej (le:=λc d=>¬oU 3 (sB d) (sB c)) ?_ ?_ ?_ (j.map _)
 ·intro c d g i k l;obtain⟨x,_,rfl⟩:=gK.1 g;obtain⟨y,_,rfl⟩:=gK.1 i
  grind [Nw,T8,pZ,List.map_congr_left]
 ·rw[nu];exact e.imp λh=>by grind [Nw]
 ·rw[nu];exact f.imp λh=>by grind [Nw]
def LOk(L:List (Nat×Nat×Nat)):Prop:=L.length<=1000/\∀t∈L,t.1<=1000/\t.2.1<=1000/\t.2.2<=1000
def akL(L:List (Nat×Nat×Nat))(R:lO):Prop:=((∀m∈R,(∀x∈m,ja x)/\m.length<=1000)/\R.length<=1000)/\(LOk L->∀a,a.Perm (L.map fT)->Wl a->a.map (pZ 3)=R)
theorem VS(L:List (Nat×Nat×Nat)):∃R,akL L R:=by
 by_cases h:LOk L/\∃a,a.Perm (L.map fT)/\Wl a
 ·obtain⟨b,a,c,f⟩:=h;refine⟨a.map (pZ 3),⟨λm g=> ?_,?_⟩,λ_ k d e=>ag4 (d.trans c.symm) e f⟩
  ·obtain⟨x,j,rfl⟩:=gK.1 g;obtain⟨t,i,rfl⟩:=gK.1 (c.mem_iff.1 j);rw[elT];refine⟨λy l=> ?_,by rw[y7];omega⟩;have:=b.2 t i
   grind [y8,ja]
  ·rw[gv,c.length_eq,gv];exact b.1
 ·exact⟨[],⟨by simp,by simp⟩,λb a d e=>absurd ⟨b,a,d,e⟩ h⟩
noncomputable def FY(L:List (Nat×Nat×Nat)):lO:=Classical.choose (VS L)
theorem qH(L:List (Nat×Nat×Nat)):akL L (FY L):=kh (VS L)
theorem ad5:FY []=[]:=((qH []).2 ⟨by simp,by simp⟩ [] (yR _) List.Pairwise.nil).symm
theorem LR(E:World)(b:Nat)(v:Int)(L:List (Nat×Nat×Nat))(w:World)(R:LOk L)(ak:E.heap.size<=b)(h:TS E b v L w):
 Calls prog 207 #[.pointer (some ⟨b,0,none⟩)] w λe w'=>(∃(Y:Option Addr)(pn Z:Nat),e= .returned (.agg #[.int .i64 v,.slice Y pn Z])/\∃aa,OL (b+1) aa w' (.slice Y pn Z) (FY L))/\Below b E w':=by
 obtain⟨i,d,y,A,C⟩:=h;have T:=y.lt;have X:(prog.info? 103).map (·.size)=some 2:=Ob;rcases jz L.length with Q|Q
 ·obtain rfl:=iX Q;have z:=hU.new w 103 [.int .i64 0,.slice none 0 0];have q:Below w.heap.size w (w.alloc (.cells #[.int .i64 0,.slice none 0 0] 103)):=(f0 _ _).alloc (fZ _) _;have p:=y.below q;have B:=A.below q;have s:=gb (Ys i d (.func (.func 257) #[] #[]) (w.alloc (.cells #[.int .i64 0,.slice none 0 0] 103)));have N:=p.cell 0;have n:=gR p z;have O:=gb B;have x:=gb (C.alloc (ly T) (.cells #[.int .i64 0,.slice none 0 0] 103));clear y A C q p B z;go_enter func207,ntmps207;go_wp2_with fail;refine s.out.mono ?_;rintro e a ⟨rfl,W⟩;have f:=n.out.1;have c:=n.out.2;have t:=x.out;have k:=O.out;rw[W]at f c t k;have f:hU a b 194 [.slice i 0 d,.int .i64 v]:=f;have k:OL (b+1) w.heap.size a (.slice i 0 d) (FY []):=(by grind [ad5]);clear W N s n x O;have ah:w.heap.size<a.heap.size:=c.lt;have F:a.cell? ⟨b,0,none⟩=some (.slice i 0 d):=f.cell 0;have G:a.cell? ⟨b,1,none⟩=some (.int .i64 v):=f.cell 1;have H:a.cell? ⟨w.heap.size,0,none⟩=some (.int .i64 0):=c.cell 0;have ae:a.cell? ⟨w.heap.size,1,none⟩=some (.slice none 0 0):=c.cell 1;have I:=c.frozen 0;have ag:=c.frozen 1;have ab:a.drew.cell? ⟨b,0,none⟩=_:=F;have ac:a.drew.cell? ⟨b,1,none⟩=_:=G;have ad:a.drew.cell? ⟨w.heap.size,0,none⟩=_:=H;have af:a.drew.frozen? ⟨w.heap.size,0,none⟩=_:=I;have o:=ju c k t;clear f c t k;go_wp2;go_region;go_wp2;have g:=o.out.1.stored 0 (.int .i64 v);have r:=g.1.stored 1 (.slice i 0 d);have J:hU (((a.setCell ⟨w.heap.size,0,none⟩ (.int .i64 v)).setCell ⟨w.heap.size,1,none⟩ (.slice i 0 d)).drew) w.heap.size 103 [.int .i64 v,.slice i 0 d]:=r.1;have K:=((o.out.2.1.kept g.2 (λl e=>by grind)).kept r.2 (λl e=>by grind));have M:=((o.out.2.2.grown g.2 Oa (λl e=>by grind)).grown r.2 (by have:=g.2.size;omega) (λl e=>by grind)).drew;have bx:=gV (P:=prog) _ _ _ 103 _ _ J.range underlying103 rfl X;refine⟨rfl,.agg #[.int .i64 v,.slice i 0 d],?_,⟨_,_,_,rfl,_,K⟩,M⟩;exact DP
 ·obtain⟨j,c2,e,al,am⟩:=A.form (by grind);rw[gv]at e;simp only[iU,true_and]at e;obtain⟨rfl,rfl⟩:=e;have z:=hU.new w 103 [.int .i64 0,.slice none 0 0];have q:Below w.heap.size w (w.alloc (.cells #[.int .i64 0,.slice none 0 0] 103)):=(f0 _ _).alloc (fZ _) _;have p:=y.below q;have B:=A.below q;rw[<-amm]at B;have s:=gb (ad8 3 (L.map fT) (b+1) w.heap.size j d (w.alloc (.cells #[.int .i64 0,.slice none 0 0] 103)) Oc Oc (by grind) (by rw[gv];have:=R.1;omega) (by grind));rw[gv]at s;have N:=p.cell 0;have n:=gR p z;have x:=gb (C.alloc (ly T) (.cells #[.int .i64 0,.slice none 0 0] 103));clear y A C q p B z;go_enter func207,ntmps207;go_wp2_with fail;refine s.out.mono ?_;rintro e a ⟨rfl,fs,U,V,k,D⟩;have ai:some b≠some j:=(λe=>by grind);have aj:some w.heap.size≠some j:=(λe=>by grind);have f:=n.out.1.kept D ai;have c:=n.out.2.kept D aj;have t:=x.out.grown D Oo (λl e=>by grind);have S:=((qH L).2 R fs U V);rw[S]at k;clear D U V S N s n x;have ah:w.heap.size<a.heap.size:=c.lt;have F:a.cell? ⟨b,0,none⟩=some (.slice (some ⟨j,0,none⟩) L.length d):=f.cell 0;have G:a.cell? ⟨b,1,none⟩=some (.int .i64 v):=f.cell 1;have H:a.cell? ⟨w.heap.size,0,none⟩=some (.int .i64 0):=c.cell 0;have ae:a.cell? ⟨w.heap.size,1,none⟩=some (.slice none 0 0):=c.cell 1;have I:=c.frozen 0;have ag:=c.frozen 1;have ab:a.drew.cell? ⟨b,0,none⟩=_:=F;have ac:a.drew.cell? ⟨b,1,none⟩=_:=G;have ad:a.drew.cell? ⟨w.heap.size,0,none⟩=_:=H;have af:a.drew.frozen? ⟨w.heap.size,0,none⟩=_:=I;have o:=ju c k t;clear f c t k;go_wp2;go_region;go_wp2;have g:=o.out.1.stored 0 (.int .i64 v);have r:=g.1.stored 1 (.slice (some ⟨j,0,none⟩) L.length d);have J:hU (((a.setCell ⟨w.heap.size,0,none⟩ (.int .i64 v)).setCell ⟨w.heap.size,1,none⟩ (.slice (some ⟨j,0,none⟩) L.length d)).drew) w.heap.size 103 [.int .i64 v,.slice (some ⟨j,0,none⟩) L.length d]:=r.1;have K:=((o.out.2.1.kept g.2 (λl e=>by grind)).kept r.2 (λl e=>by grind));have M:=((o.out.2.2.grown g.2 Oa (λl e=>by grind)).grown r.2 (by have:=g.2.size;omega) (λl e=>by grind)).drew;have bx:=gV (P:=prog) _ _ _ 103 _ _ J.range underlying103 rfl X;refine⟨rfl,.agg #[.int .i64 v,.slice (some ⟨j,0,none⟩) L.length d],?_,⟨_,_,_,rfl,_,K⟩,M⟩;exact DP
def af7(L:List (Nat×Nat×Nat)):Bool:=decide (L.length<=1000)&&L.all λt=>decide (t.1<=1000)&&decide (t.2.1<=1000)&&decide (t.2.2<=1000)
theorem tY{L:List (Nat×Nat×Nat)}(h:af7 L=true):LOk L:=by
 unfold af7 at h;simp only[ia,iK,gF]at h;exact⟨h.1,λt a=>⟨(h.2 t a).1.1,(h.2 t a).1.2,(h.2 t a).2⟩⟩
theorem Fj:∀t,t<6->af7 (JN t (2*t+1) (2*t+1))=true/\af7 (Gp t (2*t) (2*t))=true:=OH
def oC(v:Nat):Int:=if v<1\/33<v then 1 else if v%6=3\/v%6=1 then 0 else 4
noncomputable def qQ(v:Nat):lO:=if v%6=3 then FY (JN (v/6) (2*(v/6)+1) (2*(v/6)+1))else FY (Gp (v/6) (2*(v/6)) (2*(v/6)))
def SP(v:Nat)(d:Ending)(w':World):Prop:=∃(P:Int)(a:Option Addr)(c b:Nat),d= .returned (.tuple #[.agg #[.int .i64 P,.slice a c b],.int .i64 (oC v)])/\(oC v=0->RL w' (.slice a c b) (qQ v))
theorem Zs(v:Nat)(w:World)(h:v<1\/33<v):
 Calls prog 120 #[.int .i64 v] w λe d=>SP v e d/\gm w d:=by
 have a:oC v=1:=gl h;have cm:(prog.info? 103).map (·.size)=some 2:=Ob;have HE:=gb a;have b:=hU.new w 103 [.int .i64 0,.slice none 0 0];have c:Below w.heap.size w (w.alloc (.cells #[.int .i64 0,.slice none 0 0] 103)):=(f0 _ _).alloc (fZ _) _;have HR:=gR b c;clear b c a;by_cases g:v<1
 ·have f:(v:Int)<1:=(by omega);exact KV
 ·have f:¬(v:Int)<1:=(by omega);have i:(33:Int)<v:=Oa;exact KV
theorem Wb(v:Nat)(w:World)(p:1<=v)(r:v<=33)(i:v%6≠3)(j:v%6≠1):
 Calls prog 120 #[.int .i64 v] w λg f=>SP v g f/\gm w f:=by
 have c:oC v=4:=UY;have l:(prog.info? 103).map (·.size)=some 2:=Ob;have a:=gb c;have t:(v:Int).tmod 6=((v%6:Nat):Int):=(gO _ _).symm;have o:(((v%6:Nat):Int)==3)=false:=by grind
 have n:(((v%6:Nat):Int)==1)=false:=by grind
 have q:¬(v:Int)<1:=Oa;have s:¬(33:Int)<v:=Oa;clear i j c;generalize v%6=x at*;go_enter func120,ntmps120;have d:=(hU.new w 103 [.int .i64 0,.slice none 0 0]).alloc (.cells #[.slice none 0 0,.int .i64 v] 194);have e:Below w.heap.size w ((w.alloc (.cells #[.int .i64 0,.slice none 0 0] 103)).alloc (.cells #[.slice none 0 0,.int .i64 v] 194)):=((f0 _ _).alloc (fZ _) _).alloc On _;have b:=gR d e;clear d e;go_wp2;have k:=gV (P:=prog) _ _ _ 103 _ _ b.out.1.range underlying103 rfl l;refine⟨rfl,.tuple #[.agg #[.int .i64 0,.slice none 0 0],.int .i64 4],?_,⟨0,none,0,0,by rw[a.out],λh=>absurd (a.out.symm.trans h) Oc⟩,b.out.2⟩;show((results _ _).run _ _)=_;simp[results,f120,asAddr,k]
theorem aeK(v:Nat)(w:World)(o:1<=v)(q:v<=33)(a:v%6=3\/v%6=1):
 Calls prog 120 #[.int .i64 v] w λk i=>SP v k i/\gm w i:=by
 have l:oC v=0:=UY;have HE:=gb l;have cm:(prog.info? 103).map (·.size)=some 2:=Ob;have t:(v:Int).tmod 6=((v%6:Nat):Int):=(gO _ _).symm;have s:(v:Int).tdiv 6=((v/6:Nat):Int):=by grind
 have h:v/6<=5:=Oa;have d:=Fj (v/6) Oa;have p:¬(v:Int)<1:=Oa;have r:¬(33:Int)<v:=Oa;have b:=gd (qQ v=if v%6=3 then FY (JN (v/6) (2*(v/6)+1) (2*(v/6)+1))else FY (Gp (v/6) (2*(v/6)) (2*(v/6)))) rfl;obtain⟨W0,dk⟩:∃W0,w.alloc (.cells #[.int .i64 0,.slice none 0 0] 103)=W0:=⟨_,rfl⟩;have g:W0.heap.size=w.heap.size+1:=DO;have e:hU W0 w.heap.size 103 [.int .i64 0,.slice none 0 0]:=by grind [hU.new]
 have f:gm w W0:=Sa;have c:TS W0 (w.heap.size+1) v [] (W0.alloc (.cells #[.slice none 0 0,.int .i64 v] 194)):=by
  rw[<-g];exact⟨none,0,hU.new W0 _ _,OL.nil _ _ _,(f0 _ _).alloc (fZ _) _⟩
 have HW:=ju e f g;have cU:=gb dk;rcases a with a|a
 ·have j:(((v%6:Nat):Int)==3)=true:=(by grind);have hx:=b.out;rw[gl a]at hx;have fz:=tY d.1;have HC:=gb (aac W0 (w.heap.size+1) (v/6) v _ h Oa c);clear c dk e f d a b;generalize JN (v/6) (2*(v/6)+1) (2*(v/6)+1)=aw at*;exact KD
 ·have j:(((v%6:Nat):Int)==3)=false:=(by grind);have n:(((v%6:Nat):Int)==1)=true:=(by grind);have hx:=b.out;rw[gh Oa]at hx;have fz:=tY d.2;have HC:=gb (RB W0 (w.heap.size+1) (v/6) v _ h Oa c);clear c dk e f d a b;generalize Gp (v/6) (2*(v/6)) (2*(v/6))=aw at*;exact KD
def xX(t:Nat×Nat×Nat):gP:=[(t.1:Int),(t.2.1:Int),(t.2.2:Int)]
def Gi(g:Nat->Nat->Nat)(m:Nat):Nat->List (Nat×Nat×Nat)
 |0=>[]
 |x+1=>Gi g m x++tR g m x (m-(x+1))
def dxR(m x:Nat):List (Nat×Nat×Nat):=r3 (λx=>(x,x+m,x+2*m)) x
theorem adG(t m:Nat):∀x,Gp t m x=JT t m t++Gi (vH t m) m x
 |0=>by rw[Gp,Gi,jb]
 |x+1=>by rw[Gp,Gi,adG t m x,iN]
theorem aab(t m:Nat):∀x,(dxR m x++Gi (uP t m) m x).Perm (JN t m x)
 |0=>yR _
 |x+1=>by
  have h:=aab t m x;have e:dxR m (x+1)=dxR m x++[(x,x+m,x+2*m)]:=(uj _ _).symm;rw[JN,Gi,e,<-iN]
  grind
theorem IF{a b c:gP}(d:Lex.ahead b a=false)(e:Lex.ahead c b=false):Lex.ahead c a=false:=by
 refine kZ.2 λh=> ?_
 grind [Lex.ahead_total,Lex.ahead_trans]
theorem Wo{s t:Nat×Nat×Nat}(h:oU 3 (sB (vO s)) (sB (vO t))):Lex.ahead (vO s) (vO t)=true:=by
 have g:∀x∈vO s,0<=x:=λx k=>by grind [y8]
 have i:∀x∈vO t,0<=x:=λx k=>by grind [y8]
 have o:=y7 s;have p:=y7 t;generalize vO s=n at*;generalize vO t=m at*
 match n,m,o,p with
 |[a,b,c],[d,e,f],_,_=>
  have v:=g a On;have w:=g b On;have y:=g c On;have z:=i d On;have A:=i e On;have B:=i f On;obtain⟨l,j,q,r⟩:=h;have C:sB [a,b,c] 0=a.toNat:=rfl;have D:sB [a,b,c] 1=b.toNat:=rfl;have E:sB [a,b,c] 2=c.toNat:=rfl;have F:sB [d,e,f] 0=d.toNat:=rfl;have G:sB [d,e,f] 1=e.toNat:=rfl;have H:sB [d,e,f] 2=f.toNat:=rfl;simp only[Lex.ahead]
  match l,j with
  |0,_=>
   grind
  |1,_=>
   grind
  |2,_=>
   grind
theorem ad6{L D:List (Nat×Nat×Nat)}{os:lO}(k:LOk L)(j:D.Perm L)(b:os.Perm (D.map λt=>nG (xX t)))(o:os.Pairwise λc d=>Lex.ahead d c=false):os=FY L:=by
 have a:∀m∈os,∃t,vO t=m:=λm h=>by
  obtain⟨t,_,e⟩:=gK.1 (b.mem_iff.1 h);exact⟨t,e⟩
 have p:∀t,sB (vO t)=fT t:=λt=>rfl;have f:(os.map sB).Perm (L.map fT):=by
  refine(b.map sB).trans ?_;rw[jL];exact j.map fT
 have g:Wl (os.map sB):=by
  unfold Wl;rw[nu];refine o.imp_of_mem λl n h q=> ?_;obtain⟨s,rfl⟩:=a _ l;obtain⟨t,rfl⟩:=a _ n
  grind [Wo]
 have i:=(qH L).2 k _ f g;rw[<-i,jL];refine(J9 os).symm.trans (jn λm h=> ?_);obtain⟨t,rfl⟩:=a m h
 grind [elT]
theorem VU{L D:List (Nat×Nat×Nat)}{os:lO}(c:LOk L)(b:D.Perm L)(d:os.Perm (D.map λt=>nG (xX t))):∀m∈os,∀x∈m,0<=x/\x<=9223372036854775807:=λm h x a=>by
 obtain⟨t,f,e⟩:=gK.1 (d.mem_iff.1 h);have i:=c.2 t (b.mem_iff.1 f);rw[<-e]at a;have g:x∈xX t:=(Bx (xX t) _).mem_iff.1 a
 grind [xX]
theorem H5{a:Type}{S:List a}{k:Nat}{x d:a}(h:k<=S.length)(j:Nat):(vE S k x).getD j d=if j<k then S.getD j d else if j=k then x else S.getD (j-1) d:=by
 grind [p5]
theorem OL.ins{B k:Nat}{w:World}{v u:Value}{a:np}{S:lO}{x:gP}(c:Ow 45 B w v (vE a k u))(d:k<=a.length)(f:a.length=S.length)(h:∀j,j<S.length->OI B w (a.getD j undef) (S.getD j []))(i:OI B w u x):OL B w.heap.size w v (vE S k x):=by
 refine⟨vE a k u,c,λq b=>(c.lt q b).2,by rw[rO u d,rO x Oa,f],λj g=> ?_⟩;rw[rO x Oa]at g;have e:OI B w ((vE a k u).getD j undef) ((vE S k x).getD j []):=by
  rw[H5 d,H5 Oa]
  grind
 exact⟨e,λq b=>(e.lt q b).2⟩
structure J2(L S:lO):Prop where
 perm:S.Perm (L.map nG)
 srt:S.Pairwise λa b=>Lex.ahead b a=false
theorem J2.len{L S:lO}(h:J2 L S):S.length=L.length:=by rw[h.perm.length_eq,gv]
theorem J2.put{L S:lO}{i k:Nat}(hi:i<L.length)(h:J2 (L.take i) S)(n:k<=i)(a:∀j,k<=j->j<i->Lex.ahead (nG (L.getD i [])) (S.getD j [])=true)(b:0<k->Lex.ahead (nG (L.getD i [])) (S.getD (k-1) [])=false):J2 (L.take (i+1)) (vE S k (nG (L.getD i []))):=by
 have o:S.length=i:=by rw[h.len,i8];omega
 refine⟨?_,Ar (d:=[]) (λe f g a b=>IF a b) h.srt Oa (λj c l=>Lex.ahead_asymm (a j c Oa)) b⟩;refine(H6 _ _ _).trans ?_;rw[jH,gn hi,jf,gc,gn hi];refine(h.perm.cons _).trans ?_;exact(List.perm_append_comm (l₁:=[nG L[i]]) (l₂:=(L.take i).map nG))
theorem yo(v:Value)(L:lO)(w:World)(hl:RL w v L)(hn:L.length<=1000000)(hm:∀m∈L,m.length<=1000000):
 Calls prog 163 #[v] w λo B=>(∃(r:Value)(os:lO),o= .returned r/\OL w.heap.size B.heap.size B r os/\J2 L os)/\gm w B:=by
 obtain⟨aI,aQ,N,rfl,hN,aR,ao⟩:=hl.open
 have HC:=gd (0<N->∃z J,aI=some ⟨z,J,none⟩/\∀B,gm w B->∀i,i<N->∃r,B.cell? ⟨z,J+i,none⟩=some r/\Sl B r (L.getD i [])) (λh=>by
  obtain⟨z,J,o,s,hc⟩:=ao h;refine⟨z,J,o,λB hw i hi=> ?_⟩;obtain⟨r,b,q⟩:=hc i hi
  exact⟨r,by rw[hw.cell (p:=⟨z,J+i,none⟩) s,b],q.below hw⟩)
 have aj:=gb (λ(r:Value)(i:Nat)(f:World)(hi:i<N)(h:Sl f r (L.getD i []))=>yx r (L.getD i []) f h (by
  grind))
 have al:=gd (∀i,i<N->(nG (L.getD i [])).length<=1000000) (λi hi=>by
  grind [zD])
 have ai:=gd (∀i S,i<=N->J2 (L.take i) S->S.length=i) (λi S hi h=>by rw[h.len,i8,hN.out];omega)
 have ag:=gd (∀i S,i<=N->J2 (L.take i) S->∀j,j<i->(S.getD j []).length<=1000000) (λi S hi h j e=>by
  have e:j<S.length:=(by rw[h.len,i8,hN.out];omega);rw[gc,gn e];obtain⟨y,H,o⟩:=gK.1 (h.perm.mem_iff.1 (iH e))
  grind [zD])
 have ah:=gb (λi k S (hi:i<N) (h:J2 (L.take i) S)=>h.put (k:=k) OZ);have aA:=gd (∀S,J2 (L.take N) S->J2 L S) (λS h=>by rwa [ie MJ]at h);have aF:=gd (J2 (L.take 0) []) ⟨yR _,List.Pairwise.nil⟩;rw[hN.out]at hn;clear hl ao hN hm;go_enter func163,ntmps163;go_wp2;go_loopw [3,4,5,6,7] (λov iv _ _ _ wr=>∃(i:Nat)(S:lO),iv= .int .i64 i/\i<=N/\Hid (J2 (L.take i) S)/\OL w.heap.size wr.heap.size wr ov S/\gm w wr) (λ_ iv _ _ _ _=>N-(intOf iv).toNat)
 case atStart=>exact⟨0,[],rfl,ge _,aF,OL.nil _ _ _,f0 _ _⟩
 case round=>
  obtain⟨i,S,rfl,hi,E,R,s⟩:=hrel;by_cases F:i<N
  ·have aN:(i:Int)<N:=(by omega);have HS:=gb (ai.out i S hi E.out);obtain⟨z,J,rfl,ap⟩:=HC.out Oa;obtain⟨aP,hq,G⟩:=ap wr s i F;have ak:=gb (aj.out aP i wr F G);have aH:=gb (al.out i F);have aC:=gb (ag.out i S hi E.out);have aE:=gb (λk=>ah.out i k S F E.out);have t:=gR R s;clear R s G ap HC aj al ag ah ai E;generalize nG (L.getD i [])=x at*;go_wp2_with fail;refine ak.out.mono ?_;rintro o w5 ⟨⟨r,rfl,hu⟩,ab⟩;obtain⟨l,n,eu⟩:=hu.len;subst eu;have aO:=t.out.1.below ab;have ac:=t.out.2.trans (ab.mono t.out.2.size);obtain⟨c,C,o2,o3,o4⟩:=aO;have ay:c.length=i:=(by rw[o3,HS.out]);have az:c.length<=1000000000000:=Oa;have aw:=hu.mono t.out.2.size;have X:=gb (λj (e:j<i)=>(o4 j Oa).1);have aD:=gb o3;have af:=gb ac;have Z:=gb aw;have ad:=ac.size;clear hu ab o2 o3 o4 aw ac ak hq;obtain⟨oa,oc,rfl⟩:=C.len;rw[ay]at C⊢;go_wp2_with (at_builtin;refine jt w5 _ _ 46 45 (.slice none 0 0) 24 rfl rfl underlying46 info45 rfl Oc w.heap.size _ c rfl C rfl rfl az ad ?_;intro g c8 w8 T Q aK aL);have an:=af.out.grown Q ad (λz o=>(C.lt z o).1);have aq:∀j,j<i->OI w.heap.size w8 (c.getD j undef) (S.getD j []):=λj e=>(X.out j e).kept Q (kA C (X.out j e));have ax:=Z.out.kept Q (kA C Z.out);rw[<-TZ,ay]at T;have aM:=T.lt g rfl;have a:=oB T aq ax an;clear T aq ax an Q aK aL X Z t af C;have aG:=gb (show x.length<=17592186044416 by have:=aH.out;omega);obtain⟨W1,aJ⟩:∃W1,W1=w8:=⟨_,rfl⟩;subst aJ
   have Y:=gb (λ(m:Nat)(f:World)(y:Value)(hm:m+1<=i)(H:c.getD m undef=y)(b:Ow 45 w.heap.size f (.slice (some ⟨g,0,none⟩) (i+1) c8) (vE c (m+1) (.slice l x.length n)))(q:∀j,j<i->OI w.heap.size f (c.getD j undef) (S.getD j []))(A:OI w.heap.size f (.slice l x.length n) x)=>(show Ow 45 w.heap.size ((f.setCell ⟨g,m,none⟩ (.slice l x.length n)).setCell ⟨g,m+1,none⟩ y) (.slice (some ⟨g,0,none⟩) (i+1) c8) (vE c m (.slice l x.length n))/\(∀j,j<i->OI w.heap.size ((f.setCell ⟨g,m,none⟩ (.slice l x.length n)).setCell ⟨g,m+1,none⟩ y) (c.getD j undef) (S.getD j []))/\OI w.heap.size ((f.setCell ⟨g,m,none⟩ (.slice l x.length n)).setCell ⟨g,m+1,none⟩ y) (.slice l x.length n) x/\f.grownBy ((f.setCell ⟨g,m,none⟩ (.slice l x.length n)).setCell ⟨g,m+1,none⟩ y) (some g)from by
    obtain⟨s1,s2⟩:=b.stored m (.slice l x.length n);obtain⟨s3,s4⟩:=s1.stored (m+1) y;have hg:=s2.trans s4;rw[<-H,H7 Oa,H]at s3
    exact⟨s3,λj e=>(q j e).kept hg (kA b (q j e)),A.kept hg (kA b A),hg⟩))
   clear az ad;go_wp2;go_loopw [6,7] (λkv _ wr=>∃k:Nat,kv= .int .i64 k/\k<=i/\Ow 45 w.heap.size wr (.slice (some ⟨g,0,none⟩) (i+1) c8) (vE c k (.slice l x.length n))/\(∀j,j<i->OI w.heap.size wr (c.getD j undef) (S.getD j []))/\OI w.heap.size wr (.slice l x.length n) x/\gm w wr/\Hid (∀j,k<=j->j<i->Lex.ahead x (S.getD j [])=true)) (λkv _ _=>(intOf kv).toNat)
   case atStart=>exact⟨i,rfl,fZ _,a.out.1,a.out.2.1,a.out.2.2.1,a.out.2.2.2,gb (λj b q=>by omega)⟩
   case round=>
    clear a;obtain⟨k,rfl,hk,b,q,A,s,W⟩:=hrel;have D:=gb (λ(hx:0<k->Lex.ahead x (S.getD (k-1) [])=false)=>And.intro (aE.out k hk W.out hx) (λI=>show OL w.heap.size (wr.drewN I).heap.size (wr.drewN I) (.slice (some ⟨g,0,none⟩) (i+1) c8) (vE S k x)from(OL.ins b Oa aD.out (λj e=>q j (by rw[HS.out]at e;exact e)) A)));have a:=oB b q A s;by_cases h0:k=0
    ·subst h0;have d:=gb (D.out (λh=>by omega));clear b q A D Y;go_wp2;go_roundw
     case rel=>exact⟨i+1,_,by go_num,F,d.out.1,d.out.2 0,a.out.2.2.2⟩
     case measure=>exact gQ
    ·obtain⟨m,rfl⟩:∃m,k=m+1:=⟨k-1,by omega⟩;have c1:=b.cell m (by rw[rO _ Oa];omega);have c2:=b.cell (m+1) (by rw[rO _ Oa];omega);rw[p5 _ Oa,gl Oa,gn Oa]at c1;rw[p5 _ Oa,gh Oa,gl rfl]at c2;have U:c.getD m undef=c[m]' Oa:=(by rw[gc,gn Oa];rfl);have f1:=b.frozen m;have f2:=b.frozen (m+1);have V:=q m Oa;obtain⟨y,H⟩:∃y,c[m]' Oa=y:=⟨_,rfl⟩;rw[H]at c1 U;rw[U]at V;have M:=gb (λI=>Wn (.slice l x.length n) y x (S.getD m []) (wr.drewN I) ((A.sl aG.out).drewN I) ((V.sl (by have:=aC.out m Oa;omega)).drewN I));have P:=gb (λf=>Y.out m f y hk U)
     have O:=gb (λ(h:Lex.ahead x (S.getD m [])=true)=>(show∀j,m<=j->j<i->Lex.ahead x (S.getD j [])=true from λj g1 g2=>by
      by_cases o:j=m
      ·rw[o];exact h
      ·exact W.out j Oa g2))
     have ar:(0:Int)<((m+1:Nat):Int):=Oa;have av:((m+1:Nat):Int)-1=m:=Oa;have au:m+1<i+1:=Oa;obtain⟨ya,yc,ey⟩:=V.len;generalize (S.getD m []).length=yl at ey;clear b q A W U V H;subst ey;obtain⟨ae,hz⟩:∃ae,Lex.ahead x (S.getD m [])=ae:=⟨_,rfl⟩;rw[kN,hz]at D;rw[hz]at M O;clear hz;cases ae with
     |true=>
      have aB:=gb (O.out rfl);clear O D;obtain⟨K,aa⟩:∃K,m+1=K:=⟨_,rfl⟩;rw[aa]at ar av au c2 f2 P a⊢;go_wp2;go_quiet ((go_at_call 228;exact YX (M.out _)));have G:=P.out (wr.drewN nq).drew (a.out.1.drewN nq).drew a.out.2.1 a.out.2.2.1;have am:=(gM a.out.2.2.2 nq).drew.grown G.2.2.2 a.out.2.2.2.size (λk o=>by cases o;exact aM.1);have d:=gR G am;clear G am P M;go_wp2;go_region;go_wp2;go_roundw
      case rel=>exact⟨m,by go_num,by omega,d.out.1.1,d.out.1.2.1,d.out.1.2.2.1,d.out.2,aB⟩
      case measure=>exact gQ
     |false=>
      have d:=gb (D.out (λ_=>rfl));clear O D Y P;obtain⟨K,aa⟩:∃K,m+1=K:=⟨_,rfl⟩;rw[aa]at ar av au c2 f2 d a⊢;go_wp2;go_quiet ((go_at_call 228;exact YX (M.out _)));go_wp2;go_roundw
      case rel=>exact⟨i+1,_,by go_num,F,d.out.1,d.out.2 nq,gM a.out.2.2.2 nq⟩
      case measure=>exact gQ
  ·obtain rfl:i=N:=(by omega);have aN:¬(i:Int)<i:=Oa;have d:=gb (aA.out S E.out);have t:=gR R s;clear R s E;go_wp2;go_ret;exact⟨⟨_,rfl,S,t.out.1,d.out⟩,t.out.2⟩
theorem YQ{P:Program}{w w':World}{n:String}{cs:Array Value}(a:gm w w')(h:w.var? P n=some cs):w'.var? P n=some cs:=by
 unfold World.var? at h⊢;cases b:P.globalNamed n with
 |none=>grind
 |some g=>
  simp only[b,JJ]at h⊢;have c:g<w.heap.size:=by
   grind
  rw[a.block g c];exact h
structure jO(w:World):Prop where
 lib:J8 w
 tab:Lib.TabIs prog w "internal/strconv.uint64pow10" .u64 Lib.pow10Tab
 prs:SR w
theorem jO.below{w w':World}(h:jO w)(a:gm w w'):jO w':=⟨h.lib.below a,YQ a h.tab,h.prs.below a⟩
theorem Ns(n:Int)(w:World)(a:ja n)(h:jO w):
 Calls prog 99 #[.int .i64 n] w λe b=>e= .returned (.string (gJ (Lib.itoa n)))/\gm w b:=
 (Ca n a.1 a.2 w h.tab).mono λe b ⟨c,k,f,d⟩=>⟨c,by subst d;exact Lib.below_grow _ _ (fZ _) k f⟩
def gX(s:iF):Option Nat:=
 match Lib.atoiAll s with
 | .ok n=>if s.length<=9/\0<=n/\Lib.itoa n=s then some n.toNat else none
 |_=>none
def jq(s:iF):Option gA:=if s=[45]then some []else(pj 44 s).mapM gX
def jK(s:iF):Option kl:=if s=[45]then some []else(pj 47 s).mapM λw=>if w=[45]then none else jq w
theorem ZZ{l:iF}{v:Int}(h:Lib.atoiAll l= .ok v):ja v:=by
 unfold Lib.atoiAll at h
 grind [ja]
theorem zs{s:iF}{n:Int}(h:Lib.atoiAll s= .ok n):gX s=if s.length<=9/\0<=n/\Lib.itoa n=s then some n.toNat else none:=by
 grind [gX]
theorem rU{s:iF}(h:∀n,Lib.atoiAll s≠ .ok n):gX s=none:=by
 grind [gX]
theorem jJ{s:iF}{n:Nat}(h:gX s=some n):n<1000000000:=by
 unfold gX at h;split at h
 ·rename_i m i;split at h
  ·rename_i c;obtain⟨d,e,a⟩:=c;obtain rfl:=gG h;have f:=Lib.lt_pow_nDigits m.toNat
   have b:Lib.nDigits m.toNat<=9:=by
    rw[<-yQ];unfold Lib.itoa at a
    grind
   have g:(10:Nat)^Lib.nDigits m.toNat<=10^9:=gN Oa b;exact Oa
  ·exact Sb
 ·exact Sb
def mA(l:iF):Ending:= .panicked [{v:= .iface 36 (.string (gJ l)),recovered:=false}]
def yW(s:iF)(w:World)(e:Ending)(w':World):Prop:=
 ((∃n:Nat,gX s=some n/\e= .returned (.int .i64 n))\/(gX s=none/\e=mA [98,97,100]))/\gm w w'
theorem nE(s:iF)(w:World)(H:s.length<=10000)(i:jO w):
 Calls prog 33 #[.string (gJ s)] w (yW s w):=by
 have k:=gb (aio s w Oa i.lib);have e:=gb (λ(v:Int)(Z:World)(d:ja v)(c:gm w Z)=>Ns v Z d (i.below c));have g:=gd (∀n,Lib.atoiAll s= .ok n->gX s=if s.length<=9/\0<=n/\Lib.itoa n=s then some n.toNat else none) (λn h=>zs h);have f:=gd ((∀n,Lib.atoiAll s≠ .ok n)->gX s=none) rU;have x:=gd (∀(n:Nat) a,gX s=some n->gm w a->yW s w (.returned (.int .i64 n)) a) (λn a h c=>⟨.inl ⟨n,h,rfl⟩,c⟩);have bd:=gd (∀a,gX s=none->gm w a->yW s w (mA [98,97,100]) a) (λa h c=>⟨.inr ⟨h,rfl⟩,c⟩);have I:=iw s;clear i;generalize yW s w=G at*;have p:mA [98,97,100]= .panicked [{v:= .iface 36 (.string ⟨#[98,97,100]⟩),recovered:=false}]:=rfl;rw[p]at bd;clear p;go_enter func33,ntmps33;go_wp2_with fail;refine k.out.mono ?_;rintro z Z ⟨C,j⟩;have HB:=gb j;have D:=j.size;clear j k;rcases C with⟨v,d,rfl⟩|⟨r,v,J,rfl⟩
 ·have HV:=gb (g.out v d);have q:=ZZ d;have y:=gb (e.out v Z q HB.out);unfold ja at q;clear d e g f;by_cases A:s.length<=9
  ·have B:¬(9:Int)<s.length:=(by omega);by_cases E:v<0
   ·exact Qu
   ·obtain⟨n,rfl⟩:=jW (show 0<=v by omega);go_wp2_with fail;refine y.out.mono ?_;rintro z t ⟨rfl,o⟩;have l:=gb (HB.out.trans (o.mono D));clear o;by_cases b:Lib.itoa (n:Int)=s
    ·have HZ:=gb (x.out n t (HV.out.trans (gl ⟨A,by omega,b⟩)) l.out);rw[b];clear b;exact OO
    ·have HZ:=gb (bd.out t (HV.out.trans (gh (λh=>b h.2.2))) l.out);have F:((gJ (Lib.itoa (n:Int))).toList==(gJ s).toList)=false:=by
      rw[jB,jB,kK,kK,gL];exact b
     clear b HV;generalize Lib.itoa (n:Int)=K at*;go_wp2;exact O1
  ·have B:(9:Int)<s.length:=(by omega);exact Qu
 ·have HZ:=gb (bd.out Z (f.out r) HB.out);clear r e g f;go_wp2;exact O1
def yX(s:iF)(w:World)(e:Ending)(w':World):Prop:=
 ((∃l a,jq s=some l/\e= .returned a/\OI w.heap.size w' a (l.map λx:Nat=>(x:Int)))\/(jq s=none/\e=mA [98,97,100]))/\gm w w'
def gr(l:gA):gP:=l.map λx:Nat=>(x:Int)
theorem AI{b c:Type}{f:b->Option c}:∀{l:List b}{r:List c},l.mapM f=some r->r.length=l.length
 |[],r,h=>by grind
 |d::l,r,h=>by
  rw[pF]at h;cases e:f d with
  |none=>grind
  |some g=>
   cases a:l.mapM f with
   |none=>grind
   |some q=>
    simp[e,a]at h;subst h;simp[AI a]
theorem Iz{d e:Type}{f:d->Option e}:∀{a b:List d}{p:List e},a.mapM f=some p->(a++b).mapM f=(b.mapM f).map (p++ ·)
 |[],b,p,h=>OK
 |x::a,b,p,h=>by
  rw[pF]at h;rw[jD,pF];cases g:f x with
  |none=>grind
  |some y=>
   cases c:a.mapM f with
   |none=>grind
   |some q=>
    simp[g,c]at h;subst h;rw[Iz c];cases b.mapM f<;>rfl
theorem t7{a b:Type}{f:a->Option b}{l:List a}{i:Nat}{p:List b}(h:(l.take i).mapM f=some p)(hi:i<l.length):(f l[i]=none->l.mapM f=none)/\(∀y,f l[i]=some y->(l.take (i+1)).mapM f=some (p++[y])):=by
 constructor
 ·grind [List.drop_eq_getElem_cons,List.take_append_drop]
 ·intro y c;rw[jH,gn hi,al5,Iz h,pF,c];rfl
theorem o6(s:iF)(w:World)(hs:s.length<=10000)(p:jO w):
 Calls prog 34 #[.string (gJ s)] w (yX s w):=by
 have i:=gb (FU s w Oa p.lib 44);have Q:=gb (λ(I:iF)(K:World)(E:I.length<=10000)(J:gm w K)=>nE I K E (p.below J));have R:=gb (oO 44 s);have W:=sf 44 s;have cK:=gd (∀l g a,jq s=some l->OI w.heap.size a g (gr l)->gm w a->yX s w (.returned g) a) (λl g a h Y J=>⟨.inl ⟨l,g,h,rfl,Y⟩,J⟩);have O:=gd (∀a,jq s=none->gm w a->yX s w (mA [98,97,100]) a) (λa h J=>⟨.inr ⟨h,rfl⟩,J⟩);have y:=gd (¬s=[45]->jq s=(pj 44 s).mapM gX) (λh=>gh h);have bp:=gd (s=[45]->jq s=some []) (λh=>gl h);clear p;generalize yX s w=ab at*;go_enter func34,ntmps34;by_cases dd:s=[45]
 ·exact Pt
 ·have hq:((gJ s).toList==[45])=false:=(by rw[jB,kK,gL];exact dd);have cu:=gb (y.out dd);clear dd y bp;generalize pj 44 s=b at*;obtain⟨NW,o⟩:∃NW,b.length=NW:=⟨_,rfl⟩;rw[o]at i W;have ec:=gb o;clear o;go_wp2_with fail;refine i.out.mono ?_;rintro S w4 ⟨gs,rfl,C,q⟩;have z:=gR C q;have eg:=q.size;clear C q i;go_wp2_with fail;obtain⟨c,U⟩:∃c,c=w4:=⟨_,rfl⟩;subst U;go_loopw [3,5,11] (λlv _ v wr=>∃(I:Nat)(l:gA),v= .int .i64 I/\I<=NW/\OI c.heap.size wr lv (gr l)/\Hid ((b.take I).mapM gX=some l)/\l.length=I/\gm c wr) (λ_ _ v _=>NW-(intOf v).toNat)
  case atStart=>exact⟨0,[],rfl,ge _,OI.nil _ _,gb rfl,rfl,f0 _ _⟩
  case round=>
   obtain⟨I,l,rfl,E,hl,HR,ag,J⟩:=hrel;have aO:=gb (z.out.2.trans (J.mono eg));by_cases cL:I<NW
   ·have cV:(I:Int)<NW:=(by omega);have t:I<b.length:=Dc;obtain⟨F,G⟩:=t7 HR.out t;have k:=gb F;have n:=gb G;have ah:=R.out _ (iH t);have A:=(z.out.1.below J).cell I (by grind);have B:(b.map λaa=>Value.string (gJ aa))[I]? =some (.string (gJ b[I])):=(by simp[t]);rw[B]at A;have x:=gb (Q.out b[I] wr Oa aO.out);have j:=gR hl J;clear hl J B F G HR;generalize b[I]=wt at*;go_wp2_with fail;refine x.out.mono ?_;rintro S L ⟨T,e⟩;have M:=gb (aO.out.trans (e.mono aO.out.size));have r:=j.out.1.below e;have f:=j.out.2.trans (e.mono j.out.2.size);clear e x A;rcases T with⟨H,d,rfl⟩|⟨d,rfl⟩
    ·have P:=gb (n.out H d);have X:(gr l).length<=1000000000000:=(by grind [gr]);have D:=f.size;have N:=gb f;clear d k n f;go_wp2_with (at_builtin;refine g8 L _ _ 45 rfl rfl underlying45 info3 c.heap.size _ _ rfl r rfl X D ?_;intro ad ac w8 Z V ae af);go_roundw
     case rel=>exact⟨I+1,l++[H],by go_num,by omega,Z.cast (by simp[gr]),P,by simp;omega,r.grown N.out V D⟩
     case measure=>exact gQ
    ·have HZ:=gb (O.out L (cu.out.trans (k.out d)) M.out);clear d k n r f;exact O1
   ·exact Pw
end Go.Proofs.YtnnaadmegeeinaaGreatDoor
