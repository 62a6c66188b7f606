/-
  Part 6 of a proof: what it proves stands in the last text.
-/
import Derived.Test.YtnnaadmegeeinaaGreatDoorYe
import Derived.Deep.RegionLawGrows
import Derived.Lib.SliceRun
import Derived.Shelf.Bits.Mul64
import Derived.Shelf.Strconv.AtoiAll
import Derived.Shelf.Strconv.Itoa3
import Derived.OwnWalk
import Derived.BigRegion
import Derived.ChangeKeysEq
import Derived.Laws.StructEq
import Derived.Deep.MidRow
import Derived.RangeFuncBox
set_option linter.all false
set_option maxHeartbeats 8000000
set_option maxRecDepth 100000
namespace Go.Proofs.YtnnaadmegeeinaaGreatDoor
open Tryz Go.Proofs.Tryz
open Go.RowKit
def ii:=@wpList_load_mid
def io:=@List.set_cons_zero
def iA:=@wpList_store_mid
def kr:=@Below.heap_setCell
def ly:=@Nat.le_of_lt
def lZ:=@List.count_le_length
def oH:=@World.grownBy_alloc
def qn:=@Nat.ble_eq_true_of_le
def sM:=@List.map_replicate
def sO:=@decide_eq_true_iff
def x7:=@List.set_append_right
def y5:=@World.alloc_heap_new
def Y4:=@Nat.mod_le
def aia:=@List.eraseIdx_sublist
def aku:=@Nat.mul_pos
def al0:=@KeepsWalks.setCell
theorem S0{p:Prop}(h:p:=by
 have HB:=gd (x1 n=false) (by grind [x1]);go_enter func214,ntmps214;go_wp2;go_ret
 exact⟨by rw[HB.out];rfl,rfl⟩):p:=h
theorem S6{p:Prop}(h:p:=by rw[hN.out];exact cN):p:=h
theorem Ua{p:Prop}(h:p:=by
 go_wp2;go_roundw
 case rel=>exact⟨k+1,by omega,by go_num,HX.out.1,HX.out.2.1,HX.out.2.2⟩
 case measure=>exact gQ):p:=h
theorem U6{p:Prop}(h:p:=by
 clear ay hc ds;go_wp2;go_ret
 exact⟨by rw[HP.out];rfl,J⟩):p:=h
theorem Dd{p:Prop}(h:p:=by
 have h2:=hU.setCells dU [] xs w hA hl
 exact h _ h2 (iu dU 0 w)):p:=h
theorem DA{p:Prop}(h:p:=by
 go_wp2;go_ret
 exact⟨by rw[HP.out];rfl,HB.out⟩):p:=h
theorem Kx{p:Prop}(h:p:=by rw[<-hN.out,P.len]):p:=h
theorem PI{p:Prop}(h:p:=by
 have HX:=gR ho J;clear ho J
 exact Ro):p:=h
theorem P8{p:Prop}(h:p:=by
 by_cases e:j=k
 ·grind [rX]
 ·exact bg.out j Oa):p:=h
theorem QH{p:Prop}(h:p:=by
 intro e;have:=(o1.lt w.heap.size e.symm).1
 exact Oa):p:=h
theorem QW{p:Prop}(h:p:=by
 go_wp2;go_ret
 exact⟨by rw[HE.out];rfl,f0 _ _⟩):p:=h
theorem Ro{p:Prop}(h:p:=by
 go_wp2;go_ret
 exact Mn):p:=h
theorem jF{d:Type}{a:Option d}{b c:d}(h:a=some b)(e:b=c:=by kernel_rfl):a=some c:=h.trans (jA some e)
def arS(v r:Nat)(l:gP)(p:Nat×Nat):gP:=(l.set ((p.1+r)%v) (((p.2+r)%v:Nat):Int)).set ((p.2+r)%v) (((p.1+r)%v:Nat):Int)
def ar0(v r:Nat):gP:=((List.replicate (v+1) (0:Int)).set v (r:Int)).set r (v:Int)
def Lp(v r:Nat)(a:List (Nat×Nat)):gP:=a.foldl (arS v r) (ar0 v r)
theorem aeW(v r:Nat)(l:gP)(p:Nat×Nat):(arS v r l p).length=l.length:=by simp[arS]
theorem ZX(v r:Nat)(a:List (Nat×Nat))(k:Nat)(b:k<a.length):Lp v r (a.take (k+1))=arS v r (Lp v r (a.take k)) (a.getD k (0,0)):=by
 grind [List.take_add_one,Lp]
theorem Tf(v r:Nat):∀(a:List (Nat×Nat))(l:gP),(a.foldl (arS v r) l).length=l.length
 |[],l=>rfl
 |p::a,l=>by rw[List.foldl_cons,Tf v r a,aeW]
theorem ad1(a b v:Nat):((a:Int)+b).tmod (v:Int)=(((a+b)%v:Nat):Int):=by
 grind
theorem Wt(v r:Nat)(u:Value)(a:List (Nat×Nat))(w:World)(I:0<v)(hv:v<=64)(hr:r<v)(Q:PR w u a)(U:∀p∈a,p.1<v/\p.2<v):
 Calls prog 266 #[.int .i64 v,.int .i64 r,u] w λab X=>(∃W,ab= .returned W/\OI w.heap.size X W (Lp v r a))/\gm w X:=by
 have Y:=gd (∀k,(Lp v r (a.take k)).length=v+1) (λk=>by grind [Lp,Tf,ar0]);have E:=gb (ZX v r a)
 have B:=gd (∀k,k<a.length->(a.getD k (0,0)).1<v/\(a.getD k (0,0)).2<v) (λk hk=>U _ (by
  grind))
 have F:=gd (Lp v r (a.take a.length)=Lp v r a) (by grind);have aa:=gd (Lp v r (a.take 0)=((List.replicate (v+1) (0:Int)).set v (r:Int)).set r (v:Int)) rfl;obtain⟨af,ag,N,rfl,hN,aj,o⟩:=Q.open;rw[hN.out]at E B F;have ak:(r:Int)<v+1:=Oa;have al:(v:Int)<v+1:=Oa;have ac:=gd (((v:Int)+1)=((v+1:Nat):Int)) Oa;clear U Q;generalize Lp v r a=ae at*;obtain⟨D,J⟩:∃D:Nat->gP,D=λk=>Lp v r (a.take k):=⟨_,rfl⟩;have g:=gd (∀k,Lp v r (a.take k)=D k) (λk=>by rw[J]);clear J;go_enter func266,ntmps266;go_wp2_with (at_make;refine nQ (w:=w) _ _ 45 3 (.int .i64 0) 8 rfl rfl underlying45 info3 rfl Oc w.heap.size _ (v+1) rfl rfl ac.out Oa (fZ _) ?_;intro w3 ad P t;have l:OI w.heap.size w3 (.slice (some ⟨w.heap.size,0,none⟩) (v+1) (v+1)) (List.replicate (v+1) (0:Int)):=(by grind [OI,List.map_replicate]);have c1:=l.cell v On;have f1:=l.frozen v;have b:=l.stored v (r:Int);have c2:=b.1.cell r Oo;have f2:=b.1.frozen r;have c:=b.1.stored r (v:Int);have HX:=gR c.1 ((((f0 w.heap.size w).grown P (fZ _) (λk h=>by cases h)).grown b.2 (ly t) (λk h=>by grind)).grown c.2 (gt (ly t) b.2.size) (λk h=>by grind));clear ad P l b c);go_loopw [25] (λz wr=>∃k:Nat,k<=N/\z= .int .i64 k/\OI w.heap.size wr (.slice (some ⟨w.heap.size,0,none⟩) (v+1) (v+1)) (D k)/\gm w wr/\w.heap.size<wr.heap.size) (λz _=>N-(intOf z).toNat)
 case atStart=>exact⟨0,ge _,rfl,HX.out.1.cast ((g.out 0).symm.trans aa.out).symm,HX.out.2,gS t Ud⟩
 case round=>
  clear HX;obtain⟨k,hk,rfl,j,d,V⟩:=hrel;by_cases q:k<N
  ·obtain⟨H,rfl,M,O⟩:=o Oa;obtain⟨c1,c2⟩:=O k q;have c1:=(d.cell (p:=⟨H,k*2,none⟩) M).trans c1;have c2:=(d.cell (p:=⟨H,k*2+1,none⟩) M).trans c2;obtain⟨p1,p2⟩:=B.out k q;have s:=E.out k q;rw[g.out,g.out]at s;have C:=gb s;clear s o O;generalize (a.getD k (0,0))=pq at*;obtain⟨x,y⟩:=pq;simp only at p1 p2 c1 c2;have m1:=ad1 x r v;have m2:=ad1 y r v;have b1:(x+r)%v<v:=iD _ I;have b2:(y+r)%v<v:=iD _ I;have Z:Hid (D (k+1)=((D k).set ((x+r)%v) (((y+r)%v:Nat):Int)).set ((y+r)%v) (((x+r)%v:Nat):Int)):=C;have K:=gd ((D k).length=v+1) (by rw[<-g.out];exact Y.out k);have G:=ju (j.alloc (.cells #[.int .i64 x,.int .i64 y] 202)) (d.alloc d.size (.cells #[.int .i64 x,.int .i64 y] 202)) (Nat.lt_trans V (alK wr (.cells #[.int .i64 x,.int .i64 y] 202)));have d1:=pl0 wr (.int .i64 x) (.int .i64 y) 202;have d2:=pl1 wr (.int .i64 x) (.int .i64 y) 202;clear C j d;generalize (x+r)%v=e at*;generalize (y+r)%v=f at*;go_wp2;generalize wr.alloc (.cells #[.int .i64 x,.int .i64 y] 202)=A at*;go_quiet (fail);have ah:(e:Int)<v+1:=Oa;have ai:(f:Int)<v+1:=Oa;obtain⟨T,L,R⟩:=G.out;have n:OI w.heap.size (A.drewN nq) (.slice (some ⟨w.heap.size,0,none⟩) (v+1) (v+1)) (D k):=T.drewN nq;have i:=gM L nq;have S:w.heap.size<(A.drewN nq).heap.size:=R;clear T L R G d1 d2;generalize A.drewN nq=w5 at*;have e1:=n.cell e (by rw[K.out];omega);have g1:=n.frozen e;have b:=n.stored e (f:Int);have e2:=b.1.cell f (by rw[jY,K.out];omega);have g2:=b.1.frozen f;have c:=b.1.stored f (e:Int);rw[<-Z.out]at c;have HX:=ju c.1 ((i.grown b.2 i.size (λk h=>by grind)).grown c.2 (gt i.size b.2.size) (λk h=>by grind)) (gS S (gt b.2.size c.2.size));clear b c n i S V;generalize (D k).getD e 0=am at*;generalize ((D k).set e (f:Int)).getD f 0=an at*;exact Ua
  ·obtain rfl:k=N:=(by omega);have HX:=gR (j.cast ((g.out k).symm.trans F.out)) d;clear o j d;exact Ro
def Y6(v:Nat)(a:List (Nat×Nat))(k:Nat):lO:=(List.range k).map λr=>Lp v r a
theorem aeV(v:Nat)(a:List (Nat×Nat))(k:Nat):(Y6 v a k).length=k:=by simp[Y6]
theorem ZY(v:Nat)(a:List (Nat×Nat))(k:Nat):Y6 v a (k+1)=Y6 v a k++[Lp v k a]:=by simp[Y6,jc]
theorem XY(v:Nat)(u:Value)(a:List (Nat×Nat))(w:World)(V:0<v)(hv:v<=64)(g:PR w u a)(r:∀y∈a,y.1<v/\y.2<v):
 Calls prog 215 #[.int .i64 v,u] w λe j=>(∃A,e= .returned A/\OL w.heap.size j.heap.size j A (Y6 v a v))/\gm w j:=by
 have G:=gb (λz (C:World) (hr:z<v) (U:gm w C)=>Wt v z u a C V hv hr (g.below U) r);have Q:=gb (ZY v a);have K:=gb (aeV v a);have E:=gd (Y6 v a 0=[]) rfl;obtain⟨ad,ae,ac,rfl,hN,ag,Y⟩:=g.open;clear r g Y;generalize o:(λk=>Y6 v a k)=F at*;have HF:=gd (∀k,Y6 v a k=F k) (λk=>by rw[<-o]);clear o;go_enter func215,ntmps215;go_wp2;go_loopw [5,8] (λab i wr=>∃k:Nat,k<=v/\i= .int .i64 k/\OL w.heap.size wr.heap.size wr ab (Y6 v a k)/\gm w wr) (λ_ i _=>v-(intOf i).toNat)
 case atStart=>exact⟨0,ge _,rfl,by rw[E.out];exact OL.nil _ _ _,f0 _ _⟩
 case round=>
  obtain⟨k,hk,rfl,ho,J⟩:=hrel;by_cases Z:k<v
  ·have I:=gb (G.out k wr Z J);have L:=gb ho;have b:=gb J;clear ho J;go_wp2_with fail;refine I.out.mono ?_;rintro e D ⟨⟨u2,rfl,h⟩,c⟩;obtain⟨a9,c9,T⟩:=h.len;generalize af:(Lp v k a).length=la at*;subst T;have P:=gb h;obtain⟨B,d,s,t,x⟩:=L.out.below c;have aa:B.length<=1000000000000:=by
    have:=K.out k;exact Oa
   have M:=gb s;have N:=gb t;have O:=gb x;have n:w.heap.size<=D.heap.size:=gt b.out.size c.size;have H:=gb (b.out.trans (c.mono b.out.size));have R:=gb b.out.size;clear h c s t x;go_wp2_with (at_builtin;refine jt D _ _ 46 45 (.slice none 0 0) 24 rfl rfl underlying46 info45 rfl Oc w.heap.size _ B rfl d rfl rfl aa n ?_;intro g3 c3 w4 q f W X);have p:=OL.snoc d M.out N.out O.out P.out R.out q f;have l:=gR p (H.out.grown f n (λS e=>(d.lt S e).1));clear p q f W X d;go_roundw
   case rel=>exact⟨k+1,by omega,by go_num,by rw[Q.out];exact l.out.1,l.out.2⟩
   case measure=>exact gQ
  ·obtain rfl:k=v:=(by omega);exact PI
def x1(n:Int):Bool:=decide (2<=n/\n<=16/\n%2=0)
theorem Em(n:Int)(w:World):
 Calls prog 214 #[.int .i64 n] w λe a=>e= .returned (.bool (x1 n))/\w=a:=by
 by_cases b:n<2
 ·exact S0
 by_cases c:16<n
 ·exact S0
 obtain⟨m,rfl⟩:∃m:Nat,n=(m:Int):=⟨n.toNat,by omega⟩;have d:(m:Int).tmod 2=((m%2:Nat):Int):=(gO m 2).symm;have f:m%2<2:=iD _ Oa
 have HB:=gd (x1 m=(((m%2:Nat):Int)==0)) (by
  rw[lh,x1,sO,kz]
  exact Oa)
 go_enter func214,ntmps214;go_wp2;go_ret;exact⟨by rw[HB.out];rfl,rfl⟩
def pr(ll:lO)(j a:Nat):Nat:=((ll.getD j [])[a]?.getD 0).toNat
section
section
variable {n:Nat} {p q:Nat->Nat}
def mk(n:Nat)(T:Nat->Bool):Nat:=((List.range n).filter T).length
end
end
def Cw(B:Nat)(w:World)(v:Value)(xs:gP):Prop:=
 ∃b d c a,v= .slice (some ⟨b,d,none⟩) xs.length c/\B<=b/\w.heap[b]? =some (.cells a 3 (0,0))/\xs.length<=c/\c<=maxLen/\d+c<=a.size/\∀i,i<xs.length->a[d+i]? =some (.int .i64 (xs.getD i 0))
theorem Cw.of_ow{B:Nat}{w:World}{v:Value}{xs:gP}(h:OI B w v xs)(l:1<=xs.length):Cw B w v xs:=by
 rcases h.2 with⟨_,i⟩|⟨g,a,b,rfl,c,e,f,d,j,n⟩
 ·grind
 ·rw[gv]at*;rw[qT]at*;refine⟨g,0,a,b,rfl,c,e,f,d,by omega,λo k=> ?_⟩
  have h1:(b.toList.take xs.length)[o]? =(xs.map (Value.int .i64))[o]? :=by rw[n]
  rw[List.getElem?_take,if_pos k]at h1;rw[Nat.zero_add,<-Array.getElem?_toList,h1];simp[k]
theorem Cw.lt{B b a n c:Nat}{w:World}{xs:gP}(h:Cw B w (.slice (some ⟨b,a,none⟩) n c) xs):B<=b/\b<w.heap.size/\n=xs.length/\n<=c:=by
 obtain⟨d,q,e,f,g,i,k,l,o,p,j⟩:=h
 grind
theorem Cw.form{B:Nat}{w:World}{v:Value}{xs:gP}(h:Cw B w v xs):∃b a c,v= .slice (some ⟨b,a,none⟩) xs.length c:=by
 obtain⟨b,a,c,d,e,_⟩:=h
 grind
theorem Cw.cell{B b a n c:Nat}{w:World}{xs:gP}(h:Cw B w (.slice (some ⟨b,a,none⟩) n c) xs)(i:Nat)(hi:i<xs.length):w.cell? ⟨b,a+i,none⟩=some (.int .i64 (xs.getD i 0)):=by
 obtain⟨g,r,j,k,e,l,f,o,p,q,d⟩:=h;simp only[iU,gH,lz,qW]at e;obtain⟨⟨rfl,rfl⟩,rfl,rfl⟩:=e;simp[World.cell?,f,d i hi]
theorem Cw.same{B b f n c:Nat}{w w':World}{xs:gP}(h:Cw B w (.slice (some ⟨b,f,none⟩) n c) xs)(e:w'.heap[b]? =w.heap[b]?):Cw B w' (.slice (some ⟨b,f,none⟩) n c) xs:=by
 obtain⟨l,p,o,g,a,i,j,k⟩:=h;have d:=a;simp only[iU,gH,lz,qW]at d;obtain⟨⟨rfl,rfl⟩,rfl,rfl⟩:=d;exact⟨_,_,_,g,a,i,e.trans j,k⟩
theorem Cw.slice1{B b a n c:Nat}{w:World}{xs:gP}(h:Cw B w (.slice (some ⟨b,a,none⟩) n c) xs)(o:1<=n)(d:Nat)(t:d=if c=1 then a else a+1):Cw B w (.slice (some ⟨b,d,none⟩) (n-1) (c-1)) (xs.drop 1):=by
 obtain⟨k,y,l,f,e,g,i,r,s,v,p⟩:=h;simp only[iU,gH,lz,qW]at e;obtain⟨⟨rfl,rfl⟩,rfl,rfl⟩:=e;have j:(xs.drop 1).length=xs.length-1:=On;refine⟨b,d,c-1,f,by rw[j],g,i,by omega,by omega,?_,λx q=> ?_⟩
 ·grind
 grind
theorem Ji{P:Program}{ops:Array Oper}{o:Oper}{a:Act}{K:Act->World->Prop}{Y:Exit->Act->World->Prop}{R:Prop}{w:World}{x:Int}{H:Nat}(p:World)(s y:Operand)(t:TypeId)
 (G:o.guard=none) (M:o.op= .call {callee:= .builtin .append,args:= #[s,y],argTypes:= #[t,t]})
 (S:P.underlying t=some (.slice 3)) (hi:(P.info? 3).map (λv=>(v.zero,v.size,v.bytes))=some (some (.int .i64 0),1,8))
 (B b f n c:Nat) (xs:gP) (Q:a.eval s= .slice (some ⟨b,f,none⟩) n c) (ah:Cw B p (.slice (some ⟨b,f,none⟩) n c) xs) (U:a.eval y= .slice (some ⟨H,0,none⟩) 1 1)
 (al:xs.length<=1000000000000) (hB:B<=p.heap.size)
 (h:∀k l,Cw B l k (xs++[x])->p.grownBy l (some b)->(∀g,k.ownBlock=some g->g=b\/p.heap.size<=g)->K (a.put o.dst k) l)
 (d:gm p w:=by first|exact(f0 _ _).alloc (fZ _) _|exact((f0 _ _).alloc (fZ _) _).drew|exact((f0 _ _).drew).alloc (fZ _) _)
 (aA:w.cell? ⟨H,0,none⟩=some (.int .i64 x):=by first|exact kY _ _ _|exact nk _ _ _|exact o0 _ _ _ _ Ud|go_simp):
 if Region.wanted o (yielded ops a.tmps)=true then Oper.wp P o a w K Y else R:=by
 obtain⟨W,I,aj,V,ak⟩:=ml hi;have ai:=ah;obtain⟨C,X,D,E,F,hb,i,hl,hm,ao,hc⟩:=ai;simp only[iU,gH,lz,qW]at F;obtain⟨⟨rfl,rfl⟩,rfl,rfl⟩:=F;have ab:=(gZ.1 i).1;have z:w.heap[b]? =some (.cells E 3 (0,0)):=(d.block b ab).trans i;have L:∀(j:Nat)(ag:Value),[Value.int .i64 x][j]? =some ag->w.cell? ((⟨H,0,none⟩:Addr).add j)=some ag:=Mt;have N:∀ag∈[Value.int .i64 x],ag.oneCell'=true:=by intro ag T;simp at T;subst T;rfl
 by_cases ad:xs.length+1<=c
 ·refine step_append_room G s y t M 3 W 1 S I V b f xs.length c Q ⟨H,0,none⟩ 1 1 [.int .i64 x] U rfl L N ad ?_ ?_
  ·intro j hj;simp at hj;subst hj;constructor
   ·simp[World.cell?,z];omega
   ·simp[World.frozen?,z]
  ·have af:(w.setCells b (f+xs.length*1) [.int .i64 x]).heap[b]? =some (.cells (E.setIfInBounds (f+xs.length) (.int .i64 x)) 3 (0,0)):=by
    show(w.heap.modify b _)[b]? =_
    grind
   refine h _ _ ⟨b,f,c,_,by simp,hb,af,by simp;omega,hm,by grind,λv hi=> ?_⟩ ?_ ?_
   ·grind
   ·refine⟨d.os,d.tape,d.output,?_,λr A J=> ?_⟩
    ·show p.heap.size<=(w.heap.modify b _).size;rw[Array.size_modify];exact d.size
    ·exact(kr w _ _ r (λe=>J QU)).trans (d.block r A)
   ·intro g i;simp[Value.ownBlock]at i;omega
 ·have am:maxLen=9223372036854775807:=rfl;refine step_append_grows G s y t M 3 W (.int .i64 0) 1 8 S I aj V ak rfl Oc (some ⟨b,f,none⟩) xs.length c (xs.map (Value.int .i64)) Q On On ?_ ⟨H,0,none⟩ 1 1 [.int .i64 x] U rfl L N Oa Oa Oa ?_
  ·intro b2 e j ag hj;cases e;have ac:j<xs.length:=by
    grind
   have aa:(⟨b,f,none⟩:Addr).add j=⟨b,f+j,none⟩:=Kb;rw[aa];simp[World.cell?,z,hc j ac]
   grind
  ·intro k l an q;have O:OI w.heap.size l k (xs++[x]):=by
    grind [OI,Ow]
   have hw:=Cw.of_ow O On;have ae:=d.size;refine h k l ?_ ⟨q.os.trans d.os,q.tape.trans d.tape,q.output.trans d.output,gt ae q.size,λr A J=>(q.block r Oa On).trans (d.block r A)⟩ ?_
   ·obtain⟨C,X,D,Z,r1,r2,r3⟩:=hw;exact⟨C,X,D,Z,r1,by omega,r3⟩
   ·intro g i;have:=(O.lt g i).1;exact Oa
theorem uT(b a n c:Nat)(l:gP)(w:World)(h:Sl w (.slice (some ⟨b,a,none⟩) n c) l)(k:l.length<=1000000000):
 Calls prog 111 #[.slice (some ⟨b,a,none⟩) n c] w λe f=>(∃d,e= .returned d/\OI w.heap.size f d l)/\gm w f:=by
 have o:=λW=>Lib.run_eql_slice_nil (P:=prog) W 45 3 (some ⟨b,a,none⟩) n c 0 0 underlying45;go_enter func111,ntmps111;go_wp2_with (at_builtin;refine nP (w:=w.alloc (.cells #[] 3)) _ _ 45 3 (.int .i64 0) 8 rfl rfl underlying45 info3 rfl Oc w.heap.size _ _ _ _ rfl (OI.lit0 w.heap.size w (fZ _)) rfl (h.below ((f0 _ _).alloc (fZ _) _)) (wj _) Oo On ?_;intro q r i g j);go_ret;exact⟨⟨_,rfl,OI.ofApp (l:=[]) i⟩,((f0 _ _).alloc (fZ _) _).grown g On (λp e=>by cases e;grind)⟩
section
open Go.Shelf
def NQ:Ren:=⟨λx=>match x with|264=>293|n=>n,λx=>match x with|53=>188|46=>126|n=>n,λn=>n⟩
theorem agj:Lays.n264 prog NQ where
 mixed:=Ob
 f264:=jF func293
 t46:=underlying126
 a46:=isAgg126
 z46:=sizeOf126
 v46:=zeroValue126
 t53:=underlying188
 a53:=isAgg188
 z53:=sizeOf188
 v53:=zeroValue188
theorem WP(x y:Nat)(w:World)(h:x<18446744073709551616)(i:y<18446744073709551616)(g:0<y):
 Calls prog 294 #[.int .u64 0,.int .u64 x,.int .u64 y] w λe a=>e= .returned (.tuple #[.int .u64 (x/y:Nat),.int .u64 (x%y:Nat)])/\∃n,a=w.drewN n:=by
 have j:¬(y:Int)=0:=Oa;have k:¬(y:Int)<=0:=Oa;have d:(x:Int).tdiv (y:Int)=((x/y:Nat):Int):=by grind
 have f:(x:Int).tmod (y:Int)=((x%y:Nat):Int):=by grind
 have b:x/y<=x:=jg _ _;have c:x%y<=x:=Y4 _ _;generalize x/y=q at*;generalize x%y=r at*;go_enter func294,ntmps294;go_wp2;go_quiet (fail);go_wp2;go_ret2;exact⟨rfl,nq,rfl⟩
end
section
open Go.Shelf
def abM:Ren:=⟨λx=>match x with|172=>107|244=>188|245=>189|247=>239|279=>240|280=>241|281=>242|282=>243|287=>278|316=>279|171=>99|205=>280|321=>300|322=>301|243=>179|246=>232|283=>273|284=>274|285=>275|286=>276|129=>296|317=>295|318=>297|319=>298|320=>299|337=>330|338=>331|n=>n,λx=>match x with|9=>9|3=>3|75=>32|76=>33|4=>4|5=>5|167=>216|37=>26|0=>0|85=>217|2=>2|168=>219|53=>188|175=>252|46=>126|210=>255|127=>43|145=>275|143=>273|21=>21|171=>245|173=>248|212=>270|51=>160|20=>20|213=>271|232=>305|233=>306|80=>35|n=>n,λx=>match x with|15=>4|16=>5|17=>6|18=>9|19=>10|n=>n⟩
theorem abL:LaysC.n172 prog abM where
 mixed:=Ob
 f129:=jF func296
 f171:=jF func99
 f172:=jF func107
 f205:=jF func280
 f243:=jF func179
 f244:=jF func188
 f245:=jF func189
 f246:=jF func232
 f247:=jF func239
 f279:=jF func240
 f280:=jF func241
 f281:=jF func242
 f282:=jF func243
 f283:=jF func273
 f284:=jF func274
 f285:=jF func275
 f286:=jF func276
 f287:=jF func278
 f316:=jF func279
 f317:=jF func295
 f318:=jF func297
 f319:=jF func298
 f320:=jF func299
 f321:=jF func300
 f322:=jF func301
 f337:=jF func330
 f338:=jF func331
 t0:=underlying0
 a0:=isAgg0
 z0:=sizeOf0
 v0:=zeroValue0
 t2:=underlying2
 a2:=isAgg2
 z2:=sizeOf2
 v2:=zeroValue2
 t3:=underlying3
 a3:=isAgg3
 z3:=sizeOf3
 v3:=zeroValue3
 t4:=underlying4
 a4:=isAgg4
 z4:=sizeOf4
 v4:=zeroValue4
 t5:=underlying5
 a5:=isAgg5
 z5:=sizeOf5
 v5:=zeroValue5
 t9:=underlying9
 a9:=isAgg9
 z9:=sizeOf9
 v9:=zeroValue9
 t20:=underlying20
 a20:=isAgg20
 z20:=sizeOf20
 v20:=zeroValue20
 t21:=underlying21
 a21:=isAgg21
 z21:=sizeOf21
 v21:=zeroValue21
 t37:=underlying26
 a37:=isAgg26
 z37:=sizeOf26
 v37:=zeroValue26
 t46:=underlying126
 a46:=isAgg126
 z46:=sizeOf126
 v46:=zeroValue126
 t51:=underlying160
 a51:=isAgg160
 z51:=sizeOf160
 v51:=zeroValue160
 t53:=underlying188
 a53:=isAgg188
 z53:=sizeOf188
 v53:=zeroValue188
 t75:=underlying32
 a75:=isAgg32
 z75:=sizeOf32
 v75:=zeroValue32
 t76:=underlying33
 a76:=isAgg33
 z76:=sizeOf33
 v76:=zeroValue33
 t85:=underlying217
 a85:=isAgg217
 z85:=sizeOf217
 v85:=zeroValue217
 t127:=underlying43
 a127:=isAgg43
 z127:=sizeOf43
 v127:=zeroValue43
 t143:=underlying273
 a143:=isAgg273
 z143:=sizeOf273
 v143:=zeroValue273
 t145:=underlying275
 a145:=isAgg275
 z145:=sizeOf275
 v145:=zeroValue275
 t167:=underlying216
 a167:=isAgg216
 z167:=sizeOf216
 v167:=zeroValue216
 t168:=underlying219
 a168:=isAgg219
 z168:=sizeOf219
 v168:=zeroValue219
 t171:=underlying245
 a171:=isAgg245
 z171:=sizeOf245
 v171:=zeroValue245
 t173:=underlying248
 a173:=isAgg248
 z173:=sizeOf248
 v173:=zeroValue248
 t175:=underlying252
 a175:=isAgg252
 z175:=sizeOf252
 v175:=zeroValue252
 t210:=underlying255
 a210:=isAgg255
 z210:=sizeOf255
 v210:=zeroValue255
 t212:=underlying270
 a212:=isAgg270
 z212:=sizeOf270
 v212:=zeroValue270
 t213:=underlying271
 a213:=isAgg271
 z213:=sizeOf271
 t232:=underlying305
 a232:=isAgg305
 z232:=sizeOf305
 v232:=zeroValue305
 t233:=underlying306
 a233:=isAgg306
 z233:=sizeOf306
 v233:=zeroValue306
 g15:=Ob
 g16:=Ob
 g17:=Ob
 g18:=Ob
 g19:=Ob
 t80:=underlying35
 a80:=isAgg35
 z80:=sizeOf35
 v80:=zeroValue35
 i0:=Ob
 i2:=Ob
 i3:=Ob
 i4:=Ob
 i5:=Ob
 i9:=Ob
 i20:=Ob
 i21:=Ob
 i37:=Ob
 i46:=Ob
 i51:=Ob
 i53:=Ob
 i75:=Ob
 i76:=Ob
 i80:=Ob
 i85:=Ob
 i127:=Ob
 i143:=Ob
 i145:=Ob
 i167:=Ob
 i168:=Ob
 i171:=Ob
 i173:=Ob
 i175:=Ob
 i210:=Ob
 i212:=Ob
 i232:=Ob
 i233:=Ob
 m15:=Ob
 m16:=Ob
 m17:=Ob
 m18:=Ob
 m19:=Ob
 c0:=Ob
 c2:=Ob
 c3:=Ob
 c4:=Ob
 c5:=Ob
 c9:=Ob
 c20:=Ob
 c21:=Ob
 c37:=Ob
 c46:=Ob
 c51:=Ob
 c53:=Ob
 c75:=Ob
 c76:=Ob
 c80:=Ob
 c85:=Ob
 c127:=Ob
 c143:=Ob
 c145:=Ob
 c167:=Ob
 c168:=Ob
 c171:=Ob
 c173:=Ob
 c175:=Ob
 c210:=Ob
 c212:=Ob
 c213:=Ob
 c232:=Ob
 c233:=Ob
theorem EF(s:ByteArray)(b:s.size<=9223372036854775806)(v:Int)(h:Lib.atoiAll s.data.toList= .ok v)(w:World):
 Calls prog 107 #[.string s] w λe a=>e= .returned (.tuple #[.int .i64 v,.nilIface])/\(a=w\/∃t,a=Lib.bytesWorld w 5 t):=Any.strconv_Atoi_ok abL s b v h w
theorem ED(s:ByteArray)(j:s.size<=281474976710656)(h:∀v,Lib.atoiAll s.data.toList≠ .ok v)(ev a:Value)(w:World)(o:w.cell? ⟨4,0,none⟩=some ev)(l:ev= .nilIface\/∃g f,ev= .iface g f)(n:w.cell? ⟨5,0,none⟩=some a)(k:a= .nilIface\/∃g f,a= .iface g f):
 Calls prog 107 #[.string s] w λe i=>(∃z q,e= .returned (.tuple #[.int .i64 z,.iface 219 q]))/\gm w i:=by
 rcases d:Lib.atoiAll s.data.toList with v|_|_
 ·exact absurd d (h v)
 ·exact(Any.strconv_Atoi_syntax abL s j d ev w o l).mono λe i ⟨N,b,_,_,c⟩=>⟨⟨_,_,b⟩,c⟩
 ·exact(Any.strconv_Atoi_range abL s j d a w n k).mono λe i ⟨N,b,_,_,c⟩=>⟨⟨_,_,b⟩,c⟩
end
section
open Go.Shelf Go.Sort
def Xg:Ren:=⟨λx=>match x with|171=>99|243=>179|246=>232|283=>273|284=>274|285=>275|286=>276|129=>296|317=>295|318=>297|319=>298|320=>299|337=>330|338=>331|n=>n,λx=>match x with|3=>3|9=>9|2=>2|4=>4|171=>245|0=>0|53=>188|37=>26|5=>5|173=>248|212=>270|51=>160|20=>20|213=>271|46=>126|232=>305|233=>306|n=>n,λx=>match x with|17=>6|18=>9|19=>10|n=>n⟩
theorem ajq:LaysM.n171 prog Xg where
 mixed:=Ob
 f129:=jF func296
 f171:=jF func99
 f243:=jF func179
 f246:=jF func232
 f283:=jF func273
 f284:=jF func274
 f285:=jF func275
 f286:=jF func276
 f317:=jF func295
 f318:=jF func297
 f319:=jF func298
 f320:=jF func299
 f337:=jF func330
 f338:=jF func331
 t0:=underlying0
 a0:=isAgg0
 z0:=sizeOf0
 v0:=zeroValue0
 t2:=underlying2
 a2:=isAgg2
 z2:=sizeOf2
 v2:=zeroValue2
 t3:=underlying3
 a3:=isAgg3
 z3:=sizeOf3
 v3:=zeroValue3
 t4:=underlying4
 a4:=isAgg4
 z4:=sizeOf4
 v4:=zeroValue4
 t5:=underlying5
 a5:=isAgg5
 z5:=sizeOf5
 v5:=zeroValue5
 t9:=underlying9
 a9:=isAgg9
 z9:=sizeOf9
 v9:=zeroValue9
 t20:=underlying20
 a20:=isAgg20
 z20:=sizeOf20
 v20:=zeroValue20
 t37:=underlying26
 a37:=isAgg26
 z37:=sizeOf26
 v37:=zeroValue26
 t46:=underlying126
 a46:=isAgg126
 z46:=sizeOf126
 v46:=zeroValue126
 t51:=underlying160
 a51:=isAgg160
 z51:=sizeOf160
 v51:=zeroValue160
 t53:=underlying188
 a53:=isAgg188
 z53:=sizeOf188
 v53:=zeroValue188
 t171:=underlying245
 a171:=isAgg245
 z171:=sizeOf245
 v171:=zeroValue245
 t173:=underlying248
 a173:=isAgg248
 z173:=sizeOf248
 v173:=zeroValue248
 t212:=underlying270
 a212:=isAgg270
 z212:=sizeOf270
 v212:=zeroValue270
 t213:=underlying271
 a213:=isAgg271
 z213:=sizeOf271
 t232:=underlying305
 a232:=isAgg305
 z232:=sizeOf305
 v232:=zeroValue305
 t233:=underlying306
 a233:=isAgg306
 z233:=sizeOf306
 v233:=zeroValue306
 g17:=Ob
 g18:=Ob
 g19:=Ob
 i0:=Ob
 i2:=Ob
 i3:=Ob
 i4:=Ob
 i5:=Ob
 i9:=Ob
 i20:=Ob
 i37:=Ob
 i46:=Ob
 i51:=Ob
 i53:=Ob
 i171:=Ob
 i173:=Ob
 i212:=Ob
 i232:=Ob
 i233:=Ob
 m17:=Ob
 m18:=Ob
 m19:=Ob
theorem Ca(n:Int)(a: -9223372036854775808<=n)(b:n<=9223372036854775807)(w:World)(c:Lib.TabIs prog w "internal/strconv.uint64pow10" .u64 Lib.pow10Tab):
 Calls prog 99 #[.int .i64 n] w λe f=>e= .returned (.string ⟨(Lib.itoa n).toArray⟩)/\∃k d,f=grow (w.drewN k) d:=Any.strconv_Itoa ajq n a b w c
end
theorem alo{P:Program}(a E:TypeId)(z:Value)(bytes:Nat)
 (j:P.underlying a=some (.slice E)) (hi:(P.info? E).map (λi=>(i.zero,i.size,i.bytes))=some (some z,1,bytes)) (p:z.cells= #[z]) (d:bytes<=100)
 (n:Nat) (B:n<=1000000000000):∃mk:World->World,∀w,(Instr.makeSlice a (.int .i64 (n:Int)) (.int .i64 (n:Int))).run P w= .ok (.slice (some ⟨w.heap.size,0,none⟩) n n) (mk w)/\Ow E w.heap.size (mk w) (.slice (some ⟨w.heap.size,0,none⟩) n n) (List.replicate n z)/\w.grownBy (mk w) none/\w.heap.size<(mk w).heap.size:=by
 obtain⟨q,e,k,l,o⟩:=ml hi
 have h:=λw:World=>run_make_full (P:=P) w w.heap.size a E q z 1 j e k l .i64 .i64 n (by
  rw[o];have:bytes*n<=100*n:=iB _ d
  omega) Mm (fZ _)
 obtain⟨mk,f⟩:=Classical.axiomOfChoice h;refine⟨mk,λw=> ?_⟩;obtain⟨g,b,s⟩:=f w;refine⟨g,?_,s,?_⟩
 ·have r:=b;unfold Ow;rw[p,qT,akA]at r
  grind
 ·rcases b.2 with⟨c,_⟩|⟨x,t,v,y,_,A,_⟩
  ·simp at c
  grind
theorem afZ:∀p,p<8->∀a,a<8->(!(p==2||p==3||p==5||p==7)||a==0|| !(Nat.blt a p)||(List.range p).any λv=>v !=0&&a*v%p==1&&(List.range v).all λb=> !(a*b%p==1))=true:=OH
theorem Nr{p a:Nat}(g:j8 (p:Int)=true)(k:1<=a)(f:a<p):∃v,1<=v/\v<p/\a*v%p=1/\∀b,b<v->a*b%p≠1:=by
 have j:=kC g;have h:p<8:=Oa;have c:=afZ p h a Oa;have e:(p==2||p==3||p==5||p==7)=true:=by grind
 rw[e,show(a==0)=false from gL.2 Oa,show Nat.blt a p=true from qn f]at c;simp only[qJ,kS]at c;obtain⟨v,i,d⟩:=iG.1 c;simp only[ia,iT,kz]at d;refine⟨v,by omega,gC.1 i,d.1.2,λb l=> ?_⟩;exact OK
theorem Ia(p a v:Nat)(w:World)(A:p<=7)(l:a<p)(D:1<=v)(C:v<p)(c:a*v%p=1)(d:∀b,b<v->a*b%p≠1):
 Calls prog 110 #[.int .i64 p,.int .i64 a] w λg j=>g= .returned (.int .i64 v)/\w=j:=by
 have f:=gb d;have e:=gb c;have B:(p:Int)≠0:=Oa;clear c d;go_enter func110,ntmps110;go_wp2_with fail;go_loopw [5] (λx k=>∃b:Nat,x= .int .i64 b/\1<=b/\b<=v/\k=w) (λx _=>v-(intOf x).toNat)
 case atStart=>grind
 case round=>
  obtain⟨b,rfl,n,o,rfl⟩:=hrel;have t:(a:Int)*b=((a*b:Nat):Int):=(gI _ _).symm;have y:a*b<=49:=gE (show a<=7 by omega) (show b<=7 by omega);have i:((a*b:Nat):Int).tmod (p:Int)=((a*b%p:Nat):Int):=(gO _ _).symm;by_cases h:b=v
  ·subst h;rw[e.out]at i;generalize a*b=m at*;exact Of
  ·have z:=f.out b Oa;have s:a*b%p<p:=iD _ Oa;generalize a*b%p=r at*;generalize a*b=m at*;have E:((r:Int) !=1)=true:=(by grind);have q:b<v:=Oa;go_wp2;go_roundw
   case rel=>exact⟨b+1,by go_num,by omega,by omega,trivial⟩
   case measure=>exact gQ
theorem rz{P:Program}(w:World)(d:Nat){e:TypeId}(a:P.underlying e=some (.int .i64))(b:P.cellsOf e=1)(xs ys:gP):∀(is:gA),(∀i∈is,i<xs.length/\i<ys.length)->
 (Op.eqItems (d+1) e (P.cellsOf e) (xs.map (Value.int .i64)).toArray (ys.map (Value.int .i64)).toArray is).run P w= .ok (is.all λi=>xs.getD i 0==ys.getD i 0) w
 |[],_=>by simp[Op.eqItems]
 |i::is,h=>by
  obtain⟨f,g⟩:=h i On;have k:=rz w d a b xs ys is λl j=>h l (by simp[j]);have c:P.plainKey e=true:=(by simp[Program.plainKey,a]);have n:(part e (xs.map (Value.int .i64)).toArray i).run P w= .ok (.int .i64 (xs.getD i 0)) w:=run_part_plain w c (by simp[f]);have o:(part e (ys.map (Value.int .i64)).toArray i).run P w= .ok (.int .i64 (ys.getD i 0)) w:=run_part_plain w c (by simp[g]);rw[b]at k⊢;simp only[Op.eqItems,qT,Gh,n,o,ami,run_equalIn_int w d e .i64 .i64 _ _ a,List.all_cons];cases p:(xs.getD i 0==ys.getD i 0)
  ·exact On
  grind
theorem Lk{xs ys:gP}{n:Nat}(c:xs.length=n)(d:ys.length=n):((List.range n).all λi=>xs.getD i 0==ys.getD i 0)=decide (xs=ys):=by
 rw[lh,gF,iK];constructor
 ·intro h;refine jd Oa λi a b=> ?_;have:=h i (gC.2 Oa)
  grind
 grind
theorem Ja{P:Program}(w:World)(d:Nat){t e:TypeId}{n:Nat}{i:TypeInfo}(c:P.underlying t=some (.array n e))(b:P.underlying e=some (.int .i64))(hi:P.info? e=some i)(a:P.cellsOf e=1){xs ys:gP}(f:xs.length=n)(g:ys.length=n):
 (Op.equalIn (d+2) t (.agg (xs.map (Value.int .i64)).toArray) (.agg (ys.map (Value.int .i64)).toArray)).run P w= .ok (decide (xs=ys)) w:=by
 rw[run_equalIn_array w (d+1) _ _ c hi,rz w d b a xs ys _ (λi hi=>by grind),Lk f g]
def hU(w:World)(b:Nat)(t:TypeId)(xs:np):Prop:=w.heap[b]? =some (.cells xs.toArray t (0,0))
theorem hU.lt{w:World}{b:Nat}{t:TypeId}{xs:np}(h:hU w b t xs):b<w.heap.size:=(gZ.1 h).1
theorem hU.cell{w:World}{b:Nat}{t:TypeId}{xs:np}(h:hU w b t xs)(i:Nat):w.cell? ⟨b,i,none⟩=xs[i]? :=by simp[World.cell?,show w.heap[b]? =_ from h]
theorem hU.frozen{w:World}{b:Nat}{t:TypeId}{xs:np}(h:hU w b t xs)(i:Nat):w.frozen? ⟨b,i,none⟩=false:=by simp[World.frozen?,show w.heap[b]? =_ from h]
theorem hU.kept{w w':World}{a:Option Nat}{b:Nat}{t:TypeId}{xs:np}(h:hU w b t xs)(c:w.grownBy w' a)(d:some b≠a):hU w' b t xs:=(c.block b h.lt d).trans h
theorem hU.below{w w':World}{b:Nat}{t:TypeId}{xs:np}(h:hU w b t xs)(a:gm w w'):hU w' b t xs:=(a.block b h.lt).trans h
theorem hU.alloc{w:World}{b:Nat}{t:TypeId}{xs:np}(h:hU w b t xs)(o:Obj):hU (w.alloc o) b t xs:=h.kept (oH w o none) On
theorem hU.new(w:World)(t:TypeId)(xs:np):hU (w.alloc (.cells xs.toArray t)) w.heap.size t xs:=y5 w _
theorem hU.stored{w:World}{b:Nat}{t:TypeId}{xs:np}(h:hU w b t xs)(i:Nat)(v:Value):hU (w.setCell ⟨b,i,none⟩ v) b t (xs.set i v)/\w.grownBy (w.setCell ⟨b,i,none⟩ v) (some b):=by
 obtain⟨c,a⟩:=gZ.1 h;refine⟨?_,⟨rfl,rfl,rfl,(al0 w _ v).size,λk _ a=>kr _ _ _ k (λe=>a QU)⟩⟩;show(w.heap.modify b _)[b]? =_
 grind
theorem hU.setCells{b:Nat}{t:TypeId}:∀(a xs ys:np)(w:World),hU w b t (xs++ys)->ys.length=a.length->hU (w.setCells b xs.length a) b t (xs++a)
 |[],xs,ys,w,h,d=>by
  obtain rfl:ys=[]:=iX d;exact h
 |v::a,xs,y::ys,w,h,d=>by
  have e:=(h.stored xs.length v).1;rw[x7 _ _ (fZ _),jU,io]at e;have f:hU (w.setCell ⟨b,xs.length,none⟩ v) b t ((xs++[v])++ys):=(by grind);have c:=hU.setCells a (xs++[v]) ys _ f (by grind);rw[gz]at c;simpa [World.setCells]using c
theorem iu{b:Nat}:∀(f:np)(o:Nat)(w:World),w.grownBy (w.setCells b o f) (some b)
 |[],o,w=>⟨rfl,rfl,rfl,fZ _,λ_ _ _=>rfl⟩
 |v::f,o,w=>by
  have a:w.grownBy (w.setCell ⟨b,o,none⟩ v) (some b):=⟨rfl,rfl,rfl,(al0 w _ v).size,λk _ d=>kr _ _ _ k (λe=>d QU)⟩;have c:=iu (b:=b) f (o+1) (w.setCell ⟨b,o,none⟩ v);exact⟨c.os.trans a.os,c.tape.trans a.tape,c.output.trans a.output,gt a.size c.size,λk d g=>(c.block k (gS d a.size) g).trans (a.block k d g)⟩
theorem hU.range{w:World}{b:Nat}{t:TypeId}{xs:np}(h:hU w b t xs):w.rangeAt b 0 xs:=λj v a=>by rw[iL,h.cell];exact a
theorem hU.there{w:World}{b:Nat}{t:TypeId}{xs:np}(h:hU w b t xs):w.there b 0 xs.length:=λj a=>by
 rw[iL,h.cell];exact⟨by simp[a],h.frozen j⟩
theorem Bd{P:Program}(t e:TypeId)(n i:Nat)(cs:np)(x:Value)(w:World)(h:P.underlying t=some (.array n e))(b:∀w,(isAgg e).run P w= .ok false w)(d:∀w,(sizeOf e).run P w= .ok 1 w)(hi:i<n)(c:cs[i]? =some x):
 (Instr.index t (.agg cs.toArray) (.int .i64 i)).run P w= .ok x w:=by
 have a:(0:Int)<=i/\(i:Int)<n:=Oa;simp[Instr.index,pN h,asIntOf,a,part,b,d,c,Result.andThen,hi]
def vF:gP:=[2,3,5,7,11,13,17,19,23,29,31,37,41,43,47,53,59,61]
def prV:np:=vF.map (Value.int .i64)
def SR(w:World):Prop:=3<w.heap.size/\w.rangeAt 3 0 prV
theorem SR.below{w w':World}(h:SR w)(a:gm w w'):SR w':=
 ⟨gS h.1 a.size,λj v b=>(a.cell (p:=⟨3,0+j,none⟩) h.1).trans (h.2 j v b)⟩
theorem Vu{i:Nat}(hi:i<18):prV[i]? =some (.int .i64 (vF.getD i 0)):=by
 have a:vF.length=18:=rfl
 grind [prV]
theorem ajR{p:Int}(h:∀i,i<18->vF.getD i 0≠p):decide (p∈vF)=false:=by
 rw[kw];intro b;obtain⟨i,a,e⟩:=l0.1 b;exact h i a (by grind)
theorem ajS{p:Int}{i:Nat}(hi:i<18)(h:vF.getD i 0=p):decide (p∈vF)=true:=by
 have a:vF.length=18:=rfl
 grind
theorem Ic(p:Int)(w:World)(d:SR w):
 Calls prog 234 #[.int .i64 p] w λe q=>e= .returned (.bool (decide (p∈vF)))/\w=q:=by
 have b:=d.2;have a:(prog.info? 251).map (·.size)=some prV.length:=Ob;have f:=gb (λ(t:Nat)(h:t<18)=>Bd (P:=prog) 251 3 18 t prV (.int .i64 (vF.getD t 0)) w underlying251 isAgg3 sizeOf3 h (Vu h));have g:=gb (λh=>ajR (p:=p) h);have l:=gb (λi n h=>ajS (p:=p) (i:=i) n h);generalize decide (p∈vF)=D at*;generalize prV=V at*;clear d;go_enter func234,ntmps234;go_wp2_with (refine ii rfl 251 _ rfl 3 0 rfl V _ b underlying251 rfl a ?_);go_loop [4,6] (λ_ i=>∃k:Nat,k<=18/\i= .int .i64 k/\Hid (∀j,j<k->vF.getD j 0≠p)) (λ_ i=>18-(intOf i).toNat)
 case atStart=>exact⟨0,ge _,rfl,gb (λj o=>by omega)⟩
 case round=>
  obtain⟨k,s,rfl,hH⟩:=hrel;by_cases c:k<18
  ·have r:=f.out k c;have v:(k:Int)<18:=Oa;have bt:=gd (vF.getD k 0≠p->∀j,j<k+1->vF.getD j 0≠p) (λh j o=>PD);have ex:=gb (l.out k c);clear b a hH;generalize vF.getD k 0=y at*;by_cases he:y=p
   ·exact Qr
   ·have hq:(p==y)=false:=(by grind);exact Mg
  ·obtain rfl:k=18:=(by omega);have HE:=gb (g.out hH.out);clear hH b a;exact Sc
def uF(n:Nat)(x:Int):Bool:=decide (x<0)||decide ((n:Int)<=x)
def jV(l:gP):Int:=if 12<l.length then 3 else if l.any (uF l.length)then 1 else if l.Nodup then 0 else 6
def LD(l:gP):np:=(List.range 12).map λc:Nat=>Value.int .i64 ((l.count (c:Int):Nat):Int)
theorem Tv{l:gP}{c:Nat}(h:c<12):(LD l)[c]? =some (.int .i64 ((l.count (c:Int):Nat):Int)):=by simp[LD,h]
theorem afg{l:gP}{c:Nat}(h:c<12):(LD l).set c (.int .i64 ((l.count (c:Int):Nat)+1:Int))=LD (l++[(c:Int)]):=by
 refine ib λi=> ?_
 grind [LD]
theorem Fy{l:gP}{n:Nat}(h:∀x∈l,0<=x/\x<(n:Int)):l.Nodup↔∀c:Nat,c<n->l.count (c:Int)<=1:=by
 rw[List.nodup_iff_count];constructor
 ·grind
 ·intro b x;by_cases a:x∈l
  ·obtain⟨d,e⟩:=h x a;obtain⟨c,rfl⟩:∃c:Nat,x=(c:Int):=⟨x.toNat,by omega⟩
   grind
  grind
theorem ug{n:Nat}{x:Int}(h:x<0\/(n:Int)<=x):uF n x=true:=by grind [uF]
theorem rX{n:Nat}{x:Int}:uF n x=false↔0<=x/\x<(n:Int):=by simp[uF]
theorem C7{l:gP}(h:12<l.length):jV l=3:=by simp[jV,h]
theorem C8{l:gP}{k:Nat}(h:¬12<l.length)(a:k<l.length)(b:uF l.length (l[k]?.getD 0)=true):jV l=1:=by
 have:l.any (uF l.length)=true:=iG.2 ⟨l[k],iH a,by grind⟩;unfold jV
 grind
theorem IM{l:gP}(h:¬12<l.length)(a:∀x∈l,0<=x/\x<(l.length:Int)):jV l=if l.Nodup then 0 else 6:=by
 have:¬l.any (uF l.length)=true:=by
  grind [rX]
 unfold jV
 grind
theorem wx{l:gP}{N k:Nat}(b:l.length=N)(d:k=N)(h:∀j:Nat,j<k->uF N (l[j]?.getD 0)=false):∀x∈l,0<=x/\x<(N:Int):=by
 intro x a;obtain⟨j,c,rfl⟩:=l0.1 a
 grind [rX]
theorem xh(v:Value)(l:gP)(w:World)(g:Sl w v l):
 Calls prog 112 #[v] w λe r=>e= .returned (.int .i64 (jV l))/\gm w r:=by
 obtain⟨K,k,N,rfl,hN,X,ay⟩:=g.open;by_cases cN:12<N
 ·have HE:=gb (C7 (l:=l) S6);clear g;go_enter func112,ntmps112;exact QW
 ·have s:=gb (λ(j:Nat)(h:j<N)(O:uF N (l[j]?.getD 0)=true)=>C8 (l:=l) (k:=j) S6 ON (by rw[hN.out];exact O));have H:=gb (λ(h:∀F∈l,0<=F/\F<(N:Int))=>IM (l:=l) S6 ON);clear g;go_enter func112,ntmps112;go_wp2;have y:hU (w.alloc (.cells (List.replicate 12 (Value.int .i64 0)).toArray 177)) w.heap.size 177 (LD (l.take 0)):=hU.new w _ _;have z:Below w.heap.size w (w.alloc (.cells (List.replicate 12 (Value.int .i64 0)).toArray 177)):=(f0 _ _).alloc (fZ _) _;go_loopw [13] (λi wr=>∃k:Nat,k<=N/\i= .int .i64 k/\hU wr w.heap.size 177 (LD (l.take k))/\Hid (∀j:Nat,j<k->uF N (l[j]?.getD 0)=false)/\gm w wr) (λi _=>N-(intOf i).toNat)
  case atStart=>exact⟨0,ge _,rfl,y,gb (λj B=>by omega),z⟩
  case round=>
   obtain⟨k,V,rfl,ds,bg,J⟩:=hrel;clear y z;by_cases a:k<N
   ·obtain⟨L,P,rfl,M,hc⟩:=ay Oa;have c1:=(J.cell (p:=⟨L,P+k,none⟩) M).trans (hc k a);by_cases f:l[k]?.getD 0<0
    ·have HP:=gb (s.out k a (ug (.inl f)));exact U6
    by_cases x:(N:Int)<=l[k]?.getD 0
    ·have HP:=gb (s.out k a (ug (.inr x)));exact U6
    ·obtain⟨c,A⟩:∃c:Nat,l[k]?.getD 0=(c:Int):=⟨(l[k]?.getD 0).toNat,by omega⟩;have R:c<N:=Oa;have q:=ds.cell c;rw[Tv Oa]at q;have T:=ds.frozen c;have S:(l.take k).count (c:Int)<=k:=gt lZ Oo;obtain⟨o,D⟩:=ds.stored c (.int .i64 (((l.take k).count (c:Int):Nat)+1:Int));have C:l.take (k+1)=l.take k++[(c:Int)]:=by
      have W:k<l.length:=by rw[hN.out];exact a
      grind [List.take_add_one]
     rw[afg Oa,<-C]at o;have t:=gR o (J.grown D J.size (λY e=>by grind));have d:=gd (∀j:Nat,j<k+1->uF N (l[j]?.getD 0)=false) (λj B=>P8);rw[A]at c1;clear ay hc ds f x bg o D C A;generalize (l.take k).count (c:Int)=m at*;go_wp2;go_roundw
     case rel=>exact⟨k+1,by omega,by go_num,t.out.1,d,t.out.2⟩
     case measure=>exact gQ
   ·obtain rfl:N=k:=(by omega);have n:=wx hN.out rfl bg.out;have HE:=gb (H.out n);have I:=gb (Fy n);have E:l.take N=l:=ie MJ;rw[E]at ds;have G:=gb ds;have HB:=gb J;have Q:=gb (λc:Nat=>gt (lZ (a:=(c:Int)) (l:=l)) (by rw[hN.out];exact fZ _));clear ds J n E bg;go_wp2;go_loopw [35] (λi r=>∃j:Nat,j<=N/\i= .int .i64 j/\r=wr/\Hid (∀c:Nat,c<j->l.count (c:Int)<=1)) (λi _=>N-(intOf i).toNat)
    case atStart=>exact⟨0,ge _,rfl,rfl,gb (λc hc=>by omega)⟩
    case round=>
     obtain⟨j,B,rfl,rfl,b⟩:=hrel;by_cases U:j<N
     ·have q:=G.out.cell j;rw[Tv Oa]at q;by_cases f:l.count (j:Int)<=1
      ·have d:=gd (∀c:Nat,c<j+1->l.count (c:Int)<=1) (λc hc=>by
        by_cases e:c=j
        ·grind
        ·exact b.out c Oa)
       clear b;generalize l.count (j:Int)=m at*;go_wp2;go_roundw
       case rel=>exact⟨j+1,by omega,by go_num,by simp,d⟩
       case measure=>exact gQ
      ·have HP:=gd (jV l=6) (by rw[HE.out,gh];grind);clear b;generalize l.count (j:Int)=m at*;exact DA
     ·obtain rfl:N=j:=(by omega);have HP:=gd (jV l=0) (by rw[HE.out,gl (I.out.2 b.out)]);exact DA
theorem yt{l:gP}{N:Nat}(a:l.length=N):l.Nodup↔∀i j:Nat,i<N->j<i->l[i]?.getD 0≠l[j]?.getD 0:=by
 grind [List.pairwise_iff_getElem]
theorem uN(v:Value)(l:gP)(w:World)(s:Sl w v l):
 Calls prog 63 #[v] w λe n=>e= .returned (.int .i64 (jV l))/\∃O,n=w.drewN O:=by
 obtain⟨R,k,N,rfl,hN,T,b⟩:=s.open;by_cases cN:12<N
 ·have o:=gb (C7 (l:=l) S6);clear s;go_enter func63,ntmps63;go_wp2;go_ret;exact⟨by rw[o.out];rfl,0,rfl⟩
 ·have B:=gb (λ(j:Nat)(h:j<N)(L:uF N (l[j]?.getD 0)=true)=>C8 (l:=l) (k:=j) S6 ON (by rw[hN.out];exact L));have D:=gb (λ(h:∀x∈l,0<=x/\x<(N:Int))=>IM (l:=l) S6 ON);have A:=gb (yt hN.out);clear s;go_enter func63,ntmps63;go_wp2;go_loop [3] (λi=>∃k:Nat,k<=N/\i= .int .i64 k/\Hid (∀j:Nat,j<k->uF N (l[j]?.getD 0)=false)) (λi=>N-(intOf i).toNat)
  case atStart=>exact⟨0,ge _,rfl,gb (λj p=>by omega)⟩
  case round=>
   obtain⟨k,S,rfl,bg⟩:=hrel;by_cases y:k<N
   ·obtain⟨F,P,rfl,I,a⟩:=b Oa;have c1:=a k y;by_cases G:l[k]?.getD 0<0
    ·have HP:=gb (B.out k y (ug (.inl G)));clear b a;exact MZ
    by_cases H:(N:Int)<=l[k]?.getD 0
    ·have HP:=gb (B.out k y (ug (.inr H)));clear b a;exact MZ
    ·have be:=gd (∀j:Nat,j<k+1->uF N (l[j]?.getD 0)=false) (λj p=>P8);clear b a bg;exact UC
   ·obtain rfl:N=k:=(by omega);have o:=gb (D.out (wx hN.out rfl bg.out));clear bg;go_wp2;go_loopw [4,5] (λi _ n=>∃j m:Nat,j<=N/\i= .int .i64 j/\n=w.drewN m/\Hid (∀c d:Nat,c<j->d<c->l[c]?.getD 0≠l[d]?.getD 0)) (λi _ _=>N-(intOf i).toNat)
    case atStart=>exact⟨0,0,ge _,rfl,rfl,gb (λc d a _=>by omega)⟩
    case round=>
     obtain⟨j,m,p,rfl,rfl,g⟩:=hrel;by_cases C:j<N
     ·go_wp2;go_loopw [5] (λi n=>∃t m:Nat,t<=j/\i= .int .i64 t/\n=w.drewN m/\Hid (∀d:Nat,d<t->l[j]?.getD 0≠l[d]?.getD 0)) (λi _=>j-(intOf i).toNat)
      case atStart=>exact⟨0,m,ge _,rfl,rfl,gb (λd q=>by omega)⟩
      case round=>
       obtain⟨t,z,U,rfl,rfl,f⟩:=hrel;by_cases M:t<j
       ·obtain⟨F,P,rfl,I,a⟩:=b Oa;have c1:=a j C;have c2:=a t Oa;by_cases r:l[j]?.getD 0=l[t]?.getD 0
        ·have HP:=gd (jV l=6) (by rw[o.out,gh];intro h;exact A.out.1 h j t C M r);have J:(l[j]?.getD 0==l[t]?.getD 0)=true:=(by grind);clear b a f g r;generalize l[j]?.getD 0=x at*;generalize l[t]?.getD 0=Q at*;go_wp2;go_quiet (fail);go_wp2;go_ret;exact⟨by rw[HP.out];rfl,z+nq,by simp_all⟩
        ·have J:(l[j]?.getD 0==l[t]?.getD 0)=false:=by grind
         have E:=gd (∀d:Nat,d<t+1->l[j]?.getD 0≠l[d]?.getD 0) (λd q=>by
          by_cases e:d=t
          ·grind
          ·exact f.out d Oa)
         clear b a f g r;generalize l[j]?.getD 0=x at*;generalize l[t]?.getD 0=Q at*;go_wp2;go_quiet (fail);go_wp2;go_roundw
         case rel=>exact⟨t+1,z+nq,by omega,by go_num,rfl,E⟩
         case measure=>exact gQ
       ·obtain rfl:j=t:=by omega
        have be:=gd (∀c d:Nat,c<j+1->d<c->l[c]?.getD 0≠l[d]?.getD 0) (λc d a q=>by
         by_cases e:c=j
         ·rw[e];exact f.out d Oa
         ·exact g.out c d Oa q)
        clear b f g;go_wp2;go_roundw
        case rel=>exact⟨j+1,z,by omega,by go_num,rfl,be⟩
        case measure=>exact gQ
     ·obtain rfl:N=j:=(by omega);have HP:=gd (jV l=0) (by rw[o.out,gl (A.out.2 (λi j K p=>g.out i j K p))]);go_wp2;go_ret;exact⟨by rw[HP.out];rfl,m,rfl⟩
def fL(l:gP)(c:Nat):Nat:=(l[c]?.getD 0).toNat
structure Wh(l:gP)(N:Nat)(f:Nat->Nat):Prop where
 len:l.length=N
 n12:N<=12
 pm:Pm N f
 at':∀c,c<N->l[c]?.getD 0=(f c:Int)
theorem IQ{l:gP}(h:jV l=0):Wh l l.length (fL l):=by
 unfold jV at h;by_cases d:12<l.length
 ·exact Oa
 rw[gh d]at h;by_cases e:l.any (uF l.length)=true
 ·grind
 rw[gh e]at h;by_cases f:l.Nodup
 ·have a:∀c:Nat,c<l.length->0<=l[c]?.getD 0/\l[c]?.getD 0<(l.length:Int):=λc g=>by
   grind [List.getElem_mem,rX]
  refine⟨rfl,by omega,⟨λi b=> ?_,λi j b k p=> ?_⟩,λc g=> ?_⟩
  ·grind [fL]
  ·have n:=a i b;have o:=a j k;have q:l[i]?.getD 0=l[j]?.getD 0:=(by grind [fL]);have r:=(yt (l:=l) rfl).1 f
   grind
  grind [fL]
 grind
def uK(S:Nat->Bool):np:=(List.range 12).map λx=> .bool (S x)
theorem Cy{S:Nat->Bool}{c:Nat}(h:c<12):(uK S)[c]? =some (.bool (S c)):=by simp[uK,h]
theorem Wx{S:Nat->Bool}{c:Nat}(h:c<12):(uK S).set c (.bool true)=uK (λx=>x==c||S x):=by
 refine ib λi=> ?_
 grind [uK]
def lR(L:gA):gP:=L.map λx:Nat=>(x:Int)
theorem Av(L:gA)(x:Nat):lR (L++[x])=lR L++[(x:Int)]:=by simp[lR]
theorem oM(L:gA):(lR L).length=L.length:=by simp[lR]
def alg:Value->Nat
 | .slice _ n _=>n
 |_=>0
theorem WK(v:Value)(l:gP)(N:Nat)(f:Nat->Nat)(w:World)(hl:Sl w v l)(P:Wh l N f):
 Calls prog 113 #[v] w λe w'=>(∃u,e= .returned u/\OL w.heap.size w'.heap.size w' u ((mY f N N).map lR))/\gm w w':=by
 obtain⟨d,cp,a,rfl,hN,aU,af⟩:=hl.open;obtain rfl:a=N:=Kx;have aR:=P.n12;have r:=gb P.pm;have ah:=gb P.at';have am:=gb (λM (hi:M<a) k=>P.pm.it_lt hi k);clear hl P;go_enter func113,ntmps113;go_wp2;have q:hU (w.alloc (.cells (uK λ_=>false).toArray 178)) w.heap.size 178 (uK λ_=>false):=hU.new w _ _;have ac:Below w.heap.size w (w.alloc (.cells (uK λ_=>false).toArray 178)):=(f0 _ _).alloc (fZ _) _;go_loopw [3,10] (λaP M wr=>∃(k:Nat)(S:Nat->Bool),k<=a/\M= .int .i64 k/\hU wr w.heap.size 178 (uK S)/\Hid (∀x,x<a->(S x=true↔∃j,j<k/\na f j x))/\OL (w.heap.size+1) wr.heap.size wr aP ((mY f a k).map lR)/\gm w wr) (λ_ M _=>a-(intOf M).toNat)
 case atStart=>exact⟨0,λ_=>false,ge _,rfl,q,gb (λx _=>Iff.intro (λV=>by cases V) (λ⟨j,C,_⟩=>absurd C Oa)),OL.nil _ _ _,ac⟩
 case round=>
  obtain⟨k,S,hk,rfl,s,A,D,b⟩:=hrel;clear q ac;by_cases n:k<a
  ·have G:=gb (CG f a k);cases Q:tq f a k with
   |false=>
    rw[Q]at G;have W:S k=true:=(A.out k n).2 (r.out.lead_not n Q);have I:=s.cell k;rw[Cy Oa,W]at I;have h:=ju s D b
    have U:=gd (∀x,x<a->(S x=true↔∃j,j<k+1/\na f j x)) (λx hx=>by
     rw[A.out x hx];constructor
     ·grind
     ·rintro⟨j,C,F⟩;by_cases e:j=k
      ·subst e;obtain⟨j2,aF,aL⟩:=(A.out j n).1 W;exact⟨j2,aF,aL.trans F⟩
      grind)
    clear s D b A W;obtain⟨g,rfl⟩:∃g,g=wr:=⟨wr,rfl⟩;go_wp2;go_loopw [6,7] (λO x z=>O= .slice none 0 0/\x= .int .i64 k/\z=g) (λ_ _ _=>0)
    case atStart=>grind
    case round=>
     obtain⟨rfl,rfl,rfl⟩:=hrel;go_wp2;go_roundw
     case rel=>exact⟨k+1,S,by omega,by go_num,h.out.1,U,by rw[G.out];simpa using h.out.2.1,h.out.2.2⟩
     case measure=>exact gQ
   |true=>
    rw[Q]at G;have aI:=(r.out.lead_iff n).1 Q;obtain⟨-,aV,aW,-⟩:=r.out.per_spec n;have ai:=gb (r.out.per_spec n).1;have ax:=gb (λd i (b:i<ui f a k) (aA:d<i)=>r.out.it_unlike n b aA);have av:=gb (λx (V:na f k x)=>r.out.reach_small n V);generalize ui f a k=m at*;have ar:=gb (IJ f);have an:=gd (xO f 0 k=[]) rfl;have aS:=b.size;have ag:=s.lt;obtain⟨g,rfl⟩:∃g,g=wr:=⟨wr,rfl⟩;have h:=ju s D b;clear s D b;go_wp2;go_loopw [6,7] (λO x z=>∃(t:Nat)(o:Nat->Bool),t<=m/\x= .int .i64 (it f t k)/\OI g.heap.size z O (lR (xO f t k))/\hU z w.heap.size 178 (uK o)/\Hid (∀y,y<a->(o y=true↔(∃j,j<k/\na f j y)\/∃d,d<t/\y=it f d k))/\OL (w.heap.size+1) g.heap.size z u3 ((mY f a k).map lR)/\gm w z/\g.heap.size<=z.heap.size) (λO _ _=>m-alg O)
    case atStart=>exact⟨0,S,ge _,rfl,by rw[an.out];exact OI.nil _ _,h.out.1,gb (λy L=>by
     rw[A.out y L]
     grind),h.out.2.1,h.out.2.2,fZ _⟩
    case round=>
     obtain⟨t,o,ht,rfl,E,q,B,Y,b,aM⟩:=hrel;have T:=am.out k n t;have I:=q.cell (it f t k);rw[Cy Oa]at I;by_cases aN:t<m
     ·have H:o (it f t k)=false:=by
       cases e:o (it f t k)with
       |false=>rfl
       |true=>
        exfalso;rcases(B.out _ T).1 e with⟨j,C,F⟩|⟨d,ha,X⟩
        ·exact aI j C (F.trans (r.out.reach_symm n ⟨t,rfl⟩))
        ·exact ax.out d t aN ha X.symm
      rw[H]at I;have aT:=q.frozen (it f t k);obtain⟨ab,c⟩:=q.stored (it f t k) (.bool true);rw[Wx Oa]at ab
      have K:=E.kept c (by
       cases e:u6.ownBlock with
       |none=>grind
       |some i=>right;intro e2;have:=(E.lt i e).1;grind)
      have aJ:=Y.kept c (λi e=>by grind);have aB:=b.grown c b.size (λi e=>by grind);have aa:g.heap.size<=(wr.setCell ⟨w.heap.size,it f t k,none⟩ (.bool true)).heap.size:=gt aM c.size;obtain⟨qa,qc,R⟩:=K.len;have J:(lR (xO f t k)).length=t:=(by rw[oM,rY]);have aH:(lR (xO f t k)).length<=1000000000000:=Oa;obtain⟨i,aQ,rfl,aC,hc⟩:=af Oa;have ae:=hc (it f t k) T;rw[ah.out _ T]at ae
      have aw:=gd (∀y,y<a->((y==it f t k||o y)=true↔(∃j,j<k/\na f j y)\/∃d,d<t+1/\y=it f d k)) (λy L=>by
       rw[kD,B.out y L,kz]
       grind)
      have au:=gb (ar.out t k);have ak:=gd (it f (t+1) k=f (it f t k)) rfl;have al:=gb J;clear E q B Y c b H hc af J;generalize it f t k=x at*;go_wp2_with (at_builtin;refine g8 (wr.setCell ⟨w.heap.size,x,none⟩ (.bool true)) _ _ 45 rfl rfl underlying45 info3 g.heap.size _ _ rfl K rfl aH aa ?_;intro az ay w1 Z c aD aE;have ad:=(K.mono (ly ag)).grown aB c (gt (ly ag) aa);have c2:=(ad.cell (p:=⟨i,aQ+x,none⟩) aC).trans ae);go_roundw
      case rel=>exact⟨t+1,_,by omega,by rw[ak.out],Z.cast (by rw[au.out,Av]),ab.kept c (by
       intro e;have:=(K.lt w.heap.size e.symm).1
       omega),aw,aJ.kept c (λb' e=> .inr (K.lt b' e).1),ad,gt aa c.size⟩
      case measure=>rw[R];simp only[alg,al.out];omega
     ·obtain rfl:m=t:=(by omega);have H:o (it f m k)=true:=(B.out _ T).2 (.inr ⟨0,by omega,ai.out⟩);rw[H]at I
      have U:=gd (∀y,y<a->(o y=true↔∃j,j<k+1/\na f j y)) (λy L=>by
       rw[B.out y L];constructor
       ·rintro(⟨j,C,F⟩|⟨d,ha,X⟩)
        ·grind
        ·exact⟨k,by omega,d,X⟩
       ·rintro⟨j,C,F⟩;by_cases e:j=k
        ·subst e;exact .inr (av.out y F)
        grind)
      obtain⟨qa,qc,R⟩:=E.len;have J:(lR (xO f m k)).length=m:=(by rw[oM,rY]);rw[J]at R;subst R;have HQ:=gb E;have HA:=gb q;have HB:=gb b;have aG:((mY f a k).map lR).length<=k:=by
       grind [mY]
      obtain⟨vs,o1,o2,o3,o4⟩:=Y;have aO:vs.length<=1000000000000:=Oa;have ao:=gb o2;have ap:=gb o3;have aq:=gb o4;have hB:w.heap.size+1<=wr.heap.size:=Oa;have aj:=gd (mY f a (k+1)=mY f a k++[xO f m k]) (by rw[G.out];rfl);clear E q b J B H o2 o3 o4 aG G;generalize it f m k=x at*;go_wp2_with (at_builtin;refine jt wr _ _ 46 45 (.slice none 0 0) 24 rfl rfl underlying46 info45 rfl Oc (w.heap.size+1) _ vs rfl o1 rfl rfl aO hB ?_;intro az ay w1 Z c aD aE);go_roundw
      case rel=>
       have aK:=OL.snoc o1 ao.out ap.out aq.out HQ.out Oa Z c;refine⟨k+1,o,by omega,by go_num,HA.out.kept c ?_,U,by rw[aj.out,jf];exact aK,?_⟩
       ·exact QH
       ·exact HB.out.grown c HB.out.size (λi e=>by have:=(o1.lt i e).1;omega)
      case measure=>exact gQ
  ·obtain rfl:a=k:=(by omega);have h:=gR D b;clear s D b A;go_wp2;go_ret;exact⟨⟨_,rfl,h.out.1.mono Oa (fZ _)⟩,h.out.2⟩
theorem ke{P:Program}{ops:Array Oper}{rest:List Oper}{c:Oper}{a:Act}{w:World}{Q:Exit->Act->World->Prop}(g:c.guard=none)(d:TypeId)(x y:Operand)(i:c.op= .store d x y)
 (b:Nat) (dU:np) (j:a.eval x= .pointer (some ⟨b,0,none⟩)) (k:a.eval y= .agg dU.toArray) {t:TypeId} {xs:np} (hA:hU w b t xs) (hl:xs.length=dU.length)
 (hi:(P.info? d).map (·.size)=some dU.length) (f:dU.toArray.all (·.oneCell')=true)
 (h:∀e,hU e b t dU->w.grownBy e (some b)->wpList P ops Q rest (a.put c.dst undef) e):wpList P ops Q (c::rest) a w:=by
 refine iA g d x y i b 0 dU.toArray j k ?_ Oa f ?_
 ·have:=hA.there
  grind
 ·exact Dd
theorem rJ:∀n,n<=12->1<=lL n/\lL n<=479001600:=by
 intro n h;have:∀n,n<13->1<=lL n/\lL n<=479001600:=Oc
 grind
theorem rL(n:Nat)(w:World)(y:n<=12):
 Calls prog 152 #[.int .i64 n] w λj p=>j= .returned (.int .i64 (lL n:Nat))/\w=p:=by
 have b:=gb rJ;have g:=gd (∀k,lL (k+1)=(k+1)*lL k) (λk=>rfl);have a:=gd (lL 0=1/\lL 1=1) ⟨rfl,rfl⟩;generalize lL=F at*;go_enter func152,ntmps152;go_wp2;go_loop [3,4] (λl i=>∃k:Nat,1<=k/\(k<=n\/k=1)/\i= .int .i64 (k+1:Nat)/\l= .int .i64 (F k:Nat)) (λ_ i=>n+2-(intOf i).toNat)
 case atStart=>exact⟨1,fZ _,.inr rfl,rfl,by rw[a.out.2];rfl⟩
 case round=>
  obtain⟨k,v,t,rfl,rfl⟩:=hrel;obtain⟨q,r⟩:=b.out k Oa;by_cases x:k+1<=n
  ·have c:=gd (F (k+1)=(k+1)*F k) (g.out k);obtain⟨d,e⟩:=b.out (k+1) Oa;rw[c.out]at d e;have f:(((k+1)*F k:Nat):Int)=(F k:Int)*((k:Int)+1):=(by grind);have h:=gb f;have s:1<=(F k:Int)*((k:Int)+1)/\(F k:Int)*((k:Int)+1)<=479001600:=Oa;clear f d e;go_wp2;go_round
   case rel=>exact⟨k+1,by omega,by omega,by go_num,by rw[c.out,h.out]⟩
   case measure=>exact gQ
  ·go_wp2;go_ret;refine⟨?_,rfl⟩;by_cases o:n=0
   ·obtain rfl:k=1:=(by omega);rw[o,a.out.1,a.out.2];rfl
   ·obtain rfl:k=n:=(by omega);rfl
theorem abW{f:Nat->Nat}{N i:Nat}(P:Pm N f)(hi:i<N):kQ (λx=>if lj f i x=false then 1 else 0) (f i)=mr f N i:=by
 unfold mr;rw[<-Bi (λx=>if lj f i x=false then 1 else 0) N (ly (P.lt i hi))]
 grind
theorem Lj(f:Nat->Nat)(j x:Nat):lj f (j+1) x=(lj f j x||f j==x):=by
 grind [lj]
theorem IU{f:Nat->Nat}{N:Nat}(a:N<=12):∀i,i<=N->lK f N i<=i*5748019200
 |0,_=>by simp[lK]
 |i+1,h=>by
  have d:=IU (f:=f) a i Oa;have c:=(T7 f N i).2;have b:=(rJ (N-1-i) Oa).2;simp only[lK];have:mr f N i*lL (N-1-i)<=12*479001600:=gE Oa b;exact Oa
theorem IN(v:Value)(l:gP)(N:Nat)(f:Nat->Nat)(w:World)(E:Sl w v l)(P:Wh l N f):
 Calls prog 155 #[v] w λh J=>h= .returned (.int .i64 (lK f N N:Nat))/\J=w:=by
 obtain⟨am,cp,a,rfl,hN,ar,F⟩:=E.open;obtain rfl:a=N:=Kx;have ag:=P.n12;have y:=gb P.at';have ab:=gb P.pm.lt;have z:=gb (λk (j:k<a)=>abW P.pm j);have V:=gb (IU (f:=f) ag);have al:=gb (λk=>(T7 f a k).2);have Y:=gb (λ(I:Nat)(w:World)(hn:I<=12)=>rL I w hn);have Z:=gb rJ;have af:=gd (∀k,lK f a (k+1)=lK f a k+mr f a k*lL (a-1-k)) (λk=>rfl);have ae:=gd (lK f a 0=0) rfl;have T:=gb (Lj f);have M:=gd (∀x,lj f 0 x=false) (λx=>rfl);obtain⟨A,i⟩:∃A:Nat->Nat->Nat,A=λk t=>kQ (λx=>if lj f k x=false then 1 else 0) t:=⟨_,rfl⟩;have O:=gd (∀k t,A k (t+1)=A k t+if lj f k t=false then 1 else 0) (λk t=>by rw[i];rfl);have U:=gd (∀k,A k 0=0) (λk=>by rw[i];rfl);have Q:=gd (∀k,k<a->A k (f k)=mr f a k) (λk j=>by rw[i];exact z.out k j)
 have S:=gd (∀k t,A k t<=t) (λk t=>by
  rw[i];show kQ _ t<=t
  induction t with
  |zero=>exact fZ _
  |succ t ih=>
   grind [kQ])
 clear i E P z;generalize lK f a=R at*;generalize mr f a=L at*;generalize lj f=D at*;generalize lL=K at*;go_enter func155,ntmps155;go_wp2;go_loopw [3,4] (λaj p wr=>∃k:Nat,k<=a/\p= .int .i64 k/\aj= .int .i64 (R k:Nat)/\wr=w) (λ_ p _=>a-(intOf p).toNat)
 case atStart=>exact⟨0,ge _,rfl,by rw[ae.out];rfl,rfl⟩
 case round=>
  obtain⟨k,j,rfl,rfl,rfl⟩:=hrel;by_cases o:k<a
  ·obtain⟨an,ax,rfl,ao,n⟩:=F Oa;have c1:=n k o;rw[y.out k o]at c1;have aq:=ab.out k o;have W:=gb n;clear n F;go_wp2;go_loopw [5,6] (λak x r=>∃t:Nat,t<=f k/\x= .int .i64 t/\ak= .int .i64 (A k t:Nat)/\r=wr) (λ_ x _=>f k-(intOf x).toNat)
   case atStart=>exact⟨0,ge _,rfl,by rw[U.out];rfl,rfl⟩
   case round=>
    obtain⟨t,ht,rfl,rfl,rfl⟩:=hrel;have ah:=S.out k t;by_cases aw:t<f k
    ·have s:=gb (O.out k t);go_wp2;go_loopw [7,8] (λfr q r=>∃c:Nat,c<=k/\q= .int .i64 c/\fr= .bool (!(D c t))/\r=wr) (λ_ q _=>k-(intOf q).toNat)
     case atStart=>exact⟨0,ge _,rfl,by rw[M.out];rfl,rfl⟩
     case round=>
      obtain⟨c,n,rfl,rfl,rfl⟩:=hrel;by_cases ap:c<k
      ·have c2:=W.out c Oa;rw[y.out c Oa]at c2;have g:=T.out c t;have hq:((f c:Int) !=t)= !(f c==t):=by
        by_cases h:f c=t
        ·rw[h];simp
        ·have e2:¬(f c:Int)=t:=(by omega);rw[show(f c==t)=false by simpa using h];simpa using e2
       cases d:D c t with
       |true=>
        rw[d]at g;have b:=gd (D (c+1) t=true) (by rw[g];rfl);clear g;go_wp2;go_roundw
        case rel=>exact⟨c+1,by omega,by go_num,by rw[b.out];rfl,by simp⟩
        case measure=>exact gQ
       |false=>
        rw[d,kS]at g;have b:=gd (D (c+1) t=(f c==t)) g;clear g;generalize (f c==t)=bb at*;generalize (f c:Int)=ay at*;go_wp2;go_roundw
        case rel=>exact⟨c+1,by omega,by go_num,by rw[b.out],by simp⟩
        case measure=>exact gQ
      ·obtain rfl:k=c:=(by omega);cases d:D k t with
       |true=>
        have b:=gd (A k (t+1)=A k t) (by rw[s.out,d];rfl);clear d;go_wp2;go_roundw
        case rel=>exact⟨t+1,by omega,by go_num,by rw[b.out],by simp⟩
        case measure=>exact gQ
       |false=>
        have b:=gd (A k (t+1)=A k t+1) (by rw[s.out,d];rfl);clear d;go_wp2;go_roundw
        case rel=>exact⟨t+1,by omega,by go_num,by rw[b.out];go_num,by simp⟩
        case measure=>exact gQ
    ·obtain rfl:f k=t:=(by omega);have B:=Q.out k o;rw[B];have aa:=gb (Y.out (a-1-k) wr Oa);obtain⟨f1,f2⟩:=Z.out (a-1-k) Oa;have C:(a:Int)-1-k=((a-1-k:Nat):Int):=Oa;have X:=gb C;have H:=V.out k j;have av:R k<=12*5748019200:=gt H (iB _ Oa);have ad:=gb (af.out k);generalize K (a-1-k)=e at*;have ai:L k*e<=12*479001600:=gE Oa f2;have G:((L k*e:Nat):Int)=(L k:Int)*e:=gI _ _;have ac:=gd (((R (k+1):Nat):Int)=(R k:Int)+(L k:Int)*e) (by rw[ad.out,R8,G]);have au:0<=(L k:Int)*e/\(L k:Int)*e<=12*479001600:=Oa;clear C ai G B H ah;go_wp2_with fail;rw[X.out];refine aa.out.mono ?_;rintro h J ⟨rfl,rfl⟩;go_wp2;go_roundw
     case rel=>exact⟨k+1,by omega,by go_num,by rw[ac.out],by simp⟩
     case measure=>exact gQ
  ·obtain rfl:a=k:=(by omega);exact PO
def kR(n k:Nat):Nat->Nat
 |0=>k
 |j+1=>kR n k j%lL (n-1-j)
def iR(n k j:Nat):Nat:=kR n k j/lL (n-1-j)
def lS(n k:Nat):Nat->gA
 |0=>List.range n
 |j+1=>(lS n k j).eraseIdx (iR n k j)
def yK(n k:Nat):Nat->gA
 |0=>[]
 |j+1=>yK n k j++[(lS n k j).getD (iR n k j) 0]
theorem zh:∀n,0<lL n
 |0=>Oc
 |n+1=>aku Oa (zh n)
theorem Hn{n j:Nat}(h:j<n):lL (n-j)=(n-j)*lL (n-1-j):=by
 obtain⟨d,a⟩:∃d,n-j=d+1:=⟨n-j-1,by omega⟩;rw[a,show n-1-j=d by omega];rfl
theorem abI{n k:Nat}(a:k<lL n):∀j,j<=n->kR n k j<lL (n-j)
 |0,_=>a
 |j+1,h=>by
  simp only[kR];rw[show n-(j+1)=n-1-j by omega];exact iD _ (zh _)
theorem Aq{n k:Nat}(b:k<lL n){j:Nat}(h:j<n):iR n k j<n-j:=by
 have a:=abI b j Oa;rw[Hn h]at a;unfold iR;rw[jR (zh _)];exact a
theorem rf{n k:Nat}(a:k<lL n):∀j,j<=n->(lS n k j).length=n-j
 |0,_=>by simp[lS]
 |j+1,h=>by
  have b:=rf a j Oa;have c:=Aq a (show j<n by omega);simp only[lS]
  grind
theorem Vs(n k:Nat):∀j,(yK n k j).length=j
 |0=>rfl
 |j+1=>by simp[yK,Vs n k j]
theorem tW(n k:Nat):∀j,(lS n k j).Pairwise (·< ·)
 |0=>List.pairwise_lt_range
 |j+1=>(tW n k j).sublist (aia _ _)
theorem Fg(n k:Nat):∀j,∀x∈lS n k j,x<n
 |0,x,h=>gC.1 h
 |j+1,x,h=>Fg n k j x ((aia _ _).mem h)
def z6(L:gA)(t:Nat):Nat:=L.countP (λx=>decide (x<t))
theorem G9(L:gA):z6 L 0=0:=by
 grind [z6]
theorem z7:∀(L:gA)(t:Nat),L.Pairwise (·< ·)->z6 L (t+1)=z6 L t+if t∈L then 1 else 0
 |[],t,_=>by simp[z6]
 |y::L,t,h=>by
  obtain⟨c,a⟩:=kM.1 h;have b:=z7 L t a;unfold z6 at b⊢
  grind
theorem LF:∀(L:gA)(i:Nat),L.Pairwise (·< ·)->i<L.length->z6 L (L.getD i 0)=i
 |[],i,_,h=>by simp at h
 |y::L,0,h,_=>by
  grind [List.pairwise_cons,z6]
 |y::L,i+1,h,e=>by
  obtain⟨a,b⟩:=kM.1 h;have d:=LF L i b (by grind);have c:L.getD i 0∈L:=by
   grind
  have:=a _ c;unfold z6 at d⊢
  grind
theorem G8(L:gA){s t:Nat}(h:s<=t):z6 L s<=z6 L t:=by
 unfold z6;exact List.countP_mono_left (λx _ a=>by grind)
theorem wu{L:gA}{i:Nat}(h:L.Pairwise (·< ·))(hi:i<L.length)(x:Nat):x∈L.eraseIdx i↔x∈L/\x≠L.getD i 0:=by
 have d:L.getD i 0=L[i]:=by grind
 have j:∀a b (c:a<L.length) (f:b<L.length),L[a]=L[b]->a=b:=by
  grind [List.pairwise_iff_getElem]
 rw[List.mem_eraseIdx_iff_getElem,d];constructor
 ·grind
 ·rintro⟨e,g⟩;obtain⟨a,c,rfl⟩:=l0.1 e
  grind
def Jy(n k j:Nat):List Bool:=(List.range n).map λx=> !((lS n k j).contains x)
theorem zJ(n k j:Nat):(Jy n k j).length=n:=by simp[Jy]
theorem zI(n k j x:Nat)(h:x<n):(Jy n k j)[x]? =some (!((lS n k j).contains x)):=by simp[Jy,h]
theorem aeb(n k:Nat):Jy n k 0=List.replicate n false:=by
 apply ib
 grind [zI,lS,zJ]
theorem aea{n k:Nat}(a:k<lL n){j:Nat}(b:j<n):Jy n k (j+1)=(Jy n k j).set ((lS n k j).getD (iR n k j) 0) true:=by
 have f:=rf a j Oa;have d:=Aq a b;have c:=wu (tW n k j) (show iR n k j<(lS n k j).length by omega);apply ib;intro x;by_cases h:x<n
 ·rw[zI n k (j+1) x h];generalize (lS n k j).getD (iR n k j) 0=X at*;have g:=c x;simp only[lS];by_cases e:X=x
  ·subst e;rw[List.getElem?_set_self (by grind [zJ])]
   grind
  ·rw[List.getElem?_set_ne e,zI n k j x h]
   grind
 grind [zJ]
theorem X6{n k:Nat}(b:k<lL n){j:Nat}(i:j<n):
 let L:=lS n k j;let X:=L.getD (iR n k j) 0
 X<n/\L.contains X=true/\(∀t,t<=X->z6 L t<=iR n k j)/\z6 L X=iR n k j/\z6 L 0=0/\(∀t,z6 L (t+1)=z6 L t+if L.contains t=true then 1 else 0)/\(∀t,t<X->L.contains t=true->z6 L t<iR n k j):=by
 intro L X;have q:=rf b j Oa;have p:=Aq b i;have l:=tW n k j;have h:iR n k j<L.length:=by grind
 have c:X∈L:=by
  grind
 have d:∀t,z6 L (t+1)=z6 L t+if L.contains t=true then 1 else 0:=λt=>by
  grind [z7]
 have a:z6 L X=iR n k j:=LF L _ l h;refine⟨Fg n k j X c,List.contains_iff_mem.2 c,λt e=> ?_,a,G9 L,d,λt e g=> ?_⟩
 ·rw[<-a];exact G8 L e
 ·have f:=d t;rw[gl g]at f;have o:=G8 L (show t+1<=X by omega);exact Oa
end Go.Proofs.YtnnaadmegeeinaaGreatDoor
