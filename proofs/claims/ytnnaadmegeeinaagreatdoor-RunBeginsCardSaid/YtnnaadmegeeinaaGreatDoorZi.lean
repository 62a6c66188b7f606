/-
  Part 9 of a proof: what it proves stands in the last text.
-/
import Derived.Test.YtnnaadmegeeinaaGreatDoorZh
import Derived.BigQuiet
import Derived.Test.YtnnaadmegeeinaaGreatDoorZd
import Derived.Test.YtnnaadmegeeinaaGreatDoorZa
import Derived.Test.YtnnaadmegeeinaaGreatDoorZc
import Derived.Deep.RegionLawGrows
import Derived.Lib.SliceRun
import Derived.Test.YtnnaadmegeeinaaGreatDoorZe
import Derived.Shelf.Bits.Mul64
import Derived.Deep.QuietTactic
import Derived.Shelf.Strconv.AtoiAll
set_option linter.unusedVariables false
set_option maxHeartbeats 8000000
set_option maxRecDepth 100000
namespace Go.Proofs.YtnnaadmegeeinaaGreatDoor
open Go.RowKit
def arS (v r:Nat) (l:List Int) (p:Nat×Nat):List Int:=(l.set ((p.1+r)%v) (((p.2+r)%v:Nat):Int)).set ((p.2+r)%v) (((p.1+r)%v:Nat):Int)
def ar0 (v r:Nat):List Int:=((List.replicate (v+1) (0:Int)).set v (r:Int)).set r (v:Int)
def arL (v r:Nat) (ps:List (Nat×Nat)):List Int:=ps.foldl (arS v r) (ar0 v r)
theorem arS_len (v r:Nat) (l:List Int) (p:Nat×Nat):(arS v r l p).length=l.length:=by simp[arS]
theorem arL_take (v r:Nat) (ps:List (Nat×Nat)) (k:Nat) (hk:k<ps.length):arL v r (ps.take (k+1))=arS v r (arL v r (ps.take k)) (ps.getD k (0,0)):=by
 rw[List.take_add_one,List.getElem?_eq_getElem hk]
 simp only[arL,List.foldl_append,Option.toList_some,List.foldl_cons,List.foldl_nil]
 simp[List.getD_eq_getElem?_getD,List.getElem?_eq_getElem hk]
theorem arL_len (v r:Nat):∀(ps:List (Nat×Nat)) (l:List Int),(ps.foldl (arS v r) l).length=l.length
 |[],l=>rfl
 |p::ps,l=>by rw[List.foldl_cons,arL_len v r ps,arS_len]
theorem tm_nat (a b v:Nat):((a:Int)+(b:Int)).tmod (v:Int)=(((a+b)%v:Nat):Int):=by
 rw[←Int.natCast_add,Int.ofNat_tmod]
theorem around_ok (v r:Nat) (u:Value) (ps:List (Nat×Nat)) (w:World) (h0:0<v) (hv:v≤64) (hr:r<v) (hl:PR w u ps) (hp:∀p∈ps,p.1<v∧p.2<v):
 Calls Tryz.prog 266 #[.int .i64 v,.int .i64 r,u] w fun e w'=>(∃u',e= .returned u'∧OI w.heap.size w' u' (arL v r ps))∧Below w.heap.size w w':=by
 have HLEN:Hid (∀k,(arL v r (ps.take k)).length=v+1):=hid (fun k=>by unfold arL;rw[arL_len];simp[ar0])
 have HST:=hid (arL_take v r ps)
 have HP:Hid (∀k,k<ps.length→(ps.getD k (0,0)).1<v∧(ps.getD k (0,0)).2<v):=hid (fun k hk=>hp _ (by
  rw[List.getD_eq_getElem?_getD,List.getElem?_eq_getElem hk];exact List.getElem_mem _))
 have HTK:Hid (arL v r (ps.take ps.length)=arL v r ps):=hid (by rw[List.take_length])
 have HT0:Hid (arL v r (ps.take 0)=((List.replicate (v+1) (0:Int)).set v (r:Int)).set r (v:Int)):=hid rfl
 obtain⟨a,c,N,rfl,hN,hl1,hl2⟩:=hl.open
 rw[hN.out]at HST HP HTK
 have hr2:(r:Int)<(v:Int)+1:=by omega
 have hv2:(v:Int)<(v:Int)+1:=by omega
 have hcast:Hid (((v:Int)+1)=((v+1:Nat):Int)):=hid (by omega)
 clear hp hl
 generalize arL v r ps=R at*
 obtain⟨D,hD⟩:∃D:Nat→List Int,D=fun k=>arL v r (ps.take k):=⟨_,rfl⟩
 have HD:Hid (∀k,arL v r (ps.take k)=D k):=hid (fun k=>by rw[hD])
 clear hD
 go_enter Tryz.func266,Tryz.ntmps266
 go_wp2_with (at_make;refine wpList_mk (w:=w) _ _ 45 3 (.int .i64 0) 8 rfl rfl Tryz.underlying45 Tryz.info3 rfl (by decide) w.heap.size _ (v+1) rfl rfl hcast.out (by omega) (Nat.le_refl _) ?_;intro w3 hs3 hgr3 hz3;have ho3:OI w.heap.size w3 (.slice (some ⟨w.heap.size,0,none⟩) (v+1) (v+1)) (List.replicate (v+1) (0:Int)):=(by unfold OI;rw[List.map_replicate];exact hs3);have c1:=ho3.cell v (by simp);have f1:=ho3.frozen v;have q1:=ho3.stored v (r:Int);have c2:=q1.1.cell r (by simp;omega);have f2:=q1.1.frozen r;have q2:=q1.1.stored r (v:Int);have HX:=hid (And.intro q2.1 ((((Below.refl w.heap.size w).grown hgr3 (Nat.le_refl _) (fun k h=>by cases h)).grown q1.2 (Nat.le_of_lt hz3) (fun k h=>by cases h;exact Nat.le_refl _)).grown q2.2 (Nat.le_trans (Nat.le_of_lt hz3) q1.2.size) (fun k h=>by cases h;exact Nat.le_refl _)));clear hs3 hgr3 ho3 q1 q2)
 go_loopw [25] (fun i wr=>∃k:Nat,k≤N∧i= .int .i64 k∧OI w.heap.size wr (.slice (some ⟨w.heap.size,0,none⟩) (v+1) (v+1)) (D k)∧Below w.heap.size w wr∧w.heap.size<wr.heap.size) (fun i _=>N-(intOf i).toNat)
 case atStart=>exact⟨0,Nat.zero_le _,rfl,HX.out.1.cast ((HD.out 0).symm.trans HT0.out).symm,HX.out.2,Nat.lt_of_lt_of_le hz3 (by simp[World.setCell])⟩
 case round=>
  clear HX
  obtain⟨k,hk,rfl,ho,hb,hwl⟩:=hrel
  by_cases hlt:k<N
  ·obtain⟨b,rfl,hblt,hc⟩:=hl2 (by omega)
   obtain⟨c1,c2⟩:=hc k hlt
   have c1:=(hb.cell (p:=⟨b,k*2,none⟩) hblt).trans c1
   have c2:=(hb.cell (p:=⟨b,k*2+1,none⟩) hblt).trans c2
   obtain⟨p1,p2⟩:=HP.out k hlt
   have hst:=HST.out k hlt
   rw[HD.out,HD.out]at hst
   have HS:=hid hst
   clear hst hl2 hc
   generalize (ps.getD k (0,0))=pq at*
   obtain⟨x,y⟩:=pq
   simp only at p1 p2 c1 c2
   have m1:=tm_nat x r v
   have m2:=tm_nat y r v
   have b1:(x+r)%v<v:=Nat.mod_lt _ h0
   have b2:(y+r)%v<v:=Nat.mod_lt _ h0
   have HSS:Hid (D (k+1)=((D k).set ((x+r)%v) (((y+r)%v:Nat):Int)).set ((y+r)%v) (((x+r)%v:Nat):Int)):=HS
   have hDl:Hid ((D k).length=v+1):=hid (by rw[←HD.out];exact HLEN.out k)
   have HW:=hid (And.intro (ho.alloc (.cells #[.int .i64 x,.int .i64 y] 202)) (And.intro (hb.alloc hb.size (.cells #[.int .i64 x,.int .i64 y] 202)) (Nat.lt_trans hwl (pl_lt wr (.cells #[.int .i64 x,.int .i64 y] 202)))))
   have d1:=pl0 wr (.int .i64 x) (.int .i64 y) 202
   have d2:=pl1 wr (.int .i64 x) (.int .i64 y) 202
   clear HS ho hb
   generalize (x+r)%v=x' at*
   generalize (y+r)%v=y' at*
   go_wp2
   generalize wr.alloc (.cells #[.int .i64 x,.int .i64 y] 202)=w4 at*
   go_quiet (fail)
   have hbx:(x':Int)<(v:Int)+1:=by omega
   have hby:(y':Int)<(v:Int)+1:=by omega
   obtain⟨ho4,hb4,hl4⟩:=HW.out
   have ho5:OI w.heap.size (w4.drewN nq) (.slice (some ⟨w.heap.size,0,none⟩) (v+1) (v+1)) (D k):=ho4.drewN nq
   have hb5:=below_drewN hb4 nq
   have hl5:w.heap.size<(w4.drewN nq).heap.size:=hl4
   clear ho4 hb4 hl4 HW d1 d2
   generalize w4.drewN nq=w5 at*
   have e1:=ho5.cell x' (by rw[hDl.out];omega)
   have g1:=ho5.frozen x'
   have q1:=ho5.stored x' (y':Int)
   have e2:=q1.1.cell y' (by rw[List.length_set,hDl.out];omega)
   have g2:=q1.1.frozen y'
   have q2:=q1.1.stored y' (x':Int)
   rw[←HSS.out]at q2
   have HX:=hid (And.intro q2.1 (And.intro ((hb5.grown q1.2 hb5.size (fun k h=>by cases h;exact Nat.le_refl _)).grown q2.2 (Nat.le_trans hb5.size q1.2.size) (fun k h=>by cases h;exact Nat.le_refl _)) (Nat.lt_of_lt_of_le hl5 (Nat.le_trans q1.2.size q2.2.size))))
   clear q1 q2 ho5 hb5 hl5 hwl
   generalize (D k).getD x' 0=old1 at*
   generalize ((D k).set x' (y':Int)).getD y' 0=old2 at*
   go_wp2
   go_roundw
   case rel=>exact⟨k+1,by omega,by go_num,HX.out.1,HX.out.2.1,HX.out.2.2⟩
   case measure=>simp[intOf]<;>omega
  ·obtain rfl:k=N:=by omega
   have HX:=hid (And.intro (ho.cast ((HD.out k).symm.trans HTK.out)) hb)
   clear hl2 ho hb
   go_wp2
   go_ret
   exact⟨⟨_,rfl,HX.out.1⟩,HX.out.2⟩
def arR (v:Nat) (ps:List (Nat×Nat)) (k:Nat):List (List Int):=(List.range k).map fun r=>arL v r ps
theorem arR_len (v:Nat) (ps:List (Nat×Nat)) (k:Nat):(arR v ps k).length=k:=by simp[arR]
theorem arR_succ (v:Nat) (ps:List (Nat×Nat)) (k:Nat):arR v ps (k+1)=arR v ps k++[arL v k ps]:=by simp[arR,List.range_succ]
theorem rounds_ok (v:Nat) (u:Value) (ps:List (Nat×Nat)) (w:World) (h0:0<v) (hv:v≤64) (hl:PR w u ps) (hp:∀p∈ps,p.1<v∧p.2<v):
 Calls Tryz.prog 215 #[.int .i64 v,u] w fun e w'=>(∃u',e= .returned u'∧OL w.heap.size w'.heap.size w' u' (arR v ps v))∧Below w.heap.size w w':=by
 have HAR:=hid (fun r (w1:World) (hr:r<v) (h:Below w.heap.size w w1)=>around_ok v r u ps w1 h0 hv hr (hl.below h) hp)
 have HS:=hid (arR_succ v ps)
 have HL:=hid (arR_len v ps)
 have H0:Hid (arR v ps 0=[]):=hid rfl
 obtain⟨a,c,N,rfl,hN,hl1,hl2⟩:=hl.open
 clear hp hl hl2
 have HAL:Hid (∀r,arL v r ps=arL v r ps):=hid fun r=>rfl
 generalize hF:(fun k=>arR v ps k)=F at*
 have HF:Hid (∀k,arR v ps k=F k):=hid (fun k=>by rw[←hF])
 clear hF
 go_enter Tryz.func215,Tryz.ntmps215
 go_wp2
 go_loopw [5,8] (fun s i wr=>∃k:Nat,k≤v∧i= .int .i64 k∧OL w.heap.size wr.heap.size wr s (arR v ps k)∧Below w.heap.size w wr) (fun _ i _=>v-(intOf i).toNat)
 case atStart=>exact⟨0,Nat.zero_le _,rfl,by rw[H0.out];exact OL.nil _ _ _,Below.refl _ _⟩
 case round=>
  obtain⟨k,hk,rfl,ho,hb⟩:=hrel
  by_cases hlt:k<v
  ·have HC:=hid (HAR.out k wr hlt hb)
   have HO:=hid ho
   have HB:=hid hb
   clear ho hb
   go_wp2_with fail
   refine HC.out.mono ?_
   rintro e w2 ⟨⟨u2,rfl,hu2⟩,hb2⟩
   obtain⟨a9,c9,e9⟩:=hu2.len
   generalize hLA:(arL v k ps).length=la at*
   subst e9
   have HQ:=hid hu2
   obtain⟨vs,o1,o2,o3,o4⟩:=HO.out.below hb2
   have hvs:vs.length≤1000000000000:=by
    have:=HL.out k
    omega
   have HO2:=hid o2
   have HO3:=hid o3
   have HO4:=hid o4
   have hB:w.heap.size≤w2.heap.size:=Nat.le_trans HB.out.size hb2.size
   have HB2:=hid (HB.out.trans (hb2.mono HB.out.size))
   have HW1:=hid HB.out.size
   clear hu2 hb2 o2 o3 o4
   go_wp2_with (at_builtin;refine wpList_app w2 _ _ 46 45 (.slice none 0 0) 24 rfl rfl Tryz.underlying46 Tryz.info45 rfl (by decide) w.heap.size _ vs rfl o1 rfl rfl hvs hB ?_;intro g3 c3 w4 hown1 hg1 hg2 hg3)
   have hol2:=OL.snoc o1 HO2.out HO3.out HO4.out HQ.out HW1.out hown1 hg1
   have HEND:=hid (And.intro hol2 (HB2.out.grown hg1 hB (fun b e=>(o1.lt b e).1)))
   clear hol2 hown1 hg1 hg2 hg3 o1
   go_roundw
   case rel=>exact⟨k+1,by omega,by go_num,by rw[HS.out];exact HEND.out.1,HEND.out.2⟩
   case measure=>simp[intOf]<;>omega
  ·obtain rfl:k=v:=by omega
   have HX:=hid (And.intro ho hb)
   clear ho hb
   go_wp2
   go_ret
   exact⟨⟨_,rfl,HX.out.1⟩,HX.out.2⟩
def tmB (n:Int):Bool:=decide (2≤n∧n≤16∧n%2=0)
theorem teams_any (n:Int) (w:World):
 Calls Tryz.prog 214 #[.int .i64 n] w fun e w'=>e= .returned (.bool (tmB n))∧w=w':=by
 by_cases h1:n<2
 ·have HB:Hid (tmB n=false):=hid (by simp[tmB];omega)
  go_enter Tryz.func214,Tryz.ntmps214
  go_wp2
  go_ret
  exact⟨by rw[HB.out];rfl,rfl⟩
 by_cases h2:16<n
 ·have HB:Hid (tmB n=false):=hid (by simp[tmB];omega)
  go_enter Tryz.func214,Tryz.ntmps214
  go_wp2
  go_ret
  exact⟨by rw[HB.out];rfl,rfl⟩
 obtain⟨m,rfl⟩:∃m:Nat,n=(m:Int):=⟨n.toNat,by omega⟩
 have hm:(m:Int).tmod 2=((m%2:Nat):Int):=(Int.ofNat_tmod m 2).symm
 have hm2:m%2<2:=Nat.mod_lt _ (by omega)
 have HB:Hid (tmB m=(((m%2:Nat):Int)==0)):=hid (by
  rw[Bool.eq_iff_iff,tmB,decide_eq_true_iff,beq_iff_eq]
  omega)
 go_enter Tryz.func214,Tryz.ntmps214
 go_wp2
 go_ret
 exact⟨by rw[HB.out];rfl,rfl⟩
end Go.Proofs.YtnnaadmegeeinaaGreatDoor
namespace Go.Proofs.YtnnaadmegeeinaaGreatDoor
def pr (ll:List (List Int)) (j a:Nat):Nat:=((ll.getD j [])[a]?.getD 0).toNat
end Go.Proofs.YtnnaadmegeeinaaGreatDoor
namespace Go.Proofs.YtnnaadmegeeinaaGreatDoor
section
variable {n:Nat} {p q:Nat→Nat}
def mk (n:Nat) (T:Nat→Bool):Nat:=((List.range n).filter T).length
end
end Go.Proofs.YtnnaadmegeeinaaGreatDoor
namespace Go.Proofs.YtnnaadmegeeinaaGreatDoor
open Go.RowKit
def Win (B:Nat) (w:World) (v:Value) (xs:List Int):Prop:=
 ∃b off c cs,v= .slice (some ⟨b,off,none⟩) xs.length c∧B≤b∧w.heap[b]? =some (.cells cs 3 (0,0))∧xs.length≤c∧c≤maxLen∧off+c≤cs.size∧∀i,i<xs.length→cs[off+i]? =some (.int .i64 (xs.getD i 0))
theorem Win.of_ow {B:Nat} {w:World} {v:Value} {xs:List Int} (h:OI B w v xs) (hn:1≤xs.length):Win B w v xs:=by
 rcases h.2 with⟨_,h0⟩|⟨g,cap,cur,rfl,hb,hg,hnc,hcm,hcs,htake⟩
 ·rw[List.length_map]at h0;omega
 ·rw[List.length_map]at*
  rw[Nat.mul_one]at*
  refine⟨g,0,cap,cur,rfl,hb,hg,hnc,hcm,by omega,fun i hi=> ?_⟩
  have h1:(cur.toList.take xs.length)[i]? =(xs.map (Value.int .i64))[i]? :=by rw[htake]
  rw[List.getElem?_take,if_pos hi]at h1
  rw[Nat.zero_add,←Array.getElem?_toList,h1]
  simp[hi]
theorem Win.lt {B b off n c:Nat} {w:World} {xs:List Int} (h:Win B w (.slice (some ⟨b,off,none⟩) n c) xs):B≤b∧b<w.heap.size∧n=xs.length∧n≤c:=by
 obtain⟨b',off',c',cs,e,hb,hg,hl,hm,hs,hc⟩:=h
 simp only[Value.slice.injEq,Option.some.injEq,Addr.mk.injEq,and_true]at e
 obtain⟨⟨rfl,rfl⟩,rfl,rfl⟩:=e
 exact⟨hb,(Array.getElem?_eq_some_iff.1 hg).1,rfl,hl⟩
theorem Win.form {B:Nat} {w:World} {v:Value} {xs:List Int} (h:Win B w v xs):∃b off c,v= .slice (some ⟨b,off,none⟩) xs.length c:=by
 obtain⟨b,off,c,cs,e,_⟩:=h
 exact⟨b,off,c,e⟩
theorem Win.cell {B b off n c:Nat} {w:World} {xs:List Int} (h:Win B w (.slice (some ⟨b,off,none⟩) n c) xs) (i:Nat) (hi:i<xs.length):w.cell? ⟨b,off+i,none⟩=some (.int .i64 (xs.getD i 0)):=by
 obtain⟨b',off',c',cs,e,hb,hg,hl,hm,hs,hc⟩:=h
 simp only[Value.slice.injEq,Option.some.injEq,Addr.mk.injEq,and_true]at e
 obtain⟨⟨rfl,rfl⟩,rfl,rfl⟩:=e
 simp[World.cell?,hg,hc i hi]
theorem Win.same {B b off n c:Nat} {w w':World} {xs:List Int} (h:Win B w (.slice (some ⟨b,off,none⟩) n c) xs) (e:w'.heap[b]? =w.heap[b]?):Win B w' (.slice (some ⟨b,off,none⟩) n c) xs:=by
 obtain⟨b',off',c',cs,e1,hb,hg,hr⟩:=h
 have e2:=e1
 simp only[Value.slice.injEq,Option.some.injEq,Addr.mk.injEq,and_true]at e2
 obtain⟨⟨rfl,rfl⟩,rfl,rfl⟩:=e2
 exact⟨_,_,_,cs,e1,hb,e.trans hg,hr⟩
theorem Win.slice1 {B b off n c:Nat} {w:World} {xs:List Int} (h:Win B w (.slice (some ⟨b,off,none⟩) n c) xs) (h1:1≤n) (off':Nat) (ho:off'=if c=1 then off else off+1):Win B w (.slice (some ⟨b,off',none⟩) (n-1) (c-1)) (xs.drop 1):=by
 obtain⟨b',o',c',cs,e1,hb,hg,hl,hm,hs,hc⟩:=h
 simp only[Value.slice.injEq,Option.some.injEq,Addr.mk.injEq,and_true]at e1
 obtain⟨⟨rfl,rfl⟩,rfl,rfl⟩:=e1
 have hlen:(xs.drop 1).length=xs.length-1:=by simp
 refine⟨b,off',c-1,cs,by rw[hlen],hb,hg,by omega,by omega,?_,fun i hi=> ?_⟩
 ·split at ho<;>omega
 ·rw[hlen]at hi
  rw[if_neg (by omega)]at ho
  subst ho
  have:=hc (1+i) (by omega)
  rw[←Nat.add_assoc]at this
  rw[this,List.getD_eq_getElem?_getD,List.getD_eq_getElem?_getD,List.getElem?_drop]
theorem step_win {P:Program} {ops:Array Oper} {o:Oper} {a:Act} {K:Act→World→Prop} {Q:Exit→Act→World→Prop} {R:Prop} {w:World} {x:Int} {H:Nat} (w0:World) (s y:Operand) (st:TypeId)
 (hgd:o.guard=none) (ho:o.op= .call {callee:= .builtin .append,args:= #[s,y],argTypes:= #[st,st]})
 (ht:P.underlying st=some (.slice 3)) (hi:(P.info? 3).map (fun i=>(i.zero,i.size,i.bytes))=some (some (.int .i64 0),1,8))
 (B b off n c:Nat) (xs:List Int) (hs:a.eval s= .slice (some ⟨b,off,none⟩) n c) (hwin:Win B w0 (.slice (some ⟨b,off,none⟩) n c) xs) (hy:a.eval y= .slice (some ⟨H,0,none⟩) 1 1)
 (hlen:xs.length≤1000000000000) (hB:B≤w0.heap.size)
 (h:∀v' w',Win B w' v' (xs++[x])→w0.grownBy w' (some b)→(∀g,v'.ownBlock=some g→g=b∨w0.heap.size≤g)→K (a.put o.dst v') w')
 (h0:Below w0.heap.size w0 w:=by first|exact(Below.refl _ _).alloc (Nat.le_refl _) _|exact((Below.refl _ _).alloc (Nat.le_refl _) _).drew|exact((Below.refl _ _).drew).alloc (Nat.le_refl _) _)
 (hcell:w.cell? ⟨H,0,none⟩=some (.int .i64 x):=by first|exact lit_cell _ _ _|exact lit_cell_drew _ _ _|exact lit_cell_at _ _ _ _ (by simp[World.setCell])|go_simp):
 if Region.wanted o (yielded ops a.tmps)=true then Oper.wp P o a w K Q else R:=by
 obtain⟨i0,hi1,hz0,hz1,hz2⟩:=info_parts hi
 have hwin2:=hwin
 obtain⟨b',o',c',cs,e1,hb,hg,hl,hm,hsz,hc⟩:=hwin2
 simp only[Value.slice.injEq,Option.some.injEq,Addr.mk.injEq,and_true]at e1
 obtain⟨⟨rfl,rfl⟩,rfl,rfl⟩:=e1
 have hblt:=(Array.getElem?_eq_some_iff.1 hg).1
 have hgw:w.heap[b]? =some (.cells cs 3 (0,0)):=(h0.block b hblt).trans hg
 have hnew:∀(j:Nat) (u:Value),[Value.int .i64 x][j]? =some u→w.cell? ((⟨H,0,none⟩:Addr).add j)=some u:=by
  intro j u hj
  match j,hj with
  |0,hj=>simp at hj;subst hj;simpa [Addr.add]using hcell
 have hone:∀u∈[Value.int .i64 x],u.oneCell'=true:=by intro u hu;simp at hu;subst hu;rfl
 by_cases hroom:xs.length+1≤c
 ·refine step_append_room hgd s y st ho 3 i0 1 ht hi1 hz1 b off xs.length c hs ⟨H,0,none⟩ 1 1 [.int .i64 x] hy rfl hnew hone hroom ?_ ?_
  ·intro j hj
   simp at hj
   subst hj
   constructor
   ·simp[World.cell?,hgw];omega
   ·simp[World.frozen?,hgw]
  ·have hset:(w.setCells b (off+xs.length*1) [.int .i64 x]).heap[b]? =some (.cells (cs.setIfInBounds (off+xs.length) (.int .i64 x)) 3 (0,0)):=by
    show(w.heap.modify b _)[b]? =_
    have hlt:b<w.heap.size:=(Array.getElem?_eq_some_iff.1 hgw).1
    rw[Array.getElem?_eq_getElem (by rw[Array.size_modify];exact hlt),Array.getElem_modify_self,(Array.getElem?_eq_some_iff.1 hgw).2]
    simp
   refine h _ _ ⟨b,off,c,_,by simp,hb,hset,by simp;omega,hm,by simpa using hsz,fun i hi=> ?_⟩ ?_ ?_
   ·rw[List.length_append]at hi
    simp at hi
    rw[Array.getElem?_setIfInBounds]
    by_cases e:i=xs.length
    ·subst e
     rw[if_pos rfl,if_pos (by omega)]
     simp
    ·rw[if_neg (by omega),hc i (by omega),List.getD_eq_getElem?_getD,List.getD_eq_getElem?_getD,List.getElem?_append_left (by omega)]
   ·refine⟨h0.os,h0.tape,h0.output,?_,fun k hk hne=> ?_⟩
    ·show w0.heap.size≤(w.heap.modify b _).size
     rw[Array.size_modify];exact h0.size
    ·exact(Below.heap_setCell w _ _ k (fun e=>hne (by rw[e]))).trans (h0.block k hk)
   ·intro g hg;simp[Value.ownBlock]at hg;exact .inl hg.symm
 ·have hmx:maxLen=9223372036854775807:=rfl
  refine step_append_grows hgd s y st ho 3 i0 (.int .i64 0) 1 8 ht hi1 hz0 hz1 hz2 rfl (by decide) (some ⟨b,off,none⟩) xs.length c (xs.map (Value.int .i64)) hs (by simp) (by simp) ?_ ⟨H,0,none⟩ 1 1 [.int .i64 x] hy rfl hnew hone (by omega) (by unfold maxLen;omega) (by omega) ?_
  ·intro b2 e j u hj
   cases e
   have hj2:j<xs.length:=by
    have:=(List.getElem?_eq_some_iff.1 hj).1
    simpa using this
   have hadd:(⟨b,off,none⟩:Addr).add j=⟨b,off+j,none⟩:=by unfold Addr.add;split<;>simp_all
   rw[hadd]
   simp[World.cell?,hgw,hc j hj2]
   simp[hj2]at hj
   rw[←hj]
   simp[hj2]
  ·intro v' w' hown hgr
   have hown':OI w.heap.size w' v' (xs++[x]):=by
    unfold OI Ow
    simpa using hown
   have hw:=Win.of_ow hown' (by simp)
   have hs0:=h0.size
   refine h v' w' ?_ ⟨hgr.os.trans h0.os,hgr.tape.trans h0.tape,hgr.output.trans h0.output,Nat.le_trans hs0 hgr.size,fun k hk hne=>(hgr.block k (by omega) (by simp)).trans (h0.block k hk)⟩ ?_
   ·obtain⟨b',o',c',cs',r1,r2,r3⟩:=hw
    exact⟨b',o',c',cs',r1,by omega,r3⟩
   ·intro g hg
    have:=(hown'.lt g hg).1
    right;omega
theorem clone_ints (b off n c:Nat) (l:List Int) (w:World) (hl:Sl w (.slice (some ⟨b,off,none⟩) n c) l) (hlen:l.length≤1000000000):
 Calls Tryz.prog 111 #[.slice (some ⟨b,off,none⟩) n c] w fun e w'=>(∃u,e= .returned u∧OI w.heap.size w' u l)∧Below w.heap.size w w':=by
 have hq:=fun W=>Lib.run_eql_slice_nil (P:=Tryz.prog) W 45 3 (some ⟨b,off,none⟩) n c 0 0 Tryz.underlying45
 go_enter Tryz.func111,Tryz.ntmps111
 go_wp2_with (at_builtin;refine wpList_apps (w:=w.alloc (.cells #[] 3)) _ _ 45 3 (.int .i64 0) 8 rfl rfl Tryz.underlying45 Tryz.info3 rfl (by decide) w.heap.size _ _ _ _ rfl (OI.lit0 w.heap.size w (Nat.le_refl _)) rfl (hl.below ((Below.refl _ _).alloc (Nat.le_refl _) _)) (ints_one _) (by simp;omega) (by simp) ?_;intro v' w1 ho1 hg1 hg2)
 go_ret
 exact⟨⟨_,rfl,OI.ofApp (l:=[]) ho1⟩,((Below.refl _ _).alloc (Nat.le_refl _) _).grown hg1 (by simp) (fun k e=>by cases e;exact Nat.le_refl _)⟩
end Go.Proofs.YtnnaadmegeeinaaGreatDoor
namespace Go.Proofs.YtnnaadmegeeinaaGreatDoor
open Go.RowKit Go.Shelf
def mulLaysRen:Ren:=⟨fun x=>match x with|264=>293|n=>n,fun x=>match x with|53=>188|46=>126|n=>n,fun n=>n⟩
theorem mulLays:Lays.n264 Tryz.prog mulLaysRen where
 mixed:=by kernel_rfl
 f264:=Tryz.func293.trans (congrArg some (by kernel_rfl))
 t46:=Tryz.underlying126
 a46:=Tryz.isAgg126
 z46:=Tryz.sizeOf126
 v46:=Tryz.zeroValue126
 t53:=Tryz.underlying188
 a53:=Tryz.isAgg188
 z53:=Tryz.sizeOf188
 v53:=Tryz.zeroValue188
theorem div64_low (x y:Nat) (w:World) (hx:x<18446744073709551616) (hy:y<18446744073709551616) (h0:0<y):
 Calls Tryz.prog 294 #[.int .u64 0,.int .u64 x,.int .u64 y] w fun e w'=>e= .returned (.tuple #[.int .u64 (x/y:Nat),.int .u64 (x%y:Nat)])∧∃n,w'=w.drewN n:=by
 have hy0:¬(y:Int)=0:=by omega
 have hyl:¬(y:Int)≤0:=by omega
 have e1:(x:Int).tdiv (y:Int)=((x/y:Nat):Int):=by rw[←Int.ofNat_tdiv]
 have e2:(x:Int).tmod (y:Int)=((x%y:Nat):Int):=by rw[←Int.ofNat_tmod]
 have b1:x/y≤x:=Nat.div_le_self _ _
 have b2:x%y≤x:=Nat.mod_le _ _
 generalize x/y=q at*
 generalize x%y=r at*
 go_enter Tryz.func294,Tryz.ntmps294
 go_wp2
 go_quiet (fail)
 go_wp2
 go_ret2
 exact⟨rfl,nq,rfl⟩
def lAtoiRen:Ren:=⟨fun x=>match x with|172=>107|244=>188|245=>189|247=>239|279=>240|280=>241|281=>242|282=>243|287=>278|316=>279|171=>99|205=>280|321=>300|322=>301|243=>179|246=>232|283=>273|284=>274|285=>275|286=>276|129=>296|317=>295|318=>297|319=>298|320=>299|337=>330|338=>331|n=>n,fun x=>match x with|9=>9|3=>3|75=>32|76=>33|4=>4|5=>5|167=>216|37=>26|0=>0|85=>217|2=>2|168=>219|53=>188|175=>252|46=>126|210=>255|127=>43|145=>275|143=>273|21=>21|171=>245|173=>248|212=>270|51=>160|20=>20|213=>271|232=>305|233=>306|80=>35|n=>n,fun x=>match x with|15=>4|16=>5|17=>6|18=>9|19=>10|n=>n⟩
theorem lAtoi:LaysC.n172 Tryz.prog lAtoiRen where
 mixed:=by kernel_rfl
 f129:=Tryz.func296.trans (congrArg some (by kernel_rfl))
 f171:=Tryz.func99.trans (congrArg some (by kernel_rfl))
 f172:=Tryz.func107.trans (congrArg some (by kernel_rfl))
 f205:=Tryz.func280.trans (congrArg some (by kernel_rfl))
 f243:=Tryz.func179.trans (congrArg some (by kernel_rfl))
 f244:=Tryz.func188.trans (congrArg some (by kernel_rfl))
 f245:=Tryz.func189.trans (congrArg some (by kernel_rfl))
 f246:=Tryz.func232.trans (congrArg some (by kernel_rfl))
 f247:=Tryz.func239.trans (congrArg some (by kernel_rfl))
 f279:=Tryz.func240.trans (congrArg some (by kernel_rfl))
 f280:=Tryz.func241.trans (congrArg some (by kernel_rfl))
 f281:=Tryz.func242.trans (congrArg some (by kernel_rfl))
 f282:=Tryz.func243.trans (congrArg some (by kernel_rfl))
 f283:=Tryz.func273.trans (congrArg some (by kernel_rfl))
 f284:=Tryz.func274.trans (congrArg some (by kernel_rfl))
 f285:=Tryz.func275.trans (congrArg some (by kernel_rfl))
 f286:=Tryz.func276.trans (congrArg some (by kernel_rfl))
 f287:=Tryz.func278.trans (congrArg some (by kernel_rfl))
 f316:=Tryz.func279.trans (congrArg some (by kernel_rfl))
 f317:=Tryz.func295.trans (congrArg some (by kernel_rfl))
 f318:=Tryz.func297.trans (congrArg some (by kernel_rfl))
 f319:=Tryz.func298.trans (congrArg some (by kernel_rfl))
 f320:=Tryz.func299.trans (congrArg some (by kernel_rfl))
 f321:=Tryz.func300.trans (congrArg some (by kernel_rfl))
 f322:=Tryz.func301.trans (congrArg some (by kernel_rfl))
 f337:=Tryz.func330.trans (congrArg some (by kernel_rfl))
 f338:=Tryz.func331.trans (congrArg some (by kernel_rfl))
 t0:=Tryz.underlying0
 a0:=Tryz.isAgg0
 z0:=Tryz.sizeOf0
 v0:=Tryz.zeroValue0
 t2:=Tryz.underlying2
 a2:=Tryz.isAgg2
 z2:=Tryz.sizeOf2
 v2:=Tryz.zeroValue2
 t3:=Tryz.underlying3
 a3:=Tryz.isAgg3
 z3:=Tryz.sizeOf3
 v3:=Tryz.zeroValue3
 t4:=Tryz.underlying4
 a4:=Tryz.isAgg4
 z4:=Tryz.sizeOf4
 v4:=Tryz.zeroValue4
 t5:=Tryz.underlying5
 a5:=Tryz.isAgg5
 z5:=Tryz.sizeOf5
 v5:=Tryz.zeroValue5
 t9:=Tryz.underlying9
 a9:=Tryz.isAgg9
 z9:=Tryz.sizeOf9
 v9:=Tryz.zeroValue9
 t20:=Tryz.underlying20
 a20:=Tryz.isAgg20
 z20:=Tryz.sizeOf20
 v20:=Tryz.zeroValue20
 t21:=Tryz.underlying21
 a21:=Tryz.isAgg21
 z21:=Tryz.sizeOf21
 v21:=Tryz.zeroValue21
 t37:=Tryz.underlying26
 a37:=Tryz.isAgg26
 z37:=Tryz.sizeOf26
 v37:=Tryz.zeroValue26
 t46:=Tryz.underlying126
 a46:=Tryz.isAgg126
 z46:=Tryz.sizeOf126
 v46:=Tryz.zeroValue126
 t51:=Tryz.underlying160
 a51:=Tryz.isAgg160
 z51:=Tryz.sizeOf160
 v51:=Tryz.zeroValue160
 t53:=Tryz.underlying188
 a53:=Tryz.isAgg188
 z53:=Tryz.sizeOf188
 v53:=Tryz.zeroValue188
 t75:=Tryz.underlying32
 a75:=Tryz.isAgg32
 z75:=Tryz.sizeOf32
 v75:=Tryz.zeroValue32
 t76:=Tryz.underlying33
 a76:=Tryz.isAgg33
 z76:=Tryz.sizeOf33
 v76:=Tryz.zeroValue33
 t85:=Tryz.underlying217
 a85:=Tryz.isAgg217
 z85:=Tryz.sizeOf217
 v85:=Tryz.zeroValue217
 t127:=Tryz.underlying43
 a127:=Tryz.isAgg43
 z127:=Tryz.sizeOf43
 v127:=Tryz.zeroValue43
 t143:=Tryz.underlying273
 a143:=Tryz.isAgg273
 z143:=Tryz.sizeOf273
 v143:=Tryz.zeroValue273
 t145:=Tryz.underlying275
 a145:=Tryz.isAgg275
 z145:=Tryz.sizeOf275
 v145:=Tryz.zeroValue275
 t167:=Tryz.underlying216
 a167:=Tryz.isAgg216
 z167:=Tryz.sizeOf216
 v167:=Tryz.zeroValue216
 t168:=Tryz.underlying219
 a168:=Tryz.isAgg219
 z168:=Tryz.sizeOf219
 v168:=Tryz.zeroValue219
 t171:=Tryz.underlying245
 a171:=Tryz.isAgg245
 z171:=Tryz.sizeOf245
 v171:=Tryz.zeroValue245
 t173:=Tryz.underlying248
 a173:=Tryz.isAgg248
 z173:=Tryz.sizeOf248
 v173:=Tryz.zeroValue248
 t175:=Tryz.underlying252
 a175:=Tryz.isAgg252
 z175:=Tryz.sizeOf252
 v175:=Tryz.zeroValue252
 t210:=Tryz.underlying255
 a210:=Tryz.isAgg255
 z210:=Tryz.sizeOf255
 v210:=Tryz.zeroValue255
 t212:=Tryz.underlying270
 a212:=Tryz.isAgg270
 z212:=Tryz.sizeOf270
 v212:=Tryz.zeroValue270
 t213:=Tryz.underlying271
 a213:=Tryz.isAgg271
 z213:=Tryz.sizeOf271
 t232:=Tryz.underlying305
 a232:=Tryz.isAgg305
 z232:=Tryz.sizeOf305
 v232:=Tryz.zeroValue305
 t233:=Tryz.underlying306
 a233:=Tryz.isAgg306
 z233:=Tryz.sizeOf306
 v233:=Tryz.zeroValue306
 g15:=by kernel_rfl
 g16:=by kernel_rfl
 g17:=by kernel_rfl
 g18:=by kernel_rfl
 g19:=by kernel_rfl
 t80:=Tryz.underlying35
 a80:=Tryz.isAgg35
 z80:=Tryz.sizeOf35
 v80:=Tryz.zeroValue35
 i0:=by kernel_rfl
 i2:=by kernel_rfl
 i3:=by kernel_rfl
 i4:=by kernel_rfl
 i5:=by kernel_rfl
 i9:=by kernel_rfl
 i20:=by kernel_rfl
 i21:=by kernel_rfl
 i37:=by kernel_rfl
 i46:=by kernel_rfl
 i51:=by kernel_rfl
 i53:=by kernel_rfl
 i75:=by kernel_rfl
 i76:=by kernel_rfl
 i80:=by kernel_rfl
 i85:=by kernel_rfl
 i127:=by kernel_rfl
 i143:=by kernel_rfl
 i145:=by kernel_rfl
 i167:=by kernel_rfl
 i168:=by kernel_rfl
 i171:=by kernel_rfl
 i173:=by kernel_rfl
 i175:=by kernel_rfl
 i210:=by kernel_rfl
 i212:=by kernel_rfl
 i232:=by kernel_rfl
 i233:=by kernel_rfl
 m15:=by kernel_rfl
 m16:=by kernel_rfl
 m17:=by kernel_rfl
 m18:=by kernel_rfl
 m19:=by kernel_rfl
 c0:=by kernel_rfl
 c2:=by kernel_rfl
 c3:=by kernel_rfl
 c4:=by kernel_rfl
 c5:=by kernel_rfl
 c9:=by kernel_rfl
 c20:=by kernel_rfl
 c21:=by kernel_rfl
 c37:=by kernel_rfl
 c46:=by kernel_rfl
 c51:=by kernel_rfl
 c53:=by kernel_rfl
 c75:=by kernel_rfl
 c76:=by kernel_rfl
 c80:=by kernel_rfl
 c85:=by kernel_rfl
 c127:=by kernel_rfl
 c143:=by kernel_rfl
 c145:=by kernel_rfl
 c167:=by kernel_rfl
 c168:=by kernel_rfl
 c171:=by kernel_rfl
 c173:=by kernel_rfl
 c175:=by kernel_rfl
 c210:=by kernel_rfl
 c212:=by kernel_rfl
 c213:=by kernel_rfl
 c232:=by kernel_rfl
 c233:=by kernel_rfl
theorem atoi_ok_laid (s:ByteArray) (hmax:s.size≤9223372036854775806) (v:Int) (h:Lib.atoiAll s.data.toList= .ok v) (w:World):
 Calls Tryz.prog 107 #[.string s] w fun e w'=>e= .returned (.tuple #[.int .i64 v,.nilIface])∧(w'=w∨∃t,w'=Lib.bytesWorld w 5 t):=Any.strconv_Atoi_ok lAtoi s hmax v h w
theorem atoi_no_laid (s:ByteArray) (hlim:s.size≤281474976710656) (h:∀v,Lib.atoiAll s.data.toList≠ .ok v) (ev eu:Value) (w:World) (hv:w.cell? ⟨4,0,none⟩=some ev) (hev:ev= .nilIface∨∃te pe,ev= .iface te pe) (hu:w.cell? ⟨5,0,none⟩=some eu) (heu:eu= .nilIface∨∃te pe,eu= .iface te pe):
 Calls Tryz.prog 107 #[.string s] w fun e w'=>(∃z q,e= .returned (.tuple #[.int .i64 z,.iface 219 q]))∧Below w.heap.size w w':=by
 rcases hr:Lib.atoiAll s.data.toList with v|_|_
 ·exact absurd hr (h v)
 ·exact(Any.strconv_Atoi_syntax lAtoi s hlim hr ev w hv hev).mono fun e w' ⟨N,h1,_,_,h4⟩=>⟨⟨_,_,h1⟩,h4⟩
 ·exact(Any.strconv_Atoi_range lAtoi s hlim hr eu w hu heu).mono fun e w' ⟨N,h1,_,_,h4⟩=>⟨⟨_,_,h1⟩,h4⟩
end Go.Proofs.YtnnaadmegeeinaaGreatDoor
