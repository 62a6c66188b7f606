/-
  Part 36 of a proof: what it proves stands in the last text.
-/
import Derived.Test.YtnnaadmegeeinaaGreatDoorZai
set_option linter.unusedVariables false
set_option maxHeartbeats 8000000
set_option maxRecDepth 100000
namespace Go.Proofs.YtnnaadmegeeinaaGreatDoor
open Go.RowKit
def lvW (w:World) (P:Nat) (v:Value):World:=(((w.alloc (.cells #[.int .i64 P,v] 103)).alloc (.cells #[.int .i64 0] 3)).alloc (.cells #[.int .i64 0] 3)).alloc (.cells #[.int .i64 0] 49)
theorem lvW_size (w:World) (P:Nat) (v:Value):(lvW w P v).heap.size=w.heap.size+4:=by
 unfold lvW
 simp
theorem lvW_below (w:World) (P:Nat) (v:Value):Below w.heap.size w (lvW w P v):=by
 unfold lvW
 exact((((Below.refl _ _).alloc (Nat.le_refl _) _).alloc (by simp) _).alloc (by simp;omega) _).alloc (by simp;omega) _
theorem lvW_d (w:World) (P:Nat) (v:Value):(lvW w P v).cell? ⟨w.heap.size,0,none⟩=some (.int .i64 P)∧(lvW w P v).cell? ⟨w.heap.size,1,none⟩=some v:=by
 have h:=ds_box w P v
 have hb:Below (w.heap.size+1) (w.alloc (.cells #[.int .i64 P,v] 103)) (lvW w P v):=by
  unfold lvW
  exact(((Below.refl _ _).alloc (by simp) _).alloc (by simp) _).alloc (by first|(simp;done)|(simp;omega)) _
 exact⟨(hb.cell (p:=⟨w.heap.size,0,none⟩) (Nat.lt_succ_self _)).trans h.1,(hb.cell (p:=⟨w.heap.size,1,none⟩) (Nat.lt_succ_self _)).trans h.2⟩
theorem lvW_r (w:World) (P:Nat) (v:Value):Boxed (lvW w P v) (w.heap.size+1) 3 (.int .i64 0)∧Boxed (lvW w P v) (w.heap.size+1+1) 3 (.int .i64 0)∧Boxed (lvW w P v) (w.heap.size+1+1+1) 49 (.int .i64 0):=by
 unfold lvW
 refine⟨?_,?_,?_⟩
 ·have:=((Boxed.new (w.alloc (.cells #[.int .i64 P,v] 103)) 3 (.int .i64 0)).alloc (.cells #[.int .i64 0] 3)).alloc (.cells #[.int .i64 0] 49)
  rwa [World.size_alloc]at this
 ·have:=(Boxed.new ((w.alloc (.cells #[.int .i64 P,v] 103)).alloc (.cells #[.int .i64 0] 3)) 3 (.int .i64 0)).alloc (.cells #[.int .i64 0] 49)
  rwa [World.size_alloc,World.size_alloc]at this
 ·have:=Boxed.new (((w.alloc (.cells #[.int .i64 P,v] 103)).alloc (.cells #[.int .i64 0] 3)).alloc (.cells #[.int .i64 0] 3)) 49 (.int .i64 0)
  rwa [World.size_alloc,World.size_alloc,World.size_alloc]at this
theorem lvBelow {n:Nat} {W W':World} {B:Nat} {t:TypeId} {v:Value} (h:Boxed W B t v) (hb:Below n W W') (hB:B<n):Boxed W' B t v:=(hb.block B hB).trans h
structure LvB (w:World) (P:Nat) (v:Value) (W:World):Prop where
 d0:W.cell? ⟨w.heap.size,0,none⟩=some (.int .i64 P)
 d1:W.cell? ⟨w.heap.size,1,none⟩=some v
 r1:Boxed W (w.heap.size+1) 3 (.int .i64 0)
 r2:Boxed W (w.heap.size+1+1) 3 (.int .i64 0)
 r3:Boxed W (w.heap.size+1+1+1) 49 (.int .i64 0)
 bl:Below w.heap.size w W
 sz:w.heap.size+4≤W.heap.size
theorem LvB.at0 (w:World) (P:Nat) (v:Value):LvB w P v (lvW w P v):=
 ⟨(lvW_d w P v).1,(lvW_d w P v).2,(lvW_r w P v).1,(lvW_r w P v).2.1,(lvW_r w P v).2.2,lvW_below w P v,by rw[lvW_size];exact Nat.le_refl _⟩
theorem LvB.below {w:World} {P:Nat} {v:Value} {W W':World} (h:LvB w P v W) (hb:Below (w.heap.size+4) W W'):LvB w P v W':=
 ⟨(hb.cell (p:=⟨w.heap.size,0,none⟩) (by show w.heap.size<_;omega)).trans h.d0,(hb.cell (p:=⟨w.heap.size,1,none⟩) (by show w.heap.size<_;omega)).trans h.d1,lvBelow h.r1 hb (by omega),lvBelow h.r2 hb (by omega),lvBelow h.r3 hb (by omega),h.bl.trans (hb.mono (by omega)),Nat.le_trans h.sz hb.size⟩
def lvEnd (w W:World) (x y z:Int):World:=((W.setCell ⟨w.heap.size+1,0,none⟩ (.int .i64 x)).setCell ⟨w.heap.size+1+1,0,none⟩ (.int .i64 y)).setCell ⟨w.heap.size+1+1+1,0,none⟩ (.int .i64 z)
theorem lvOther {W:World} {B C:Nat} {t:TypeId} {v:Value} (h:Boxed W B t v) (hne:B≠C) (u:Value):Boxed (W.setCell ⟨C,0,none⟩ u) B t v:=(Below.heap_setCell W ⟨C,0,none⟩ u B hne).trans h
theorem lvEnd_is {w W:World} {a b c:Value} {p q r:TypeId} (h1:Boxed W (w.heap.size+1) p a) (h2:Boxed W (w.heap.size+1+1) q b) (h3:Boxed W (w.heap.size+1+1+1) r c) (x y z:Int):
 Boxed (lvEnd w W x y z) (w.heap.size+1) p (.int .i64 x)∧Boxed (lvEnd w W x y z) (w.heap.size+1+1) q (.int .i64 y)∧Boxed (lvEnd w W x y z) (w.heap.size+1+1+1) r (.int .i64 z):=by
 unfold lvEnd
 exact⟨lvOther (lvOther (Boxed.set _ h1) (by omega) _) (by omega) _,lvOther (Boxed.set _ (lvOther h2 (by omega) _)) (by omega) _,Boxed.set _ (lvOther (lvOther h3 (by omega) _) (by omega) _)⟩
theorem lvEnd_below {w W:World} (h:Below w.heap.size w W) (x y z:Int):Below w.heap.size w (lvEnd w W x y z):=by
 unfold lvEnd
 exact((h.setCell (p:=⟨w.heap.size+1,0,none⟩) (by simp) _).setCell (p:=⟨w.heap.size+1+1,0,none⟩) (by show _≤w.heap.size+1+1;omega) _).setCell (p:=⟨w.heap.size+1+1+1,0,none⟩) (by show _≤w.heap.size+1+1+1;omega) _
theorem lv_ret {R:Ending→World→Prop} {a:Act} {W:World} (H:Nat) (x y z:Int) (hd:a.defers=[]) (h4:a.tmps[4]?.getD undef= .pointer (some ⟨H+1,0,none⟩)) (h5:a.tmps[5]?.getD undef= .pointer (some ⟨H+1+1,0,none⟩)) (h6:a.tmps[6]?.getD undef= .pointer (some ⟨H+1+1+1,0,none⟩))
 (c1:W.cell? ⟨H+1,0,none⟩=some (.int .i64 x)) (c2:W.cell? ⟨H+1+1,0,none⟩=some (.int .i64 y)) (c3:W.cell? ⟨H+1+1+1,0,none⟩=some (.int .i64 z)) (hR:R (.returned (.tuple #[.int .i64 x,.int .i64 y,.int .i64 z])) W):
 bodyPost Tryz.prog Tryz.f119 R .ret a W:=
 bodyPost_ret (by simp[results,Tryz.f119,go_sem,h4,h5,h6,c1,c2,c3,asAddr]) hd hR
theorem DLevel_bad (P t:Nat) (v:Value) (bs:List (List Nat)) (w:World) (hP:P<1000000000) (hv:RL w v (bs.map ofN)) (hb:∀b∈bs,∀x∈b,x<1000000000) (h:dsE P bs≠0):
 Calls Tryz.prog 119 #[.agg #[.int .i64 P,v],.int .i64 t] w fun e w'=>e= .returned (.tuple #[.int .i64 0,.int .i64 0,.int .i64 (dsE P bs)])∧Below w.heap.size w w':=by
 have HB0:=hid (lvW_below w P v)
 have HC:=hid (dscheck_any P v bs (lvW w P v) hP (hv.below HB0.out) hb)
 have HD:=hid (lvW_d w P v)
 have HR:=hid (lvW_r w P v)
 have HS:=hid (lvW_size w P v)
 have hz:(dsE P bs !=0)=true:=by simpa using h
 generalize dsE P bs=E at*
 unfold lvW at HC
 clear h hv
 go_enter Tryz.func119,Tryz.ntmps119
 go_wp2_with fail
 refine HC.out.mono ?_
 rintro e w1 ⟨rfl,hb1⟩
 have HL:=hid ((LvB.at0 w P v).below (hb1.mono (by rw[←lvW_size w P v];exact Nat.le_refl _)))
 clear hb1
 have c1:=HL.out.r1.cell
 have c2:=HL.out.r2.cell
 have c3:=HL.out.r3.cell
 have f1:=HL.out.r1.frozen
 have f2:=HL.out.r2.frozen
 have f3:=HL.out.r3.frozen
 have HEN:=hid (lvEnd_is HL.out.r1 HL.out.r2 HL.out.r3 0 0 E)
 have HEB:=hid (lvEnd_below HL.out.bl 0 0 E)
 unfold lvEnd at HEN HEB
 go_wp2
 exact lv_ret w.heap.size 0 0 E rfl rfl rfl rfl HEN.out.1.cell HEN.out.2.1.cell HEN.out.2.2.cell ⟨rfl,HEB.out⟩
theorem Level_rng (P t:Nat) (v:Value) (bs:List (List Nat)) (w:World) (hP:P<1000000000) (ht:t<1000000000) (hv:RL w v (bs.map ofN)) (hb:∀b∈bs,∀x∈b,x<1000000000) (h:dsE P bs=0) (h2:4<t∨P<t):
 Calls Tryz.prog 119 #[.agg #[.int .i64 P,v],.int .i64 t] w fun e w'=>e= .returned (.tuple #[.int .i64 0,.int .i64 0,.int .i64 1])∧Below w.heap.size w w':=by
 have HB0:=hid (lvW_below w P v)
 have HC:=hid (dscheck_any P v bs (lvW w P v) hP (hv.below HB0.out) hb)
 rw[h]at HC
 unfold lvW at HC
 clear h hv
 by_cases h4:4<t
 all_goals
  go_enter Tryz.func119,Tryz.ntmps119
  go_wp2_with fail
  refine HC.out.mono ?_
  rintro e w1 ⟨rfl,hb1⟩
  have HL:=hid ((LvB.at0 w P v).below (hb1.mono (by rw[←lvW_size w P v];exact Nat.le_refl _)))
  clear hb1
  have c0:=HL.out.d0
  have c1:=HL.out.r1.cell
  have c2:=HL.out.r2.cell
  have c3:=HL.out.r3.cell
  have f1:=HL.out.r1.frozen
  have f2:=HL.out.r2.frozen
  have f3:=HL.out.r3.frozen
  have HEN:=hid (lvEnd_is HL.out.r1 HL.out.r2 HL.out.r3 0 0 1)
  have HEB:=hid (lvEnd_below HL.out.bl 0 0 1)
  unfold lvEnd at HEN HEB
  have h4i:(4:Int)<(t:Int)∨((t:Int)≤4∧(P:Int)<(t:Int)):=by omega
  go_wp2
  exact lv_ret w.heap.size 0 0 1 rfl rfl rfl rfl HEN.out.1.cell HEN.out.2.1.cell HEN.out.2.2.cell ⟨rfl,HEB.out⟩
theorem Level_none (P t:Nat) (v:Value) (w:World) (hP:P<1000000000) (ht:t<1000000000) (hv:RL w v (List.map ofN [])) (h:dsE P []=0) (h4:t≤4) (h5:t≤P):
 Calls Tryz.prog 119 #[.agg #[.int .i64 P,v],.int .i64 t] w fun e w'=>e= .returned (.tuple #[.int .i64 0,.int .i64 0,.int .i64 4])∧Below w.heap.size w w':=by
 have HB0:=hid (lvW_below w P v)
 obtain⟨a,c,N,e,hN,hl1,hl2⟩:=hv.open
 have HC:=hid (dscheck_any P v [] (lvW w P v) hP (hv.below HB0.out) (by simp))
 rw[h]at HC
 unfold lvW at HC
 obtain rfl:N=0:=by rw[←hN.out];rfl
 subst e
 clear h hv hN hl2
 go_enter Tryz.func119,Tryz.ntmps119
 go_wp2_with fail
 refine HC.out.mono ?_
 rintro e w1 ⟨rfl,hb1⟩
 have HL:=hid ((LvB.at0 w P (.slice a 0 c)).below (hb1.mono (by rw[←lvW_size w P (.slice a 0 c)];exact Nat.le_refl _)))
 clear hb1
 have c0:=HL.out.d0
 have c0':=HL.out.d1
 have c1:=HL.out.r1.cell
 have c2:=HL.out.r2.cell
 have c3:=HL.out.r3.cell
 have f1:=HL.out.r1.frozen
 have f2:=HL.out.r2.frozen
 have f3:=HL.out.r3.frozen
 have HEN:=hid (lvEnd_is HL.out.r1 HL.out.r2 HL.out.r3 0 0 4)
 have HEB:=hid (lvEnd_below HL.out.bl 0 0 4)
 unfold lvEnd at HEN HEB
 have h4i:¬(4:Int)<(t:Int):=by omega
 have h5i:¬(P:Int)<(t:Int):=by omega
 go_wp2
 exact lv_ret w.heap.size 0 0 4 rfl rfl rfl rfl HEN.out.1.cell HEN.out.2.1.cell HEN.out.2.2.cell ⟨rfl,HEB.out⟩
end Go.Proofs.YtnnaadmegeeinaaGreatDoor
namespace Go.Proofs.YtnnaadmegeeinaaGreatDoor
open Go.RowKit
attribute [local go_sem] Oper.semAt_some
theorem lenO_any (k:Nat) (bs:List (List Nat)):(bs.map ofN).any (lenO k)=bs.any fun b=>decide (b.length≠k):=by
 rw[List.any_map]
 refine congrArg (fun f=>List.any bs f) (funext fun b=> ?_)
 show decide ((ofN b).length≠k)=_
 rw[ofN_len]
theorem ow_msk {B:Nat} {w:World} {u:Value} {bs:List (List Nat)} (h:Ow 189 B w u (bs.map fun b=>mskV (mkO 0 b))) (hp:0<bs.length):
 ∃g c,u= .slice (some ⟨g,0,none⟩) bs.length c∧B≤g∧g<w.heap.size∧∀j,j<bs.length→w.cell? ⟨g,j,none⟩=some (.int .u64 (((lvS bs).getD j 0:Nat):Int)):=by
 obtain⟨g,c,e,h1,h2⟩:=h.form (by rw[List.length_map];exact hp)
 subst e
 rw[List.length_map]
 refine⟨g,c,rfl,h1,h2,fun j hj=> ?_⟩
 rw[h.cell j (by rw[List.length_map];exact hj)]
 unfold lvS mskV
 rw[List.getElem?_map,List.getD_eq_getElem?_getD,List.getElem?_map,List.getElem?_eq_getElem hj]
 rfl
theorem lvS_lt {P:Nat} {bs:List (List Nat)} (hP:P≤40) (hb:∀b∈bs,∀x∈b,x<P) (j:Nat):(lvS bs).getD j 0<1099511627776:=by
 unfold lvS
 rw[List.getD_eq_getElem?_getD,List.getElem?_map]
 cases e:bs[j]? with
 |none=>simp
 |some b=>
  obtain⟨hj,rfl⟩:=List.getElem?_eq_some_iff.1 e
  exact mkO_lt (P:=40) (by decide) fun x hx=>by
   have:=hb _ (List.getElem_mem hj) x hx
   omega
theorem chL_lt {P:Nat} (hP:P≤40):∀(t a s:Nat),s<2^40→∀x∈chL P t a s,x<2^40
 |0,a,s,hs,x,hx=>by
  unfold chL at hx
  simp at hx
  rw[hx]
  exact hs
 |t+1,a,s,hs,x,hx=>by
  unfold chL at hx
  obtain⟨d,hd,hx⟩:=List.mem_flatMap.1 hx
  have:=List.mem_range.1 hd
  exact chL_lt hP t _ _ (Nat.or_lt_two_pow hs (Nat.pow_lt_pow_right (by decide) (by omega))) x hx
theorem grown_transL {A B C:World} {r row:Option Nat} (h:A.grownBy B r) (g:B.grownBy C row) (hr:∀q,row=some q→q<A.heap.size→r=some q):A.grownBy C r:=
 ⟨g.os.trans h.os,g.tape.trans h.tape,g.output.trans h.output,Nat.le_trans h.size g.size,fun k hk hne=>by
   have hs:=h.size
   rw[g.block k (by omega) (fun e=>hne (hr k e.symm hk).symm)]
   exact h.block k hk hne⟩
structure LvFin (w:World) (D:Nat) (x y z:Int) (V:World):Prop where
 r1:Boxed V (w.heap.size+1) 3 (.int .i64 x)
 r2:Boxed V (w.heap.size+1+1) 3 (.int .i64 y)
 r3:Boxed V (w.heap.size+1+1+1) 49 (.int .i64 z)
 bl:Below w.heap.size w V
 dd:V.heap[D]? =some (.deferred (some []))
 hd:w.heap.size+4≤D
theorem LvFin.cells {w:World} {D:Nat} {x y z:Int} {V:World} (h:LvFin w D x y z V):
 (V.putObj D (.deferred none)).cell? ⟨w.heap.size+1,0,none⟩=some (.int .i64 x)∧(V.putObj D (.deferred none)).cell? ⟨w.heap.size+1+1,0,none⟩=some (.int .i64 y)∧(V.putObj D (.deferred none)).cell? ⟨w.heap.size+1+1+1,0,none⟩=some (.int .i64 z)∧Below w.heap.size w (V.putObj D (.deferred none)):=by
 have hg:=grownBy_putObj' V D (.deferred none)
 have hD:=h.hd
 exact⟨(h.r1.kept hg (by simp;omega)).cell,(h.r2.kept hg (by simp;omega)).cell,(h.r3.kept hg (by simp;omega)).cell,h.bl.grown hg h.bl.size (fun k e=>by cases e;omega)⟩
def LvBad (P t:Nat) (bs:List (List Nat)):Prop:=(bs.any fun b=>decide (b.length≠lvK bs))=true∨¬okC (lvS bs) (chL P t 0 0)
def LvPost (P t:Nat) (bs:List (List Nat)) (e:Ending):Prop:=(LvBad P t bs→e= .returned (.tuple #[.int .i64 0,.int .i64 0,.int .i64 4]))∧(¬LvBad P t bs→e= .returned (.tuple #[.int .i64 (lvK bs),.int .i64 (lamC (lvS bs) (chL P t 0 0)),.int .i64 0]))
theorem LvPost.bad {P t:Nat} {bs:List (List Nat)} (h:LvBad P t bs):LvPost P t bs (.returned (.tuple #[.int .i64 0,.int .i64 0,.int .i64 4])):=⟨fun _=>rfl,fun h2=>absurd h h2⟩
theorem LvPost.good {P t:Nat} {bs:List (List Nat)} (h:¬LvBad P t bs):LvPost P t bs (.returned (.tuple #[.int .i64 (lvK bs),.int .i64 (lamC (lvS bs) (chL P t 0 0)),.int .i64 0])):=⟨fun h2=>absurd h2 h,fun _=>rfl⟩
theorem Level_uneven (P t:Nat) (v:Value) (bs:List (List Nat)) (w:World) (hP:P<1000000000) (hv:RL w v (bs.map ofN)) (h:dsE P bs=0) (h4:t≤4) (h5:t≤P) (h6:0<bs.length) (hev:(bs.any fun b=>decide (b.length≠lvK bs))=true):
 Calls Tryz.prog 119 #[.agg #[.int .i64 P,v],.int .i64 t] w fun e w'=>
  LvPost P t bs e∧Below w.heap.size w w':=by
 obtain⟨z1,z2,z3,z4⟩:=dsE_zero h
 have HB0:=hid (lvW_below w P v)
 have HC:=hid (dscheck_any P v bs (lvW w P v) hP (hv.below HB0.out) (fun b hb x hx=>by have:=(z4 b hb).1 x hx;omega))
 rw[h]at HC
 unfold lvW at HC
 have HV:=hid hv
 obtain⟨a,c,N,rfl,hN,hl1,hl2⟩:=hv.open
 rw[List.length_map]at hN
 have hN6:0<N:=by rw[←hN.out];exact h6
 obtain⟨g0,o0,rfl,hg0,hc0⟩:=hl2 hN6
 obtain⟨u0,hu0,hu0s⟩:=hc0 0 hN6
 rw[map_ofN_at]at hu0s
 obtain⟨a0,c0,K,rfl,hK,hk1,_⟩:=hu0s.open
 rw[ofN_len]at hK
 have hKK:Hid (lvK bs=K):=hid hK.out
 have HG0:=hid (And.intro hg0 hu0)
 have hN200:N≤200:=by rw[←hN.out];exact z3
 clear h hv hc0 hu0s hK hl2 hu0
 have h4i:¬(4:Int)<(t:Int):=by omega
 have h5i:¬(P:Int)<(t:Int):=by omega
 have hNi:((N:Int)==0)=false:=by rw[beq_eq_false_iff_ne];omega
 have hNp:(0:Int)<(N:Int):=by omega
 rw[hKK.out]at hev
 go_enter Tryz.func119,Tryz.ntmps119
 go_wp2_with fail
 refine HC.out.mono ?_
 rintro e w1 ⟨rfl,hb1⟩
 have HL:=hid ((LvB.at0 w P (.slice (some ⟨g0,o0,none⟩) N c)).below (hb1.mono (by rw[←lvW_size w P (.slice (some ⟨g0,o0,none⟩) N c)];exact Nat.le_refl _)))
 clear hb1 HC
 have d0:=HL.out.d0
 have d1:=HL.out.d1
 have hu0:w1.cell? ⟨g0,o0,none⟩=some (.slice a0 K c0):=(HL.out.bl.cell (p:=⟨g0,o0,none⟩) HG0.out.1).trans HG0.out.2
 have hsz1:=HL.out.sz
 have HB2:=hid (fun(o1 o2:Obj)=>show Below w1.heap.size w1 ((w1.alloc o1).alloc o2)from((Below.refl _ _).alloc (Nat.le_refl _) _).alloc (by simp) _)
 have d1b:∀o1 o2,((w1.alloc o1).alloc o2).cell? ⟨w.heap.size,1,none⟩=some (.slice (some ⟨g0,o0,none⟩) N c):=fun o1 o2=>((HB2.out o1 o2).cell (p:=⟨w.heap.size,1,none⟩) (by show w.heap.size<_;omega)).trans d1
 have d0b:∀o1 o2,((w1.alloc o1).alloc o2).cell? ⟨w.heap.size,0,none⟩=some (.int .i64 P):=fun o1 o2=>((HB2.out o1 o2).cell (p:=⟨w.heap.size,0,none⟩) (by show w.heap.size<_;omega)).trans d0
 have HBX:Hid (Boxed ((w1.alloc (.cells #[.int .i64 K] 3)).alloc (.cells #[.int .i64 (-1)] 3)) w1.heap.size 3 (.int .i64 K)∧Boxed ((w1.alloc (.cells #[.int .i64 K] 3)).alloc (.cells #[.int .i64 (-1)] 3)) (w1.heap.size+1) 3 (.int .i64 (-1))):=hid ⟨(Boxed.new w1 _ _).alloc _,by
  have:=Boxed.new (w1.alloc (.cells #[.int .i64 K] 3)) 3 (.int .i64 (-1))
  rwa [World.size_alloc]at this⟩
 have HCF:=hid (levc_any K (.slice (some ⟨g0,o0,none⟩) N c) (bs.map ofN) w1.heap.size ((w1.alloc (.cells #[.int .i64 K] 3)).alloc (.cells #[.int .i64 (-1)] 3)) ((HV.out.below HL.out.bl).below (HB2.out _ _)) hk1.1 HBX.out.1.cell)
 rw[lenO_any,hev]at HCF
 go_wp2_with fail
 refine HCF.out.mono ?_
 rintro e w2 ⟨rfl,hw2⟩
 have HBX2:=HBX
 have HB2':=hid (HB2.out (.cells #[.int .i64 K] 3) (.cells #[.int .i64 (-1)] 3))
 rw[hw2]at HBX2 HB2'
 have HL2:=hid (HL.out.below (HB2'.out.mono HL.out.sz))
 have hs2:w2.heap.size=w1.heap.size+2:=by rw[←hw2];simp
 clear HBX HCF d1b d0b d0 d1 hu0
 clear hw2 HB2
 have d0:=HL2.out.d0
 have d1:=HL2.out.d1
 have HA:Hid (LvBad P t bs):=hid (.inl (by rw[hKK.out];exact hev))
 clear hev
 have c1:=HL2.out.r1.cell
 have c2:=HL2.out.r2.cell
 have c3:=HL2.out.r3.cell
 have f1:=HL2.out.r1.frozen
 have f2:=HL2.out.r2.frozen
 have f3:=HL2.out.r3.frozen
 have HEN:=hid (lvEnd_is HL2.out.r1 HL2.out.r2 HL2.out.r3 0 0 4)
 have HEB:=hid (lvEnd_below HL2.out.bl 0 0 4)
 unfold lvEnd at HEN HEB
 go_wp2
 exact lv_ret w.heap.size 0 0 4 rfl rfl rfl rfl HEN.out.1.cell HEN.out.2.1.cell HEN.out.2.2.cell ⟨LvPost.bad HA.out,HEB.out⟩
theorem Level_even (P t:Nat) (v:Value) (bs:List (List Nat)) (w:World) (hP:P<1000000000) (hv:RL w v (bs.map ofN)) (h:dsE P bs=0) (h4:t≤4) (h5:t≤P) (h6:0<bs.length) (hev:(bs.any fun b=>decide (b.length≠lvK bs))=false):
 Calls Tryz.prog 119 #[.agg #[.int .i64 P,v],.int .i64 t] w fun e w'=>
  LvPost P t bs e∧Below w.heap.size w w':=by
 obtain⟨z1,z2,z3,z4⟩:=dsE_zero h
 have HB0:=hid (lvW_below w P v)
 have HC:=hid (dscheck_any P v bs (lvW w P v) hP (hv.below HB0.out) (fun b hb x hx=>by have:=(z4 b hb).1 x hx;omega))
 rw[h]at HC
 unfold lvW at HC
 have HV:=hid hv
 obtain⟨a,c,N,rfl,hN,hl1,hl2⟩:=hv.open
 rw[List.length_map]at hN
 have hN6:0<N:=by rw[←hN.out];exact h6
 obtain⟨g0,o0,rfl,hg0,hc0⟩:=hl2 hN6
 obtain⟨u0,hu0,hu0s⟩:=hc0 0 hN6
 rw[map_ofN_at]at hu0s
 obtain⟨a0,c0,K,rfl,hK,hk1,_⟩:=hu0s.open
 rw[ofN_len]at hK
 have hKK:Hid (lvK bs=K):=hid hK.out
 have HG0:=hid (And.intro hg0 hu0)
 have hN200:N≤200:=by rw[←hN.out];exact z3
 clear h hv hc0 hu0s hK hl2 hu0
 have h4i:¬(4:Int)<(t:Int):=by omega
 have h5i:¬(P:Int)<(t:Int):=by omega
 have hNi:((N:Int)==0)=false:=by rw[beq_eq_false_iff_ne];omega
 have hNp:(0:Int)<(N:Int):=by omega
 rw[hKK.out]at hev
 refine callsIn_wide.1 (callsIn_of_wp_marks (F:=Fence.wide) (n:=0) Tryz.func119 rfl trivial ?_)
 refine wpIn_wide.2 ?_
 simp only[Tryz.ntmps119,List.size_toArray,List.length_cons,List.length_nil,Nat.reduceAdd,Nat.reduceSub,Array.replicate_succ,Array.replicate_zero,List.push_toArray,List.append_toArray,List.nil_append,List.cons_append]
 go_wp2_with fail
 refine HC.out.mono ?_
 rintro e w1 ⟨rfl,hb1⟩
 have HL:=hid ((LvB.at0 w P (.slice (some ⟨g0,o0,none⟩) N c)).below (hb1.mono (by rw[←lvW_size w P (.slice (some ⟨g0,o0,none⟩) N c)];exact Nat.le_refl _)))
 clear hb1 HC
 have d0:=HL.out.d0
 have d1:=HL.out.d1
 have hu0:w1.cell? ⟨g0,o0,none⟩=some (.slice a0 K c0):=(HL.out.bl.cell (p:=⟨g0,o0,none⟩) HG0.out.1).trans HG0.out.2
 have hsz1:=HL.out.sz
 have HB2:=hid (fun(o1 o2:Obj)=>show Below w1.heap.size w1 ((w1.alloc o1).alloc o2)from((Below.refl _ _).alloc (Nat.le_refl _) _).alloc (by simp) _)
 have d1b:∀o1 o2,((w1.alloc o1).alloc o2).cell? ⟨w.heap.size,1,none⟩=some (.slice (some ⟨g0,o0,none⟩) N c):=fun o1 o2=>((HB2.out o1 o2).cell (p:=⟨w.heap.size,1,none⟩) (by show w.heap.size<_;omega)).trans d1
 have d0b:∀o1 o2,((w1.alloc o1).alloc o2).cell? ⟨w.heap.size,0,none⟩=some (.int .i64 P):=fun o1 o2=>((HB2.out o1 o2).cell (p:=⟨w.heap.size,0,none⟩) (by show w.heap.size<_;omega)).trans d0
 have HBX:Hid (Boxed ((w1.alloc (.cells #[.int .i64 K] 3)).alloc (.cells #[.int .i64 (-1)] 3)) w1.heap.size 3 (.int .i64 K)∧Boxed ((w1.alloc (.cells #[.int .i64 K] 3)).alloc (.cells #[.int .i64 (-1)] 3)) (w1.heap.size+1) 3 (.int .i64 (-1))):=hid ⟨(Boxed.new w1 _ _).alloc _,by
  have:=Boxed.new (w1.alloc (.cells #[.int .i64 K] 3)) 3 (.int .i64 (-1))
  rwa [World.size_alloc]at this⟩
 have HCF:=hid (levc_any K (.slice (some ⟨g0,o0,none⟩) N c) (bs.map ofN) w1.heap.size ((w1.alloc (.cells #[.int .i64 K] 3)).alloc (.cells #[.int .i64 (-1)] 3)) ((HV.out.below HL.out.bl).below (HB2.out _ _)) hk1.1 HBX.out.1.cell)
 rw[lenO_any,hev]at HCF
 go_wp2_with fail
 refine HCF.out.mono ?_
 rintro e w2 ⟨rfl,hw2⟩
 have HBX2:=HBX
 have HB2':=hid (HB2.out (.cells #[.int .i64 K] 3) (.cells #[.int .i64 (-1)] 3))
 rw[hw2]at HBX2 HB2'
 have HL2:=hid (HL.out.below (HB2'.out.mono HL.out.sz))
 have hs2:w2.heap.size=w1.heap.size+2:=by rw[←hw2];simp
 clear HBX HCF d1b d0b d0 d1 hu0
 clear hw2 HB2
 have d0:=HL2.out.d0
 have d1:=HL2.out.d1
 have HNB:Hid (okC (lvS bs) (chL P t 0 0)→¬LvBad P t bs):=hid (fun h=>by
  rintro(h2|h2)
  ·rw[hKK.out,hev]at h2
   cases h2
  ·exact h2 h)
 have HBD:Hid (¬okC (lvS bs) (chL P t 0 0)→LvBad P t bs):=hid (fun h=> .inr h)
 have HSE:=hid (dssets_any P (.slice (some ⟨g0,o0,none⟩) N c) bs w2 z2 z3 (HV.out.below HL2.out.bl) (fun b hb=>(z4 b hb).1))
 clear hev
 go_wp2_with fail
 refine HSE.out.mono ?_
 rintro e w3 ⟨⟨u,rfl,hown⟩,hb3⟩
 obtain⟨gm,cm,rfl,hgm1,hgm2,hgm3⟩:=ow_msk hown h6
 rw[hN.out]at hgm3⊢
 have HL3:=hid (HL2.out.below (hb3.mono (by omega)))
 have HBX3:=hid (And.intro (lvBelow HBX2.out.1 hb3 (by omega)) (lvBelow HBX2.out.2 hb3 (by omega)))
 have hs3:w2.heap.size≤w3.heap.size:=hb3.size
 have HGM:=hid hgm3
 clear hown hb3 hgm3 d0 d1 HSE HBX2
 have d0b:∀o1,(w3.alloc o1).cell? ⟨w.heap.size,0,none⟩=some (.int .i64 P):=fun o1=>(((Below.refl _ _).alloc (Nat.le_refl _) _).cell (p:=⟨w.heap.size,0,none⟩) (by show w.heap.size<_;omega)).trans HL3.out.d0
 go_wp2_with fail
 refine(choices_any P t _).mono ?_
 rintro e W5 ⟨rfl,hw5⟩
 clear d0b
 have HB5:Hid (Below w3.heap.size w3 W5):=hid (by
  rw[hw5]
  exact(((Below.refl _ _).alloc (Nat.le_refl _) _).alloc (by simp) _).alloc (by simp;omega) _)
 have hs5:W5.heap.size=w3.heap.size+3:=by rw[hw5];simp
 have HA5:Hid (Boxed W5 w3.heap.size 184 (.slice (some ⟨gm,0,none⟩) N cm)∧Boxed W5 (w3.heap.size+1) 3 (.int .i64 P)∧Boxed W5 (w3.heap.size+1+1) 3 (.int .i64 t)):=hid (by
  rw[hw5]
  refine⟨((Boxed.new w3 _ _).alloc _).alloc _,?_,?_⟩
  ·have:=(Boxed.new (w3.alloc (.cells #[.slice (some ⟨gm,0,none⟩) N cm] 184)) 3 (.int .i64 P)).alloc (.cells #[.int .i64 t] 3)
   rwa [World.size_alloc]at this
  ·have:=Boxed.new ((w3.alloc (.cells #[.slice (some ⟨gm,0,none⟩) N cm] 184)).alloc (.cells #[.int .i64 P] 3)) 3 (.int .i64 t)
   rwa [World.size_alloc,World.size_alloc]at this)
 clear hw5
 have HL5:=hid (HL3.out.below (HB5.out.mono (by omega)))
 have HBX5:=hid (And.intro (lvBelow HBX3.out.1 HB5.out (by omega)) (lvBelow HBX3.out.2 HB5.out (by omega)))
 simp only[World.size_alloc]
 go_wp2_with fail
 have HS40:∀s∈chL P t 0 0,s<2^40:=chL_lt z2 t 0 0 (by decide)
 have grown:∀(A:World),W5.grownBy A (some (w1.heap.size+1))→Boxed A (w.heap.size+1) 3 (.int .i64 0)∧Boxed A (w.heap.size+1+1) 3 (.int .i64 0)∧Boxed A (w.heap.size+1+1+1) 49 (.int .i64 0)∧Below w.heap.size w A∧A.cell? ⟨w1.heap.size,0,none⟩=some (.int .i64 K)∧A.cell? ⟨w3.heap.size,0,none⟩=some (.slice (some ⟨gm,0,none⟩) N cm)∧∀j,j<N→A.cell? ⟨gm,j,none⟩=some (.int .u64 (((lvS bs).getD j 0:Nat):Int)):=by
  intro A hg
  refine⟨HL5.out.r1.kept hg (by simp;omega),HL5.out.r2.kept hg (by simp;omega),HL5.out.r3.kept hg (by simp;omega),HL5.out.bl.grown hg HL5.out.bl.size (fun k e=>by cases e;omega),(HBX5.out.1.kept hg (by simp)).cell,(HA5.out.1.kept hg (by simp;omega)).cell,fun j hj=> ?_⟩
  refine(World.cell?_of_block (hg.block gm (by omega) (by simp;omega))).trans ?_
  exact(HB5.out.cell (p:=⟨gm,j,none⟩) hgm2).trans (HGM.out j hj)
 have GR:=hid grown
 clear grown
 refine(wpIn_wide (n:=3)).1 (wpIn_rangeFunc_ownG rfl (by decide) (gf:=253) (lb:= #[.pointer (some ⟨w3.heap.size+1,0,none⟩),.pointer (some ⟨w3.heap.size+1+1,0,none⟩)]) rfl trivial
  (run_callFunc_own Tryz.func253 (by kernel_rfl) (by kernel_rfl))
  (choices_stops (w3.heap.size+1) P (w3.heap.size+1) (w3.heap.size+1+1) t W5 z2 h4 HA5.out.2.1.cell HA5.out.2.2.cell (by omega) (chL P t 0 0).length (Nat.le_refl _) 2)
  CKeep.trans (fun W l o o' _ h1 h2 _=>CKeep.put W l o o' h1 h2) (Below.refl _ _) (fun _=>rfl)
  (fun pre W=>okC (lvS bs) (mkV pre)∧Boxed W (w1.heap.size+1) 3 (.int .i64 (lamC (lvS bs) (mkV pre)))∧W5.grownBy W (some (w1.heap.size+1)))
  (fun cd pre W=>cd= .ret∧¬okC (lvS bs) (mkV pre)∧Boxed W (w.heap.size+1) 3 (.int .i64 0)∧Boxed W (w.heap.size+1+1) 3 (.int .i64 0)∧Boxed W (w.heap.size+1+1+1) 49 (.int .i64 4)∧Below w.heap.size w W)
  ?_ ?_ ?_ ?a1 ?assign ?body ?done ?stop)
 case assign=>
  intro l x W Kk hKk
  gi_wp2
  exact hKk
 ·rintro s A B row ⟨h1,h2,h3⟩ hg hr
  refine⟨h1,h2.kept hg (fun e=> ?_),grown_transL h3 hg (fun r e hlt=> ?_)⟩
  ·have:=(hr _ e.symm).1;omega
  ·have:=(hr r e).1;omega
 ·rintro cd s A B row ⟨h1,h2,h3,h4,h5,h6⟩ hg hr
  have hl5:=HL5.out.sz
  refine⟨h1,h2,h3.kept hg (fun e=> ?_),h4.kept hg (fun e=> ?_),h5.kept hg (fun e=> ?_),h6.grown hg h6.size (fun r e=> ?_)⟩
  ·have:=(hr _ e.symm).1;omega
  ·have:=(hr _ e.symm).1;omega
  ·have:=(hr _ e.symm).1;omega
  ·have:=(hr r e).1;omega
 ·exact⟨okC_nil _,HBX5.out.2,⟨rfl,rfl,rfl,Nat.le_refl _,fun _ _ _=>rfl⟩⟩
 case body=>
  rintro l pre ⟨x,hx⟩ W ⟨h1,h2,h3⟩ hlen
  obtain⟨r1,r2,r3,rb,rk,ra,rc⟩:=GR.out W h3
  have HR:=hid (And.intro r1 (And.intro r2 (And.intro r3 rb)))
  have HC:=hid rc
  have ho1:=h1
  have c1:=h2.cell
  have c2:=h2.frozen
  have HI:=hid (And.intro h1 (And.intro h2 h3))
  clear r1 r2 r3 rb rk rc h1 h2 h3 hlen
  have hsnoc:=mkV_snoc pre ⟨x,hx⟩
  have HOK:Hid (¬(0≤lamC (lvS bs) (mkV pre)∧(manyO (lvS bs) x:Int)≠lamC (lvS bs) (mkV pre))→okC (lvS bs) (mkV (pre++[⟨x,hx⟩]))):=hid (fun h=>by
   rw[mkV_snoc]
   exact okC_snoc ho1 h)
  have HNO:Hid (0≤lamC (lvS bs) (mkV pre)→(manyO (lvS bs) x:Int)≠lamC (lvS bs) (mkV pre)→¬okC (lvS bs) (mkV (pre++[⟨x,hx⟩]))):=hid (fun h h2=>by
   rw[mkV_snoc]
   exact okC_bad h h2)
  have HLM:Hid (lamC (lvS bs) (mkV (pre++[⟨x,hx⟩]))=manyO (lvS bs) x):=hid (by rw[mkV_snoc,lamC_snoc])
  have hlb: -1≤lamC (lvS bs) (mkV pre)∧lamC (lvS bs) (mkV pre)≤200:=by
   by_cases h0:0≤lamC (lvS bs) (mkV pre)
   ·obtain⟨s,_,e⟩:=lamC_mem h0
    have:=manyO_len (lvS bs) s
    have hl:(lvS bs).length=bs.length:=by unfold lvS;rw[List.length_map]
    omega
   ·rw[lamC_neg h0,lamC_nil]
    omega
  have hSl:(lvS bs).length=N:=by unfold lvS;rw[List.length_map];exact hN.out
  have HMT:Hid (∀j,j<N→manyO ((lvS bs).take (j+1)) x=manyO ((lvS bs).take j) x+if((lvS bs).getD j 0&&&x==x)=true then 1 else 0):=hid (fun j hj=>manyO_take (by rw[hSl];exact hj))
  have HMN:Hid (manyO ((lvS bs).take N) x=manyO (lvS bs) x):=hid (by rw[←hSl,List.take_length])
  have HML:Hid (∀j,j≤N→manyO ((lvS bs).take j) x≤200):=hid (fun j hj=>by
   have:=manyO_len ((lvS bs).take j) x
   rw[List.length_take]at this
   omega)
  have HYB:=hid (lvS_lt z2 (fun b hb=>(z4 b hb).1))
  have hx2:x<1099511627776:=by
   have:2^40=1099511627776:=by decide
   omega
  have hx3:x≤18446744073709551615:=by omega
  clear hsnoc ho1 hSl
  generalize lamC (lvS bs) (mkV pre)=LA at*
  generalize mkV pre=L at*
  unfold mskV
  gi_wp2
  gi_loopw [54,12] (fun iv mv wr=>∃j:Nat,j≤N∧iv= .int .i64 j∧mv= .int .i64 ((manyO ((lvS bs).take j) x:Nat):Int)∧Hid (wr=W)) (fun iv _ _=>N-(intOf iv).toNat)
  case atStart=>exact⟨0,Nat.zero_le _,rfl,by simp[manyO],hid rfl⟩
  case round=>
   obtain⟨j,hj,rfl,rfl,HW⟩:=hrel
   obtain rfl:=HW.out
   by_cases hjN:j<N
   ·have hjj:(j:Int)<(N:Int):=by omega
    have d1:=HC.out j hjN
    have hmt:=HMT.out j hjN
    have hml:=HML.out j hj
    have hy:=HYB.out j
    generalize (lvS bs).getD j 0=y at*
    have hand:=bits_and_u64_nat y x (by omega) (by omega)
    by_cases hq:y&&&x=x
    ·rw[if_pos (by rw[hq];simp)]at hmt
     have hb1:((bits .and .u64 (y:Int) (x:Int))==(x:Int))=true:=by rw[hand,hq];simp
     have HMT2:=hid hmt
     clear hmt hand hq
     generalize manyO ((lvS bs).take j) x=m at*
     gi_wp2
     go_roundw
     case rel=>exact⟨j+1,by omega,by go_num,by rw[HMT2.out];go_num,hid trivial⟩
     case measure=>simp[intOf]<;>omega
    ·rw[if_neg (by simpa using hq)]at hmt
     have hb1:((bits .and .u64 (y:Int) (x:Int))==(x:Int))=false:=by
      rw[hand,beq_eq_false_iff_ne]
      omega
     have HMT2:=hid hmt
     clear hmt hand hq
     generalize manyO ((lvS bs).take j) x=m at*
     gi_wp2
     go_roundw
     case rel=>exact⟨j+1,by omega,by go_num,by rw[HMT2.out];go_num,hid trivial⟩
     case measure=>simp[intOf]<;>omega
   ·obtain rfl:j=N:=by omega
    have hjj:¬(j:Int)<(j:Int):=by omega
    have hml:=HML.out j hj
    rw[HMN.out]at hml⊢
    have q1:=HR.out.1.cell
    have q2:=HR.out.2.1.cell
    have q3:=HR.out.2.2.1.cell
    have f1:=HR.out.1.frozen
    have f2:=HR.out.2.1.frozen
    have f3:=HR.out.2.2.1.frozen
    clear HMT HML HMN HYB
    generalize manyO (lvS bs) x=m at*
    by_cases hge:0≤LA
    ·by_cases hne:(m:Int)=LA
     ·subst hne
      have HOK2:=hid (HOK.out (fun h=>h.2 rfl))
      have HLI:=hid (And.intro (Boxed.set (.int .i64 (m:Int)) HI.out.2.1) (grown_transL HI.out.2.2 (grownBy_setCell' wr (w1.heap.size+1) (.int .i64 (m:Int))) (fun r e _=>by cases e;rfl)))
      have hq:((m:Int) !=(m:Int))=false:=by simp
      gi_wp2
      exact⟨(KeepsOthers.setCell _ _ _).from _,CKeep.setCell _ _ _ (by show w1.heap.size+1<w3.heap.size+1;omega),HOK2.out,by rw[HLM.out];exact HLI.out.1,HLI.out.2⟩
     ·have HNO2:=hid (HNO.out hge hne)
      have HEN:=hid (lvEnd_is HR.out.1 HR.out.2.1 HR.out.2.2.1 0 0 4)
      have HEB:=hid (lvEnd_below HR.out.2.2.2 0 0 4)
      unfold lvEnd at HEN HEB
      have hq:((m:Int) !=LA)=true:=by rw[bne_iff_ne];exact hne
      clear hne
      gi_wp2
      exact⟨(((KeepsOthers.setCell _ _ _).trans (KeepsOthers.setCell _ _ _)).trans (KeepsOthers.setCell _ _ _)).from _,rfl,HNO2.out,HEN.out.1,HEN.out.2.1,HEN.out.2.2,HEB.out⟩
    ·have HOK2:=hid (HOK.out (fun h=>hge h.1))
     have HLI:=hid (And.intro (Boxed.set (.int .i64 (m:Int)) HI.out.2.1) (grown_transL HI.out.2.2 (grownBy_setCell' wr (w1.heap.size+1) (.int .i64 (m:Int))) (fun r e _=>by cases e;rfl)))
     gi_wp2
     exact⟨(KeepsOthers.setCell _ _ _).from _,CKeep.setCell _ _ _ (by show w1.heap.size+1<w3.heap.size+1;omega),HOK2.out,by rw[HLM.out];exact HLI.out.1,HLI.out.2⟩
 case done=>
  rintro D ys W hD hys ⟨h1,h2,h3⟩ hK
  obtain⟨r1,r2,r3,rb,rk,ra,rc⟩:=GR.out W h3
  have hdL:=h2.cell
  have hNB:Hid (¬LvBad P t bs):=hid (HNB.out (by rw[←hys];exact h1))
  have HPO:=hid (LvPost.good hNB.out)
  rw[hKK.out]at HPO
  rw[hys]at hdL
  have q1:=r1.cell
  have q2:=r2.cell
  have q3:=r3.cell
  have f1:=r1.frozen
  have f2:=r2.frozen
  have f3:=r3.frozen
  have q1d:W.drew.cell? ⟨w.heap.size+1,0,none⟩=_:=q1
  have q2d:W.drew.cell? ⟨w.heap.size+1+1,0,none⟩=_:=q2
  have q3d:W.drew.cell? ⟨w.heap.size+1+1+1,0,none⟩=_:=q3
  have f1d:W.drew.frozen? ⟨w.heap.size+1,0,none⟩=_:=f1
  have f2d:W.drew.frozen? ⟨w.heap.size+1+1,0,none⟩=_:=f2
  have f3d:W.drew.frozen? ⟨w.heap.size+1+1+1,0,none⟩=_:=f3
  have rkd:W.drew.cell? ⟨w1.heap.size,0,none⟩=_:=rk
  have hdd:W.drew.cell? ⟨w1.heap.size+1,0,none⟩=_:=hdL
  generalize lamC (lvS bs) (chL P t 0 0)=LA at*
  have HKD:=hid hK
  have hb1:Boxed W.drew (w.heap.size+1) 3 (.int .i64 0):=r1
  have hb2:Boxed W.drew (w.heap.size+1+1) 3 (.int .i64 0):=r2
  have hb3:Boxed W.drew (w.heap.size+1+1+1) 49 (.int .i64 0):=r3
  have HEN:=hid (lvEnd_is hb1 hb2 hb3 K LA 0)
  have HEB:=hid (lvEnd_below (show Below w.heap.size w W.drew from⟨rb.os,rb.tape,rb.output,rb.size,rb.block⟩) K LA 0)
  clear h1 h2 h3 hK r1 r2 r3 rb hys ra rc hb1 hb2 hb3
  go_wp2
  go_region
  go_wp2
  have HV:Hid (LvFin w D K LA 0 (((W.setCell ⟨w.heap.size+1,0,none⟩ (.int .i64 K)).setCell ⟨w.heap.size+1+1,0,none⟩ (.int .i64 LA)).setCell ⟨w.heap.size+1+1+1,0,none⟩ (.int .i64 0)).drew):=hid ⟨HEN.out.1,HEN.out.2.1,HEN.out.2.2,HEB.out,by
   have hl5:=HL5.out.sz
   exact((Below.heap_setCell _ ⟨w.heap.size+1+1+1,0,none⟩ _ D (by show D≠w.heap.size+1+1+1;omega)).trans ((Below.heap_setCell _ ⟨w.heap.size+1+1,0,none⟩ _ D (by show D≠w.heap.size+1+1;omega)).trans (Below.heap_setCell _ ⟨w.heap.size+1,0,none⟩ _ D (by show D≠w.heap.size+1;omega)))).trans HKD.out,by have hl5:=HL5.out.sz;omega⟩
  obtain⟨e1,e2,e3,e4⟩:=HV.out.cells
  refine⟨by simp,.inl ⟨_,_,rfl,run_takeDeferred HV.out.dd,?_⟩⟩
  refine⟨.tuple #[.int .i64 K,.int .i64 LA,.int .i64 0],?_,HPO.out,e4⟩
  simp[results,Tryz.f119,go_sem,asAddr,e1,e2,e3]
 case stop=>
  rintro D cd pre W hD hpre ⟨rfl,h2,h3,h4,h5,h6⟩ hK
  have HA:Hid (LvBad P t bs):=hid (HBD.out (fun h=>h2 (okC_pre h hpre)))
  have HKD:=hid hK
  have H:=hid (And.intro h3 (And.intro h4 (And.intro h5 h6)))
  clear h2 h3 h4 h5 h6 hK hpre
  refine wpIn_wide.2 ?_
  go_wp2
  have HV:Hid (LvFin w D 0 0 4 W):=hid ⟨H.out.1,H.out.2.1,H.out.2.2.1,H.out.2.2.2,HKD.out,by have hl5:=HL5.out.sz;omega⟩
  obtain⟨e1,e2,e3,e4⟩:=HV.out.cells
  refine⟨by simp,.inl ⟨_,_,rfl,run_takeDeferred HV.out.dd,?_⟩⟩
  refine⟨.tuple #[.int .i64 0,.int .i64 0,.int .i64 4],?_,LvPost.bad HA.out,e4⟩
  simp[results,Tryz.f119,go_sem,asAddr,e1,e2,e3]
end Go.Proofs.YtnnaadmegeeinaaGreatDoor
