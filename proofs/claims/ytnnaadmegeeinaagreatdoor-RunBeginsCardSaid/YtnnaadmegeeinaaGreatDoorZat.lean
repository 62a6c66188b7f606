/-
  Part 46 of a proof: what it proves stands in the last text.
-/
import Derived.Test.YtnnaadmegeeinaaGreatDoorZas
import Derived.Test.YtnnaadmegeeinaaGreatDoorZar
import Derived.Test.YtnnaadmegeeinaaGreatDoorZad
import Derived.Test.YtnnaadmegeeinaaGreatDoorZaq
import Derived.Test.YtnnaadmegeeinaaGreatDoorZv
import Derived.Test.YtnnaadmegeeinaaGreatDoorZw
import Derived.Test.YtnnaadmegeeinaaGreatDoorZaa
import Derived.Test.YtnnaadmegeeinaaGreatDoorZao
import Derived.Test.YtnnaadmegeeinaaGreatDoorZq
import Derived.Test.YtnnaadmegeeinaaGreatDoorZp
import Derived.Test.YtnnaadmegeeinaaGreatDoorZap
import Derived.Test.YtnnaadmegeeinaaGreatDoorZab
import Derived.Defers
import Derived.Recover
import Derived.Laws.Pointers
import Derived.Test.YtnnaadmegeeinaaGreatDoorZt
set_option linter.unusedVariables false
set_option maxHeartbeats 8000000
set_option maxRecDepth 100000
namespace Go.Proofs.YtnnaadmegeeinaaGreatDoor
open Go.RowKit
def cmdL1:List (List UInt8×Nat×Nat):=[([102,105,101,108,100],2,26),([116,105,109,101,115],4,29),([114,111,119],4,30),([108,101,97,115,116],2,35),([99,121,99,108,101,115],1,38),([111,114,100,101,114],2,41),([98,101,97,100,115],2,45),([101,120,116,101,110,100],2,47),([108,101,118,101,108],3,48),([116,114,105,112,108,101,115],1,49)]
def cmdL2:List (List UInt8×Nat×Nat):=[([100,105,102,102,101,114],2,122),([114,117,108,101,114],1,123),([103,97,117,115,115],3,125),([98,101,110,116],1,127),([114,97,111],3,130),([99,105,114,99,108,101],1,132),([99,111,117,108,100],1,134),([98,114,117,105,106,110],2,136),([99,97,115,99,97,100,101],2,138)]
def cmdOf (T:List UInt8):Option (Nat×Nat):=((cmdL1++cmdL2).find? fun c=>c.1==T).map (·.2)
theorem later_none (T:List UInt8) (w:World) (q0:((str T).toList==[100,105,102,102,101,114])=false) (q1:((str T).toList==[114,117,108,101,114])=false) (q2:((str T).toList==[103,97,117,115,115])=false) (q3:((str T).toList==[98,101,110,116])=false) (q4:((str T).toList==[114,97,111])=false) (q5:((str T).toList==[99,105,114,99,108,101])=false) (q6:((str T).toList==[99,111,117,108,100])=false) (q7:((str T).toList==[98,114,117,105,106,110])=false) (q8:((str T).toList==[99,97,115,99,97,100,101])=false):Calls Tryz.prog 50 #[.string (str T)] w fun e w'=>e=badE badT∧Below w.heap.size w w':=by
 have HB9:=hid ((Below.refl w.heap.size w).alloc (Nat.le_refl _) (.cells #[.int .i64 0,.nilFunc] 41))
 have hbad:badE badT= .panicked [{v:= .iface 36 (.string ⟨#[98,97,100]⟩),recovered:=false}]:=rfl
 rw[hbad]
 clear hbad
 generalize str T=s at*
 go_enter Tryz.func50,Tryz.ntmps50
 go_wp2
 exact⟨rfl,rfl,HB9.out⟩
theorem find_thru (T:List UInt8) (k F:Nat) (w:World) (HL:∀w1,Calls Tryz.prog 50 #[.string (str T)] w1 fun e w'=>e= .returned (cmdV k F)∧Below w1.heap.size w1 w') (q0:((str T).toList==[102,105,101,108,100])=false) (q1:((str T).toList==[116,105,109,101,115])=false) (q2:((str T).toList==[114,111,119])=false) (q3:((str T).toList==[108,101,97,115,116])=false) (q4:((str T).toList==[99,121,99,108,101,115])=false) (q5:((str T).toList==[111,114,100,101,114])=false) (q6:((str T).toList==[98,101,97,100,115])=false) (q7:((str T).toList==[101,120,116,101,110,100])=false) (q8:((str T).toList==[108,101,118,101,108])=false) (q9:((str T).toList==[116,114,105,112,108,101,115])=false):Calls Tryz.prog 16 #[.string (str T)] w fun e w'=>e= .returned (cmdV k F)∧Below w.heap.size w w':=by
 have HA0:=hid (Arr.new w 41 [.int .i64 0,.nilFunc])
 have HB0:=hid ((Below.refl w.heap.size w).alloc (Nat.le_refl _) (.cells #[.int .i64 0,.nilFunc] 41))
 have HLL:=hid HL
 clear HL
 generalize str T=s at*
 unfold cmdV at HLL
 go_enter Tryz.func16,Tryz.ntmps16
 go_wp2_with fail
 refine(HLL.out _).mono ?_
 rintro e w1 ⟨rfl,hb1⟩
 have HB1:=hid (HB0.out.trans (hb1.mono HB0.out.size))
 have hA1:=HA0.out.below hb1
 have c0:w1.cell? ⟨w.heap.size,0,none⟩=some (.int .i64 0):=hA1.cell 0
 have c1:w1.cell? ⟨w.heap.size,1,none⟩=some .nilFunc:=hA1.cell 1
 have f0:=hA1.frozen 0
 have f1:=hA1.frozen 1
 have hs1:=hA1.lt
 obtain⟨s1,s2⟩:=hA1.stored 0 (.int .i64 (k:Int))
 obtain⟨s3,s4⟩:=s1.stored 1 (.func (Fn.func F) #[] #[])
 have c2:=s1.cell 1
 have f2:=s1.frozen 1
 simp only[List.set_cons_zero,List.set_cons_succ,List.getElem?_cons_zero,List.getElem?_cons_succ]at c2 s3
 have HB3:=hid ((HB1.out.grown s2 HB1.out.size (fun b e=>by cases e;exact Nat.le_refl _)).grown s4 (by have:=HB1.out.size;have:=s2.size;omega) (fun b e=>by cases e;exact Nat.le_refl _))
 have HA3:=hid s3
 clear hb1 hA1 s1 s2 s3 s4
 go_wp2
 have hld:=run_loadVar_mid (P:=Tryz.prog) _ _ _ 41 _ _ HA3.out.range Tryz.underlying41 rfl cmd_info
 refine⟨rfl,cmdV k F,?_,rfl,HB3.out⟩
 show((results _ _).run _ _)=_
 simp[results,Tryz.f16,asAddr,hld,cmdV]
theorem find_none (T:List UInt8) (w:World) (HL:∀w1,Calls Tryz.prog 50 #[.string (str T)] w1 fun e w'=>e=badE badT∧Below w1.heap.size w1 w') (q0:((str T).toList==[102,105,101,108,100])=false) (q1:((str T).toList==[116,105,109,101,115])=false) (q2:((str T).toList==[114,111,119])=false) (q3:((str T).toList==[108,101,97,115,116])=false) (q4:((str T).toList==[99,121,99,108,101,115])=false) (q5:((str T).toList==[111,114,100,101,114])=false) (q6:((str T).toList==[98,101,97,100,115])=false) (q7:((str T).toList==[101,120,116,101,110,100])=false) (q8:((str T).toList==[108,101,118,101,108])=false) (q9:((str T).toList==[116,114,105,112,108,101,115])=false):Calls Tryz.prog 16 #[.string (str T)] w fun e w'=>e=badE badT∧Below w.heap.size w w':=by
 have HB0:=hid ((Below.refl w.heap.size w).alloc (Nat.le_refl _) (.cells #[.int .i64 0,.nilFunc] 41))
 have HLL:=hid HL
 clear HL
 generalize str T=s at*
 go_enter Tryz.func16,Tryz.ntmps16
 go_wp2_with fail
 refine(HLL.out _).mono ?_
 rintro e w1 ⟨rfl,hb1⟩
 exact⟨rfl,rfl,HB0.out.trans (hb1.mono HB0.out.size)⟩
theorem find_any (T:List UInt8) (w:World):Calls Tryz.prog 16 #[.string (str T)] w fun e w'=>((∃k F,cmdOf T=some (k,F)∧e= .returned (cmdV k F))∨(cmdOf T=none∧e=badE badT))∧Below w.heap.size w w':=by
 by_cases h0:T=[102,105,101,108,100]
 ·subst h0
  exact(find_field w).mono fun e w' ⟨h,hb⟩=>⟨.inl ⟨_,_,rfl,h⟩,hb⟩
 by_cases h1:T=[116,105,109,101,115]
 ·subst h1
  exact(find_times w).mono fun e w' ⟨h,hb⟩=>⟨.inl ⟨_,_,rfl,h⟩,hb⟩
 by_cases h2:T=[114,111,119]
 ·subst h2
  exact(find_row w).mono fun e w' ⟨h,hb⟩=>⟨.inl ⟨_,_,rfl,h⟩,hb⟩
 by_cases h3:T=[108,101,97,115,116]
 ·subst h3
  exact(find_least w).mono fun e w' ⟨h,hb⟩=>⟨.inl ⟨_,_,rfl,h⟩,hb⟩
 by_cases h4:T=[99,121,99,108,101,115]
 ·subst h4
  exact(find_cycles w).mono fun e w' ⟨h,hb⟩=>⟨.inl ⟨_,_,rfl,h⟩,hb⟩
 by_cases h5:T=[111,114,100,101,114]
 ·subst h5
  exact(find_order w).mono fun e w' ⟨h,hb⟩=>⟨.inl ⟨_,_,rfl,h⟩,hb⟩
 by_cases h6:T=[98,101,97,100,115]
 ·subst h6
  exact(find_beads w).mono fun e w' ⟨h,hb⟩=>⟨.inl ⟨_,_,rfl,h⟩,hb⟩
 by_cases h7:T=[101,120,116,101,110,100]
 ·subst h7
  exact(find_extend w).mono fun e w' ⟨h,hb⟩=>⟨.inl ⟨_,_,rfl,h⟩,hb⟩
 by_cases h8:T=[108,101,118,101,108]
 ·subst h8
  exact(find_level w).mono fun e w' ⟨h,hb⟩=>⟨.inl ⟨_,_,rfl,h⟩,hb⟩
 by_cases h9:T=[116,114,105,112,108,101,115]
 ·subst h9
  exact(find_triples w).mono fun e w' ⟨h,hb⟩=>⟨.inl ⟨_,_,rfl,h⟩,hb⟩
 have q0:((str T).toList==[102,105,101,108,100])=false:=by rw[str_eq,beq_eq_false_iff_ne];exact h0
 have q1:((str T).toList==[116,105,109,101,115])=false:=by rw[str_eq,beq_eq_false_iff_ne];exact h1
 have q2:((str T).toList==[114,111,119])=false:=by rw[str_eq,beq_eq_false_iff_ne];exact h2
 have q3:((str T).toList==[108,101,97,115,116])=false:=by rw[str_eq,beq_eq_false_iff_ne];exact h3
 have q4:((str T).toList==[99,121,99,108,101,115])=false:=by rw[str_eq,beq_eq_false_iff_ne];exact h4
 have q5:((str T).toList==[111,114,100,101,114])=false:=by rw[str_eq,beq_eq_false_iff_ne];exact h5
 have q6:((str T).toList==[98,101,97,100,115])=false:=by rw[str_eq,beq_eq_false_iff_ne];exact h6
 have q7:((str T).toList==[101,120,116,101,110,100])=false:=by rw[str_eq,beq_eq_false_iff_ne];exact h7
 have q8:((str T).toList==[108,101,118,101,108])=false:=by rw[str_eq,beq_eq_false_iff_ne];exact h8
 have q9:((str T).toList==[116,114,105,112,108,101,115])=false:=by rw[str_eq,beq_eq_false_iff_ne];exact h9
 by_cases g0:T=[100,105,102,102,101,114]
 ·subst g0
  exact(find_thru _ _ _ w (fun w1=>later_differ w1) q0 q1 q2 q3 q4 q5 q6 q7 q8 q9).mono fun e w' ⟨h,hb⟩=>⟨.inl ⟨_,_,rfl,h⟩,hb⟩
 by_cases g1:T=[114,117,108,101,114]
 ·subst g1
  exact(find_thru _ _ _ w (fun w1=>later_ruler w1) q0 q1 q2 q3 q4 q5 q6 q7 q8 q9).mono fun e w' ⟨h,hb⟩=>⟨.inl ⟨_,_,rfl,h⟩,hb⟩
 by_cases g2:T=[103,97,117,115,115]
 ·subst g2
  exact(find_thru _ _ _ w (fun w1=>later_gauss w1) q0 q1 q2 q3 q4 q5 q6 q7 q8 q9).mono fun e w' ⟨h,hb⟩=>⟨.inl ⟨_,_,rfl,h⟩,hb⟩
 by_cases g3:T=[98,101,110,116]
 ·subst g3
  exact(find_thru _ _ _ w (fun w1=>later_bent w1) q0 q1 q2 q3 q4 q5 q6 q7 q8 q9).mono fun e w' ⟨h,hb⟩=>⟨.inl ⟨_,_,rfl,h⟩,hb⟩
 by_cases g4:T=[114,97,111]
 ·subst g4
  exact(find_thru _ _ _ w (fun w1=>later_rao w1) q0 q1 q2 q3 q4 q5 q6 q7 q8 q9).mono fun e w' ⟨h,hb⟩=>⟨.inl ⟨_,_,rfl,h⟩,hb⟩
 by_cases g5:T=[99,105,114,99,108,101]
 ·subst g5
  exact(find_thru _ _ _ w (fun w1=>later_circle w1) q0 q1 q2 q3 q4 q5 q6 q7 q8 q9).mono fun e w' ⟨h,hb⟩=>⟨.inl ⟨_,_,rfl,h⟩,hb⟩
 by_cases g6:T=[99,111,117,108,100]
 ·subst g6
  exact(find_thru _ _ _ w (fun w1=>later_could w1) q0 q1 q2 q3 q4 q5 q6 q7 q8 q9).mono fun e w' ⟨h,hb⟩=>⟨.inl ⟨_,_,rfl,h⟩,hb⟩
 by_cases g7:T=[98,114,117,105,106,110]
 ·subst g7
  exact(find_thru _ _ _ w (fun w1=>later_bruijn w1) q0 q1 q2 q3 q4 q5 q6 q7 q8 q9).mono fun e w' ⟨h,hb⟩=>⟨.inl ⟨_,_,rfl,h⟩,hb⟩
 by_cases g8:T=[99,97,115,99,97,100,101]
 ·subst g8
  exact(find_thru _ _ _ w (fun w1=>later_cascade w1) q0 q1 q2 q3 q4 q5 q6 q7 q8 q9).mono fun e w' ⟨h,hb⟩=>⟨.inl ⟨_,_,rfl,h⟩,hb⟩
 have r0:((str T).toList==[100,105,102,102,101,114])=false:=by rw[str_eq,beq_eq_false_iff_ne];exact g0
 have r1:((str T).toList==[114,117,108,101,114])=false:=by rw[str_eq,beq_eq_false_iff_ne];exact g1
 have r2:((str T).toList==[103,97,117,115,115])=false:=by rw[str_eq,beq_eq_false_iff_ne];exact g2
 have r3:((str T).toList==[98,101,110,116])=false:=by rw[str_eq,beq_eq_false_iff_ne];exact g3
 have r4:((str T).toList==[114,97,111])=false:=by rw[str_eq,beq_eq_false_iff_ne];exact g4
 have r5:((str T).toList==[99,105,114,99,108,101])=false:=by rw[str_eq,beq_eq_false_iff_ne];exact g5
 have r6:((str T).toList==[99,111,117,108,100])=false:=by rw[str_eq,beq_eq_false_iff_ne];exact g6
 have r7:((str T).toList==[98,114,117,105,106,110])=false:=by rw[str_eq,beq_eq_false_iff_ne];exact g7
 have r8:((str T).toList==[99,97,115,99,97,100,101])=false:=by rw[str_eq,beq_eq_false_iff_ne];exact g8
 have hno:cmdOf T=none:=by
  unfold cmdOf
  rw[List.find?_eq_none.2]
  ·rfl
  ·intro c hc
   have:c.1≠T:=by
    rintro rfl
    simp only[cmdL1,cmdL2,List.cons_append,List.nil_append,List.mem_cons,List.mem_nil_iff,or_false]at hc
    rcases hc with rfl|rfl|rfl|rfl|rfl|rfl|rfl|rfl|rfl|rfl|rfl|rfl|rfl|rfl|rfl|rfl|rfl|rfl|rfl
    ·exact h0 rfl
    ·exact h1 rfl
    ·exact h2 rfl
    ·exact h3 rfl
    ·exact h4 rfl
    ·exact h5 rfl
    ·exact h6 rfl
    ·exact h7 rfl
    ·exact h8 rfl
    ·exact h9 rfl
    ·exact g0 rfl
    ·exact g1 rfl
    ·exact g2 rfl
    ·exact g3 rfl
    ·exact g4 rfl
    ·exact g5 rfl
    ·exact g6 rfl
    ·exact g7 rfl
    ·exact g8 rfl
   simpa using this
 exact(find_none T w (fun w1=>later_none T w1 r0 r1 r2 r3 r4 r5 r6 r7 r8) q0 q1 q2 q3 q4 q5 q6 q7 q8 q9).mono fun e w' ⟨h,hb⟩=>⟨.inr ⟨hno,h⟩,hb⟩
theorem exR_rng (n:Nat):∀(rs:List (List Nat)) (cs:List Nat),0≤exR n cs rs∧exR n cs rs≤6
 |[],cs=>by
  unfold exR
  split<;>decide
 |r::rs,cs=>by
  have:=exR_rng n rs (cs++r)
  unfold exR
  repeat' split
  all_goals first|assumption|decide
theorem extE_rng (n:Nat) (rs:List (List Nat)):0≤extE n rs∧extE n rs≤6:=by
 have h:=exR_rng n rs []
 have h2:0≤extF n rs∧extF n rs≤6:=by
  unfold extF
  repeat' split
  all_goals first|assumption|decide
 unfold extE
 repeat' split
 all_goals first|assumption|decide
theorem exR_zero {n:Nat}:∀(rs:List (List Nat)) (cs:List Nat),exR n cs rs=0→rs.flatten.length=n*rs.length∧∀x∈rs.flatten,x<n
 |[],cs,_=>by simp
 |r::rs,cs,h=>by
  unfold exR at h
  split at h
  ·cases h
  ·rename_i h1
   split at h
   ·cases h
   ·rename_i h2
    obtain⟨h3,h4⟩:=exR_zero rs _ h
    rw[List.flatten_cons,List.length_append,List.length_cons,h3,Nat.mul_succ]
    refine⟨by omega,fun x hx=> ?_⟩
    rcases List.mem_append.1 hx with hx|hx
    ·refine Classical.byContradiction fun hc=>h2 ?_
     rw[List.any_eq_true]
     exact⟨x,hx,decide_eq_true (by omega)⟩
    ·exact h4 x hx
theorem extE_zero {n:Nat} {rs:List (List Nat)} (h:extE n rs=0):(1≤n∧n≤8)∧rs.length≤n∧(extC n rs).length=n*n∧∀x∈extC n rs,x<n:=by
 unfold extE at h
 split at h
 ·rename_i h1
  exact absurd h h1
 ·rename_i h1
  have h2:extF n rs=0:=by simpa using h1
  have h3:¬(n<1∨8<n):=fun hc=>by
   unfold extF at h2
   rw[if_pos hc]at h2
   cases h2
  have h4:¬n<rs.length:=fun hc=>by
   unfold extF at h2
   rw[if_neg h3,if_pos hc]at h2
   cases h2
  have h5:exR n [] rs=0:=by
   unfold extF at h2
   rwa [if_neg h3,if_neg h4]at h2
  obtain⟨h6,h7⟩:=exR_zero rs [] h5
  split at h
  ·cases h
  ·rename_i h8
   obtain⟨m,hm⟩:∃m,exA n (n-rs.length) rs.flatten=some m:=by
    cases e:exA n (n-rs.length) rs.flatten with
    |none=>rw[e]at h8;exact absurd rfl h8
    |some m=>exact⟨m,rfl⟩
   have hc:extC n rs=m:=by unfold extC;rw[hm];rfl
   have h9:=exA_len _ _ _ hm
   have h10:=exA_in _ _ _ h7 hm
   rw[hc]
   refine⟨by omega,by omega,?_,h10⟩
   rw[h9,h6,←Nat.mul_add]
   congr 1
   omega
theorem pkExt:PkExt extE (fun n rs=>ofN (extC n rs)):=by
 intro n rs v1 w1 hW h0 hr
 have hr1:RL w1 v1 (rs.map ofN):=hr.1
 have key:Calls Tryz.prog 117 #[.int .i64 n,v1] w1 fun en w'=>ExtR n rs en w'∧Below w1.heap.size w1 w':=by
  by_cases h:(n<1∨8<n)∨n<rs.length
  ·exact Extend_bad n rs v1 w1 hr1 h
  ·exact Extend_main n rs v1 w1 hr1 hr.2 (by omega) (by omega) (by omega)
 refine key.mono ?_
 rintro e w' ⟨⟨P,pa,pn,pc,rfl,hR⟩,hb⟩
 refine⟨P,pa,pn,pc,rfl,extE_rng n rs,fun h=> ?_,hb⟩
 obtain⟨h1,h2⟩:=hR h
 obtain⟨h3,h4,h5,h6⟩:=extE_zero h
 refine⟨h1,by omega,h2,fun x hx=> ?_,by rw[ofN_len];exact h5⟩
 unfold ofN at hx
 obtain⟨y,hy,rfl⟩:=List.mem_map.1 hx
 have:=h6 y hy
 unfold I64
 omega
end Go.Proofs.YtnnaadmegeeinaaGreatDoor
namespace Go.Proofs.YtnnaadmegeeinaaGreatDoor
open Go.RowKit
def lstE (a0 a1:Nat):Int:=if ordF a0 a1=0 then 1 else 0
open Classical in
noncomputable def lstN (P K:Nat):Nat:=if h:ordF P K≠0 then Classical.choose (ir_ex h)else 0
noncomputable def lstX (P K:Nat):List Int:=nZ (dgL P (lstN P K) K)
theorem pkLst:PkLst lstE lstX:=by
 intro P K w1 hW h0 h1
 by_cases h:ordF P K=0
 ·have hx:lstE P K=1:=if_pos h
  refine(FLeast_bad P K w1 (by unfold I64;omega) hW.prs h).mono ?_
  rintro e w' ⟨rfl,hb⟩
  exact⟨0,0,none,0,0,by rw[hx];rfl,by rw[hx];decide,fun h2=>absurd (hx.symm.trans h2) (by decide),hb⟩
 ·have hx:lstE P K=0:=if_neg h
  have hN:lstN P K=Classical.choose (ir_ex h):=dif_pos h
  obtain⟨g1,g2,g3⟩:=Classical.choose_spec (ir_ex h)
  rw[←hN]at g1 g2 g3
  obtain⟨P',K',e1,e2,_,p2,p61,_,k6,_,_⟩:=ord_pos h
  refine(FLeast_ok P K (lstN P K) w1 hW.prs h g1 g2 g3).mono ?_
  rintro e w' ⟨⟨u,rfl,hu⟩,hb⟩
  obtain⟨pa,pc,rfl⟩:=hu.len
  have hl:(nZ (dgL P (lstN P K) K)).length=K:=by rw[nZ,List.length_map,dgL_len]
  refine⟨P,K,pa,_,pc,by rw[hx];rfl,by rw[hx];decide,fun _=>⟨rfl,rfl,hu,fun x hx2=> ?_,by unfold lstX;omega⟩,hb⟩
  obtain⟨y,hy,rfl⟩:=List.mem_map.1 hx2
  obtain⟨i,hi,rfl⟩:=List.getElem_of_mem hy
  have:=dgL_lt (P:=P) (n:=lstN P K) (by omega) K i
  rw[List.getD_eq_getElem?_getD,List.getElem?_eq_getElem hi,Option.getD_some]at this
  unfold I64
  omega
end Go.Proofs.YtnnaadmegeeinaaGreatDoor
namespace Go.Proofs.YtnnaadmegeeinaaGreatDoor
open Go.RowKit
theorem faE_rng (p k:Int) (low:List Int):0≤faE p k low∧faE p k low≤6:=by
 unfold faE
 repeat' split
 all_goals decide
theorem wiE_rng (p k:Int) (low es:List Int):0≤wiE p k low es∧wiE p k low es≤6:=by
 have:=faE_rng p k low
 unfold wiE
 repeat' split
 all_goals first|assumption|decide
theorem mulR_I (p k:Int) (low:List Int) (x y:Int):I64 (mulR p k low x y):=by
 unfold mulR
 split
 ·rename_i h
  obtain⟨hf,_⟩:=wi_ok h
  have ho:ordF p k≠0:=fun h0=>by rw[fa_bad h0]at hf;cases hf
  obtain⟨P,K,rfl,rfl,_,h2,h61,hk1,hk6,hq,_⟩:=ord_pos ho
  have:=mulF_lt (P:=P) (K:=K) (by omega) (by omega) (toN low) x.toNat y.toNat
  simp only[Int.toNat_natCast]
  unfold I64
  omega
 ·unfold I64
  decide
theorem pkMul (E:Nat→Nat→Int) (Lo:Nat→Nat→List Int):PkMul E Lo (fun a0 a1 a2 a3=>wiE a0 a1 (Lo a0 a1) [(a2:Int),(a3:Int)]) (fun a0 a1 a2 a3=>mulR a0 a1 (Lo a0 a1) a2 a3):=by
 intro a0 a1 a2 a3 u w1 hW h0 h1 h2 h3 hE hs h64
 refine(Mul_any a0 a1 a2 a3 u (Lo a0 a1) w1 (by unfold I64;omega) (by unfold I64;omega) (by unfold I64;omega) (by unfold I64;omega) hW.prs hs h64).mono ?_
 rintro e w' ⟨rfl,hb⟩
 exact⟨rfl,wiE_rng _ _ _ _,mulR_I _ _ _ _ _,hb⟩
theorem leastE_rng (p:Int) (l:List Int):0≤leastE p l∧leastE p l≤6:=by
 unfold leastE
 repeat' split
 all_goals decide
def LeaQ (P:Nat) (s:List Int) (L:Nat) (t:List Int):Prop:=∃(C B:Nat→Int) (g:Nat) (b:Int),BM P (gD s) s.length C B L g b∧t=lsT P C L s.length
theorem leaQ_one {P:Nat} {s:List Int} {L L':Nat} {t t':List Int} (hp:smallB (P:Int)=true) (h:LeaQ P s L t) (h':LeaQ P s L' t'):L=L'∧t=t':=by
 obtain⟨C,B,g,b,H,rfl⟩:=h
 obtain⟨C',B',g',b',H',rfl⟩:=h'
 have h1:=H.mini C' L' H'.c0 H'.gen
 have h2:=H'.mini C L H.c0 H.gen
 obtain rfl:L=L':=by omega
 refine⟨rfl,?_⟩
 unfold lsT
 split
 ·rfl
 ·rename_i hc
  unfold bmT
  refine List.map_congr_left fun j hj=> ?_
  have hj:=List.mem_range.1 hj
  have h3:=bm_uniq hp H (by omega) H.c0 H'.c0 H.gen H'.gen (j+1) (by omega)
  refine Int.emod_eq_emod_iff_emod_sub_eq_zero.2 (Int.emod_eq_zero_of_dvd ?_)
  exact dvd_cast ((Int.dvd_neg).2 h3) (show-(C (j+1)-C' (j+1))=_ by omega)
theorem leastE_zero {p:Int} {seen:List Int} (h:leastE p seen=0):smallB p=true∧seen.length≤60∧fitB p seen=true:=by
 have hp:smallB p=true:=by
  cases hs:smallB p with
  |true=>rfl
  |false=>unfold leastE at h;rw[if_pos hs]at h;cases h
 have hl:seen.length≤60:=by
  refine Classical.byContradiction fun hc=> ?_
  unfold leastE at h
  rw[hp,if_neg (by decide),if_pos (by omega)]at h
  cases h
 refine⟨hp,hl,?_⟩
 cases hs:fitB p seen with
 |true=>rfl
 |false=>unfold leastE at h;rw[hp,if_neg (by decide),if_neg (by omega),if_pos hs]at h;cases h
def LeaR (a:Nat×List Nat) (r:Int×List Int):Prop:=(I64 r.1∧(∀x∈r.2,I64 x)∧r.2.length≤60)∧(leastE a.1 (intsN a.2)≠0→r=(0,[]))∧(leastE a.1 (intsN a.2)=0→∀L t,LeaQ a.1 (intsN a.2) L t→r=((L:Int),t))
theorem leaR_ex (a:Nat×List Nat):∃r,LeaR a r:=by
 by_cases h:leastE a.1 (intsN a.2)=0
 ·obtain⟨hp,hl,hf⟩:=leastE_zero h
  by_cases hx:∃L t,LeaQ a.1 (intsN a.2) L t
  ·obtain⟨L,t,hq⟩:=hx
   refine⟨((L:Int),t),?_,fun h1=>absurd h h1,fun _ L' t' h'=> ?_⟩
   ·obtain⟨C,B,g,b,H,rfl⟩:=hq
    have hsm:=small_cases hp
    have hln:=H.ln
    dsimp only
    refine⟨by unfold I64;omega,fun x hx=> ?_,?_⟩
    ·unfold lsT at hx
     split at hx
     ·cases hx
     ·have:=bmT_in (p:=(a.1:Int)) (by omega) C L x hx
      unfold I64
      omega
    ·unfold lsT
     split
     ·simp
     ·rw[bmT_len];omega
   ·obtain⟨h1,h2⟩:=leaQ_one hp hq h'
    rw[h1,h2]
  ·exact⟨(0,[]),⟨by unfold I64;omega,by simp,by simp⟩,fun _=>rfl,fun _ L t h'=>absurd ⟨L,t,h'⟩ hx⟩
 ·exact⟨(0,[]),⟨by unfold I64;omega,by simp,by simp⟩,fun _=>rfl,fun h1=>absurd h1 h⟩
noncomputable def leaF (a:Nat×List Nat):Int×List Int:=Classical.choose (leaR_ex a)
theorem leaF_ok (a:Nat×List Nat):LeaR a (leaF a):=Classical.choose_spec (leaR_ex a)
noncomputable def leaX (p:Nat) (l:List Nat):Int:=(leaF (p,l)).1
noncomputable def leaY (p:Nat) (l:List Nat):List Int:=(leaF (p,l)).2
theorem leaY_bd (p:Nat) (l:List Nat):I64 (leaX p l)∧(∀x∈leaY p l,I64 x)∧(leaY p l).length≤60:=(leaF_ok (p,l)).1
theorem leaF_at {p:Nat} {l:List Nat} (h:leastE p (intsN l)=0) {C B:Nat→Int} {L g:Nat} {b:Int} (H:BM p (gD (intsN l)) (intsN l).length C B L g b):leaX p l=(L:Int)∧leaY p l=lsT p C L (intsN l).length:=by
 have:=(leaF_ok (p,l)).2.2 h L _ ⟨C,B,g,b,H,rfl⟩
 exact⟨congrArg Prod.fst this,congrArg Prod.snd this⟩
theorem pkLea:PkLea (fun p l=>leastE p (intsN l)) leaX leaY:=by
 intro a0 a1 v1 w1 hW h0 hr
 have hi:=intsN_I64 hr.2.1
 have hbd:=leaY_bd a0 a1
 by_cases hE:leastE a0 (intsN a1)=0
 ·obtain⟨hp,hl,hf⟩:=leastE_zero hE
  refine(RLeast_ok a0 v1 (intsN a1) w1 hr.1 hp hl hf hi).mono ?_
  rintro e w' ⟨⟨u,C,B,L,g,b,rfl,hu,H⟩,hb⟩
  obtain⟨e1,e2⟩:=leaF_at hE H
  rw[←e2]at hu
  obtain⟨pa,pc,e⟩:=hu.len
  refine⟨u,by dsimp only;rw[e1,hE],leastE_rng _ _,fun _=>⟨hbd.1,hu.sl (by omega),hbd.2.1,by omega⟩,⟨pa,_,pc,e⟩,hb⟩
 ·have h1:=(leaF_ok (a0,a1)).2.1 hE
  have e1:leaX a0 a1=0:=congrArg Prod.fst h1
  refine(RLeast_bad a0 v1 (intsN a1) w1 hr.1 hi hE).mono ?_
  rintro e w' ⟨rfl,hb⟩
  exact⟨.slice none 0 0,by dsimp only;rw[e1],leastE_rng _ _,fun h=>absurd h hE,⟨_,_,_,rfl⟩,hb⟩
def casE (m k:Nat):Int:=if k<1∨30<k then 1 else if 1000000000<m then 3 else 0
theorem casE_rng (m k:Nat):0≤casE m k∧casE m k≤6:=by
 unfold casE
 repeat' split
 all_goals decide
theorem pkCas1:PkCas1 casE (fun m k=>natC (casc k m)):=by
 intro m k w1 hW h0 h1
 by_cases a1:k<1∨30<k
 ·have hx:casE m k=1:=if_pos a1
  refine(Cascade_bad m k w1 (by omega)).mono ?_
  rintro e w' ⟨rfl,hb⟩
  exact⟨.slice none 0 0,by rw[hx],casE_rng _ _,fun h2=>absurd (hx.symm.trans h2) (by decide),⟨_,_,_,rfl⟩,hb⟩
 have hx:casE m k=0:=by unfold casE;rw[if_neg a1,if_neg (by omega)]
 refine(Cascade_ok m k w1 (by omega) (by omega) (by omega)).mono ?_
 rintro e w' ⟨⟨u,rfl,hu⟩,hb⟩
 obtain⟨pa,pc,e⟩:=hu.len
 have hl:=casc_len k m
 have hl2:(natC (casc k m)).length=(casc k m).length:=by simp[natC]
 refine⟨u,by rw[hx],casE_rng _ _,fun _=>⟨hu.sl (by omega),fun x hx2=> ?_,by dsimp only;omega⟩,⟨pa,_,pc,e⟩,hb⟩
 obtain⟨y,hy,rfl⟩:=List.mem_map.1 hx2
 obtain⟨i,hi,rfl⟩:=List.getElem_of_mem hy
 have:=(casc_prop k m i (by omega) (by omega) hi).2.2.2
 rw[List.getD_eq_getElem?_getD,List.getElem?_eq_getElem hi,Option.getD_some]at this
 unfold I64
 omega
theorem pkCas2:PkCas2 casE (fun m k=>if casE m k=0 then((lsS k (casc k m) (casc k m).length:Nat):Int)else 0):=by
 intro m k w1 hW h0 h1
 by_cases a1:k<1∨30<k
 ·have hx:casE m k=1:=if_pos a1
  refine(Least_bad m k w1 (by omega)).mono ?_
  rintro e w' ⟨rfl,hb⟩
  exact⟨by dsimp only;rw[hx];rfl,casE_rng _ _,fun h2=>absurd (hx.symm.trans h2) (by decide),hb⟩
 have hx:casE m k=0:=by unfold casE;rw[if_neg a1,if_neg (by omega)]
 refine(Least_ok m k w1 (by omega) (by omega) (by omega)).mono ?_
 rintro e w' ⟨rfl,hb⟩
 have hl:=casc_len k m
 have hB:=ls_bd (k:=k) (m:=m) (by omega) (by omega) _ (Nat.le_refl _)
 have hB2:(casc k m).length*30000000000≤30*30000000000:=Nat.mul_le_mul_right _ (by omega)
 refine⟨by dsimp only;rw[hx];rfl,casE_rng _ _,fun _=> ?_,hb⟩
 dsimp only
 rw[if_pos hx]
 unfold I64
 omega
theorem catch_idle (p:Addr) (w:World):
 CallsD Tryz.prog 14 #[.pointer (some p)] .returning w fun e u' w'=>e= .returned (.tuple #[])∧u'= .returning∧Below w.heap.size w w':=by
 refine callsD_of_wpS Tryz.func14 rfl fun c₀ cs hu=> ?_
 have HB:=hid (Below.refl w.heap.size w)
 apply wpS_seq
 apply wpS_region
 simp[wpOpsS,go_sem,recoverD,hu,Tryz.ntmps14,Exit.thenS]
 refine wpS_of_wp ?_
 go_wp2
 cases c₀
 simp_all [bodyPostS,results,Tryz.f14]
 exact HB.out
theorem catch_fault (b:Nat) (x s:ByteArray) (older:List PanicEntry) (w:World) (hc:w.cell? ⟨b,0,none⟩=some (.string x)) (hz:w.frozen? ⟨b,0,none⟩=false):
 CallsD Tryz.prog 14 #[.pointer (some ⟨b,0,none⟩)] (.panicking ({v:= .iface 36 (.string s),recovered:=false}::older)) w fun e u' w'=>e= .returned (.tuple #[])∧u'= .panicking ({v:= .iface 36 (.string s),recovered:=true}::older)∧w'=w.setCell ⟨b,0,none⟩ (.string s):=by
 have as0:=fun(v:Value) (w:World)=>assert_yes (P:=Tryz.prog) (t:=36) (xT:=20) Tryz.underlying36 (fun m h=>by cases h) v w
 refine callsD_of_wpS Tryz.func14 rfl fun c₀ cs hu=> ?_
 apply wpS_seq
 apply wpS_region
 simp[wpOpsS,go_sem,recoverD,hu,Tryz.ntmps14,Exit.thenS]
 refine wpS_of_wp ?_
 go_wp2
 simp_all [bodyPostS,results,Tryz.f14]
theorem rbF_mks {e:Nat}:∀(k:Nat) (l r:List Nat),Mks e l→rbF e k l=some r→Mks e r
 |0,l,r,hM,h=>by
  rw[rbF]at h
  split at h
  ·cases h;exact hM
  ·cases h
 |k+1,l,r,hM,h=>by
  rw[rbF,List.findSome?_eq_some_iff]at h
  obtain⟨l1,m,l2,hc,hm,_⟩:=h
  have hmem:m∈rbC e (k+1) (l.getLastD 0):=by rw[hc];simp
  have hb:l.getLastD 0<m∧m≤e:=by
   unfold rbC at hmem
   split at hmem
   ·split at hmem
    ·have:=List.mem_singleton.1 hmem
     omega
    ·cases hmem
   ·have:=List.mem_range'_1.1 hmem
    omega
  split at hm
  ·exact rbF_mks k _ r (hM.snoc hb.1 hb.2) hm
  ·cases hm
theorem rulG_bd {n:Nat}:∀f e,f+e≤1000→∀x∈rulG n f e,x≤1000
 |0,e,_,x,hx=>by cases hx
 |f+1,e,h,x,hx=>by
  rw[rulG]at hx
  cases hr:rbF e (n-1) [0]with
  |some r=>
   rw[hr]at hx
   have hM:=rbF_mks (n-1) [0] r (mks0 e) hr
   obtain⟨i,hi,rfl⟩:=List.getElem_of_mem hx
   have:=hM.bd i hi
   rw[List.getD_eq_getElem?_getD,List.getElem?_eq_getElem hi,Option.getD_some]at this
   omega
  |none=>
   rw[hr]at hx
   exact rulG_bd f (e+1) (by omega) x hx
theorem rulG_len {n:Nat}:∀f e,(rulG n f e).length≤n+1
 |0,e=>by simp[rulG]
 |f+1,e=>by
  rw[rulG]
  split
  ·rename_i r hr
   have:=rbF_len (n-1) [0] r hr
   simp at this
   omega
  ·exact rulG_len f (e+1)
theorem rulX_bd (n:Nat):(∀x∈rulX n,I64 x)∧(rulX n).length≤8:=by
 unfold rulX
 split
 ·rename_i h
  refine⟨fun x hx=> ?_,?_⟩
  ·unfold ofN at hx
   obtain⟨y,hy,rfl⟩:=List.mem_map.1 hx
   have:=rulG_bd 100 (n-1) (by omega) y hy
   unfold I64
   omega
  ·rw[ofN_len]
   have:=rulG_len (n:=n) 100 (n-1)
   omega
 ·exact⟨by simp,by simp⟩
def rulE (n:Nat):Int:=if 1≤n∧n≤7 then 0 else 1
theorem rulE_rng (n:Nat):0≤rulE n∧rulE n≤6:=by unfold rulE;split<;>decide
theorem pkRul:PkRul rulE rulX:=by
 intro n w1 hW h0
 have hbd:=rulX_bd n
 by_cases h:1≤n∧n≤7
 ·have e1:rulE n=0:=if_pos h
  refine(Best_ok n w1 h.1 h.2).mono ?_
  rintro e w' ⟨⟨pa,pn,pc,rfl,hS,_⟩,hb⟩
  exact⟨_,by rw[e1],rulE_rng _,fun _=>⟨hS,hbd.1,by omega⟩,⟨_,_,_,rfl⟩,hb⟩
 ·have e1:rulE n=1:=if_neg h
  refine(Best_bad n w1 h).mono ?_
  rintro e w' ⟨rfl,rfl⟩
  exact⟨_,by rw[e1],rulE_rng _,fun h2=>absurd (e1.symm.trans h2) (by decide),⟨_,_,_,rfl⟩,Below.refl _ _⟩
end Go.Proofs.YtnnaadmegeeinaaGreatDoor
