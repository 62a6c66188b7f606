/-
  Part 34 of a proof: what it proves stands in the last text.
-/
import Derived.RangeFuncBox
import Derived.RangeFuncLeaves
import Derived.Shelf.Abstract
import Derived.WalkKit
import Derived.OwnWalkIn
import Derived.TacticsInMore
import Derived.LoopNIn
import Derived.LoopIn
import Derived.Maps.AppendAt
import Derived.Test.YtnnaadmegeeinaaGreatDoorZs
import Derived.Test.YtnnaadmegeeinaaGreatDoorZd
import Derived.Test.YtnnaadmegeeinaaGreatDoorZq
import Derived.Test.YtnnaadmegeeinaaGreatDoorZag
set_option linter.unusedVariables false
set_option maxHeartbeats 8000000
set_option maxRecDepth 100000
namespace Go.Proofs.YtnnaadmegeeinaaGreatDoor
open Go.RowKit Go.Shelf
attribute [local go_sem] Oper.semAt_some
def uptoL (l:List Int) (k:Nat):List Int:=(List.range k).map fun j=>l[j]?.getD 0
theorem uptoL_succ (l:List Int) (k:Nat):uptoL l (k+1)=uptoL l k++[l[k]?.getD 0]:=by simp[uptoL,List.range_succ]
theorem uptoL_length (l:List Int) (k:Nat):(uptoL l k).length=k:=by simp[uptoL]
theorem uptoL_all (l:List Int):uptoL l l.length=l:=by
 apply List.ext_getElem
 ·simp[uptoL]
 ·intro i h1 h2
  simp[uptoL,h2]
theorem uptoL_take (l:List Int) {k:Nat} (hk:k≤l.length):uptoL l k=l.take k:=by
 apply List.ext_getElem
 ·simp[uptoL,hk]
 ·intro i h1 h2
  have:i<l.length:=by simp[uptoL]at h1;omega
  simp[uptoL,this]
theorem values1_in (F:Fence) (n:Nat) (h7:F.fn 269) (hro:F.round=none) (hn:1≤n) (r Bs n₀ b off len cap:Nat) (zs:List Int) (hreach:len*8≤140737488351232) (hb:b<n₀) (J Jx:List Int→World→Prop)
 (hY:∀pre x W,J pre W→pre.length<len→YieldAt F (n-1) Tryz.prog r #[.int .i64 x] W fun e W'=>
   (e= .returned (.bool true)∧J (pre++[x]) W'∧Below n₀ W W')∨(e= .returned (.bool false)∧Jx (pre++[x]) W'))
 (W:World) (hBs:W.cell? ⟨Bs,0,none⟩=some (.slice (some ⟨b,off,none⟩) len cap)) (hc:∀j,j<len→W.cell? ⟨b,off+j,none⟩=some (.int .i64 (zs[j]?.getD 0))) (h0:J [] W):
 CallsIn F n Tryz.prog 269 #[.func (.yield r) #[] #[],.pointer (some ⟨Bs,0,none⟩)] W fun e W'=>(∃v,e= .returned v)∧
  ((∃ys,ys=uptoL zs len∧J ys W')∨(∃pre,(∃k,k≤len∧pre=uptoL zs k)∧Jx pre W')):=by
 refine callsIn_of_wp Tryz.func269 rfl h7 ?_ hro
 simp only[Tryz.ntmps269,List.size_toArray,List.length_cons,List.length_nil,Nat.reduceAdd,Nat.reduceSub,Array.replicate_succ,Array.replicate_zero,List.push_toArray,List.append_toArray,List.nil_append,List.cons_append]
 gi_wp2
 gi_loopw [7] (fun i wr=>∃k:Nat,k≤len∧i= .int .i64 k∧J (uptoL zs k) wr∧Below n₀ W wr)
  (fun i _=>len-(intOf i).toNat)
 case atStart=>exact⟨0,Nat.zero_le _,rfl,h0,Below.refl _ _⟩
 case round=>
  obtain⟨k,hk,rfl,hJs,hnx⟩:=hrel
  have hcx:k<len→wr.cell? ⟨b,off+k,none⟩=some (.int .i64 (zs[k]?.getD 0)):=fun h=>(hnx.cell (p:=⟨b,off+k,none⟩) hb).trans (hc k h)
  by_cases hlt:k<len
  ·obtain⟨fn,tmps,assign,body,hy,hR⟩:=hY _ (zs[k]?.getD 0) wr hJs (by rw[uptoL_length];exact hlt)
   have hcx':=hcx hlt
   gi_wp2
   refine hR.mono ?_
   rintro e W3 (⟨rfl,hJ3,hk3⟩|⟨rfl,hJx3⟩)
   ·gi_wp2
    go_roundw
    case rel=>exact⟨k+1,by omega,by simp,by rw[uptoL_succ];exact hJ3,hnx.trans hk3⟩
    case measure=>simp[intOf];omega
   ·gi_wp2
    refine bodyPost_ret (results_none rfl _ _ _) rfl ?_
    exact⟨⟨_,rfl⟩,.inr ⟨_,⟨k+1,by omega,(uptoL_succ _ _).symm⟩,hJx3⟩⟩
  ·obtain rfl:k=len:=by omega
   gi_wp2
   go_end0
   exact⟨⟨_,rfl⟩,.inl ⟨_,rfl,hJs⟩⟩
theorem values_in (F:Fence) (n:Nat) (h5:F.fn 218) (hro:F.round=none) (a:Option Addr) (len cap:Nat) (w:World):
 CallsIn F n Tryz.prog 218 #[.slice a len cap] w fun e w'=>e= .returned (.func (.func 269) #[] #[.pointer (some ⟨w.heap.size,0,none⟩)])∧w'=w.alloc (.cells #[.slice a len cap] 45):=by
 refine callsIn_of_wp Tryz.func218 rfl h5 ?_ hro
 simp only[Tryz.ntmps218,List.size_toArray,List.length_cons,List.length_nil,Nat.reduceAdd,Nat.reduceSub,Array.replicate_succ,Array.replicate_zero,List.push_toArray,List.append_toArray,List.nil_append,List.cons_append]
 gi_wp2
 go_ret
 exact⟨rfl,rfl⟩
theorem values_stops (F:Fence) (n:Nat) (h7:F.fn 269) (hro:F.round=none) (hn:1≤n) (Bs n₀:Nat) (b off cap:Nat) (zs:List Int) (hreach:zs.length*8≤140737488351232) (w:World) (hBs:Bs<w.heap.size) (hn₀:n₀≤w.heap.size)
 (hc:w.cell? ⟨Bs,0,none⟩=some (.slice (some ⟨b,off,none⟩) zs.length cap)) (hb:b<n₀) (hI:∀j,j<zs.length→w.cell? ⟨b,off+j,none⟩=some (.int .i64 (zs[j]?.getD 0))):
 SeqStopsK F n Tryz.prog 269 #[.pointer (some ⟨Bs,0,none⟩)] (fun x:Int=> #[Value.int .i64 x]) (Below n₀) (fun ys=>ys=zs) (fun pre=>pre<+:zs) zs.length w:=fun r J Jx W hW _ _ hY h0=>by
 have hc':=(hW.cell (p:=⟨Bs,0,none⟩) hBs).trans hc
 refine(values1_in F n h7 hro hn r Bs n₀ b off zs.length cap zs hreach hb J Jx hY W hc' (fun j hj=>(hW.cell (p:=⟨b,off+j,none⟩) (by show b<w.heap.size;omega)).trans (hI j hj)) h0).mono ?_
 rintro e W' ⟨he,⟨ys,rfl,hj⟩|⟨pre,⟨k,hk,rfl⟩,hj⟩⟩
 ·exact⟨he,.inl ⟨_,uptoL_all zs,hj⟩⟩
 ·exact⟨he,.inr ⟨_,by rw[uptoL_take zs hk];exact List.take_prefix _ _,hj⟩⟩
theorem appendSeq_ok (Bs b off cap:Nat) (zs:List Int) (w:World) (hlen:zs.length≤1000) (hBs:Bs<w.heap.size) (hb:b<w.heap.size)
 (hc:w.cell? ⟨Bs,0,none⟩=some (.slice (some ⟨b,off,none⟩) zs.length cap)) (hI:∀j,j<zs.length→w.cell? ⟨b,off+j,none⟩=some (.int .i64 (zs[j]?.getD 0))):
 Calls Tryz.prog 291 #[.slice none 0 0,.func (.func 269) #[] #[.pointer (some ⟨Bs,0,none⟩)]] w fun e W'=>(∃v,e= .returned v∧OI w.heap.size W' v zs)∧Below w.heap.size w W':=by
 obtain⟨i0,hi,hz0,hz1,hz2⟩:=info_parts Tryz.info3
 refine callsIn_wide.1 (callsIn_of_wp_marks (F:=Fence.wide) (n:=5) Tryz.func291 rfl trivial ?_)
 simp only[Tryz.ntmps291,List.size_toArray,List.length_cons,List.length_nil,Nat.reduceAdd,Nat.reduceSub,Array.replicate_succ,Array.replicate_zero,List.push_toArray,List.append_toArray,List.nil_append,List.cons_append]
 gi_wp2
 have bO:=Boxed.new w 45 (.slice none 0 0)
 have hB0:Below w.heap.size w (w.alloc (.cells #[.slice none 0 0] 45)):=(Below.refl _ w).alloc (Nat.le_refl _) _
 refine wpIn_rangeFunc_ownG rfl (by decide) (gf:=269) (lb:= #[.pointer (some ⟨Bs,0,none⟩)]) rfl trivial (enters_of Tryz.func269 (by kernel_rfl) rfl)
  (values_stops Fence.wide 4 trivial rfl (by omega) Bs w.heap.size b off cap zs (by omega) (w.alloc (.cells #[.slice none 0 0] 45)) (by simp;omega) (by simp) ((hB0.cell (p:=⟨Bs,0,none⟩) hBs).trans hc) hb (fun j hj=>(hB0.cell (p:=⟨b,off+j,none⟩) hb).trans (hI j hj))) belowK_t (belowK_b (by simp)) (Below.refl _ _) (fun _=>rfl)
  (fun pre W=>(∃v,Boxed W w.heap.size 45 v∧W.ownsRow w.heap.size 3 1 v pre.length (pre.map (Value.int .i64))∧(v= .slice none 0 0↔pre=[]))∧Below w.heap.size w W)
  (fun _ _ _=>False)
  (OwnFrom.and (Own.from (holdsRow_own w.heap.size w.heap.size 45 3 1 (fun pre:List Int=>pre.length) (fun pre:List Int=>pre.map (Value.int .i64)) (fun pre v=>v= .slice none 0 0↔pre=[])) _) (ownFrom_below (Nat.le_refl _) (by simp)))
  (fun _ _ _ _ _ hs _ _=>hs)
  ⟨⟨_,bO,World.ownsRow_nil _ _ _ _,by simp⟩,hB0⟩
  (fun x=>{tmps:= #[.slice none 0 0,.func (.func 269) #[] #[.pointer (some ⟨Bs,0,none⟩)],.pointer (some ⟨w.heap.size,0,none⟩),undef,.slice none 0 0,.int .i64 x,.func (.func 269) #[] #[.pointer (some ⟨Bs,0,none⟩)],.int .i64 x,undef,undef,undef,undef,undef],defers:=[]}) ?assign ?body ?done ?stop
 case assign=>
  intro l x W K hK
  gi_wp2
  exact hK
 case body=>
  rintro l pre x W ⟨⟨v,hv,hrow,hnil⟩,hB⟩ hlt
  have hc:=hv.cell
  gi_wp2_with (gi_at_builtin;(refine wpListIn_append_own _ rfl _ _ 45 rfl w.heap.size 3 i0 (.int .i64 0) 1 8 Tryz.underlying45 hi hz0 hz1 hz2 rfl (by decide) _ _ _ rfl (hrow.alloc _) ⟨W.heap.size,0,none⟩ 1 1 [.int .i64 x] rfl rfl (cell_one_new _ _ _) (by simp[Value.oneCell']) (by unfold maxLen;omega) (by omega) (by have:=hB.size;simp;omega) ?_);intro v' w1 hown' hgrow _;obtain⟨g',cap',rfl⟩:=ownsRow_succ hown';obtain⟨hv1,hv2,hr2,hk2,hb2⟩:=hv.appended (by decide) hrow hB.size (Nat.le_refl _) hown' hgrow;have hc1:=hv1.cell;have hf1:=hv1.frozen)
  exact⟨hk2.from _,hb2,⟨_,hv2,by simpa using hr2,by simp⟩,hB.trans hb2⟩
 case done=>
  rintro D ys W hD rfl ⟨⟨v,hv,hrow,hnil⟩,hB⟩ hK
  have hc:=hv.cell
  gi_wp2
  refine⟨by simp,.inl ⟨_,_,rfl,run_takeDeferred hK,?_⟩⟩
  refine⟨_,results_tmp rfl _ _ _,⟨v,rfl,?_⟩,hB.trans (belowK_b (w:=w) (Nat.le_refl _) W D _ _ (by simp at hD;omega) hK rfl rfl)⟩
  have:=ownsRow_putObj hrow (.deferred none) hK rfl
  unfold OI Ow
  rw[List.length_map]
  exact this
 case stop=>
  rintro D c pre W _ _ h _
  exact h.elim
theorem collect_ok (Bs b off cap:Nat) (zs:List Int) (w:World) (hlen:zs.length≤1000) (hBs:Bs<w.heap.size) (hb:b<w.heap.size)
 (hc:w.cell? ⟨Bs,0,none⟩=some (.slice (some ⟨b,off,none⟩) zs.length cap)) (hI:∀j,j<zs.length→w.cell? ⟨b,off+j,none⟩=some (.int .i64 (zs[j]?.getD 0))):
 Calls Tryz.prog 267 #[.func (.func 269) #[] #[.pointer (some ⟨Bs,0,none⟩)]] w fun e W'=>(∃v,e= .returned v∧OI w.heap.size W' v zs)∧Below w.heap.size w W':=by
 have HA:=hid (appendSeq_ok Bs b off cap zs w hlen hBs hb hc hI)
 clear hc hI hBs hb
 go_enter Tryz.func267,Tryz.ntmps267
 go_wp2_with fail
 refine HA.out.mono ?_
 rintro e w2 ⟨⟨v,rfl,hv⟩,hb2⟩
 have HX:=hid (And.intro hv hb2)
 clear hv hb2 HA
 go_wp2
 go_ret
 exact⟨⟨_,rfl,HX.out.1⟩,HX.out.2⟩
theorem sorted_ok (Bs b off cap:Nat) (zs:List Int) (w:World) (hlen1:1≤zs.length) (hlen:zs.length≤12) (hBs:Bs<w.heap.size) (hb:b<w.heap.size)
 (hc:w.cell? ⟨Bs,0,none⟩=some (.slice (some ⟨b,off,none⟩) zs.length cap)) (hI:∀j,j<zs.length→w.cell? ⟨b,off+j,none⟩=some (.int .i64 (zs[j]?.getD 0))):
 Calls Tryz.prog 217 #[.func (.func 269) #[] #[.pointer (some ⟨Bs,0,none⟩)]] w fun e W'=>(∃v,e= .returned v∧OI w.heap.size W' v (insI ltI 0 zs.length zs))∧Below w.heap.size w W':=by
 have HA:=hid (collect_ok Bs b off cap zs w (by omega) hBs hb hc hI)
 clear hc hI hBs hb
 go_enter Tryz.func217,Tryz.ntmps217
 go_wp2_with fail
 refine HA.out.mono ?_
 rintro e w2 ⟨⟨v,rfl,hv⟩,hb2⟩
 obtain⟨g,c,rfl,hg1,hg2⟩:=hv.form (by omega)
 have HS:=hid (sort_ok w.heap.size g zs.length c zs w2 hv rfl hlen1 hlen)
 have HB:=hid hb2
 clear hv hb2 HA
 go_wp2_with fail
 refine HS.out.mono ?_
 rintro e w3 ⟨rfl,ho,hg⟩
 have HX:=hid (And.intro ho (HB.out.grown hg HB.out.size (fun k e=>by cases e;exact hg1)))
 clear ho hg HS
 go_wp2
 go_ret
 exact⟨⟨_,rfl,HX.out.1⟩,HX.out.2⟩
end Go.Proofs.YtnnaadmegeeinaaGreatDoor
namespace Go.Proofs.YtnnaadmegeeinaaGreatDoor
open Go.RowKit
def toffN (n:Nat) (x:Int):Bool:=decide (x<0)||decide ((n:Int)≤x)
theorem could1_any (n:Nat) (b:Nat) (x:Int) (w:World) (hc:w.cell? ⟨b,0,none⟩=some (.int .i64 n)):
 Calls Tryz.prog 216 #[.int .i64 x,.pointer (some ⟨b,0,none⟩)] w fun e w'=>e= .returned (.bool (toffN n x))∧w=w':=by
 unfold toffN
 by_cases h0:x<0
 ·go_enter Tryz.func216,Tryz.ntmps216
  go_wp2
  go_ret
  exact⟨by simp[h0],rfl⟩
 ·by_cases h1:(n:Int)≤x
  ·go_enter Tryz.func216,Tryz.ntmps216
   go_wp2
   go_ret
   exact⟨by simp,rfl⟩
  ·go_enter Tryz.func216,Tryz.ntmps216
   go_wp2
   go_ret
   exact⟨by simp[h0,h1],rfl⟩
theorem could1_tests (n:Nat) (b:Nat) (w:World) (hc:w.cell? ⟨b,0,none⟩=some (.int .i64 n)):Tests 216 #[.pointer (some ⟨b,0,none⟩)] (toffN n) w where
 enter:=run_callFunc_own Tryz.func216 (by kernel_rfl) (by kernel_rfl)
 calls:=fun x _=>could1_any n b x w hc
def sumI (Y:List Int):Nat→Int
 |0=>0
 |i+1=>sumI Y i+Y.getD i 0
def tri2 (i:Nat):Int:=((i*(i+1)/2:Nat):Int)
def lowB (Y:List Int) (N:Nat):Bool:=(List.range N).any fun i=>decide (sumI Y (i+1)<tri2 i)
def couB (Y:List Int) (N:Nat):Bool:= !lowB Y N&&decide (sumI Y N=((N*(N-1)/2:Nat):Int))
def coE (l:List Int):Bool×Int:=if 9<l.length then(false,3)else if l.length=0 then(false,2)else if l.any (toffN l.length)=true then(false,1)else(couB (insI ltI 0 l.length l) l.length,0)
theorem lowB_yes {Y:List Int} {N i:Nat} (hi:i<N) (h:sumI Y (i+1)<tri2 i):lowB Y N=true:=List.any_eq_true.2 ⟨i,List.mem_range.2 hi,decide_eq_true h⟩
theorem lowB_no {Y:List Int} {N:Nat} (h:∀i,i<N→¬sumI Y (i+1)<tri2 i):lowB Y N=false:=by
 cases hb:lowB Y N with
 |false=>rfl
 |true=>
  obtain⟨i,hi,h2⟩:=List.any_eq_true.1 hb
  exact absurd (of_decide_eq_true h2) (h i (List.mem_range.1 hi))
theorem sumI_bd {Y:List Int} {c:Nat} (h:∀i,i<Y.length→0≤Y.getD i 0∧Y.getD i 0≤c):∀i,i≤Y.length→0≤sumI Y i∧sumI Y i≤i*c
 |0,_=>⟨Int.le_refl _,by simp[sumI]⟩
 |i+1,hi=>by
  have h1:=sumI_bd h i (by omega)
  have h2:=h i (by omega)
  rw[sumI]
  have:(((i+1:Nat):Int))*(c:Int)=i*c+c:=by rw[Int.natCast_add,Int.add_mul];simp
  omega
theorem Could_any (v:Value) (l:List Int) (w:World) (hv:Sl w v l) (hi64:∀x∈l,I64 x):
 Calls Tryz.prog 135 #[v] w fun e w'=>e= .returned (.tuple #[.bool (coE l).1,.int .i64 (coE l).2])∧Below w.heap.size w w':=by
 have hb0:=(Below.refl w.heap.size w).alloc (Nat.le_refl _) (.cells #[.int .i64 (l.length:Int)] 3)
 have hc0:(w.alloc (.cells #[.int .i64 (l.length:Int)] 3)).cell? ⟨w.heap.size,0,none⟩=some (.int .i64 (l.length:Int)):=lit_cell _ _ _
 have HC:=hid (containsFunc_any 216 #[.pointer (some ⟨w.heap.size,0,none⟩)] (toffN l.length) v l _ (hv.below hb0) hi64 (could1_tests l.length w.heap.size _ hc0))
 obtain⟨a,c,N,rfl,hN,hl1,hl2⟩:=hv.open
 have hNN:=hN.out
 have HB0:=hid hb0
 by_cases h9:9<N
 ·have hE:Hid (coE l=(false,3)):=hid (by unfold coE;rw[if_pos (by omega)])
  rw[hE.out]
  rw[hNN]at HC HB0
  have h9':(9:Int)<(N:Int):=by omega
  clear hb0 hc0 hv hl1 hl2 HC hNN hN hE h9
  go_enter Tryz.func135,Tryz.ntmps135
  go_wp2
  go_ret2
  exact⟨rfl,HB0.out⟩
 ·by_cases h0:N=0
  ·subst h0
   have hE:Hid (coE l=(false,2)):=hid (by unfold coE;rw[if_neg (by omega),if_pos (by omega)])
   rw[hE.out]
   rw[hNN]at HC HB0
   clear hb0 hc0 hv hl1 hl2 HC hNN hN hE h9
   go_enter Tryz.func135,Tryz.ntmps135
   go_wp2
   go_ret2
   exact⟨rfl,HB0.out⟩
  ·have h9':¬(9:Int)<(N:Int):=by omega
   have h0':((N:Int)==0)=false:=by rw[beq_eq_false_iff_ne];omega
   cases hoff:l.any (toffN l.length)with
   |true=>
    have hE:Hid (coE l=(false,1)):=hid (by unfold coE;rw[if_neg (by omega),if_neg (by omega),if_pos hoff])
    rw[hE.out]
    rw[hoff]at HC
    rw[hNN]at HC HB0
    clear hb0 hc0 hv hl1 hl2 hNN hN hE h9 h0 hoff
    go_enter Tryz.func135,Tryz.ntmps135
    go_wp2_with fail
    refine HC.out.mono ?_
    rintro e w2 ⟨rfl,rfl⟩
    go_wp2
    go_ret2
    exact⟨rfl,HB0.out⟩
   |false=>
    have hE:Hid (coE l=(couB (insI ltI 0 N l) N,0)):=hid (by unfold coE;rw[if_neg (by omega),if_neg (by omega),if_neg (by rw[hoff];decide),hNN])
    rw[hE.out]
    obtain⟨hpm,_⟩:=insI_sorts (lt:=ltI) (d:=0) (fun a b h=>by unfold ltI at*;simp at h⊢;omega) (fun a b c h1 h2=>by unfold ltI at*;simp at h1 h2⊢;omega) l
    rw[hNN]at hpm
    have hYN:(insI ltI 0 N l).length=N:=by rw[insI_len,hNN]
    have hYb:∀i,i<(insI ltI 0 N l).length→0≤(insI ltI 0 N l).getD i 0∧(insI ltI 0 N l).getD i 0≤(9:Nat):=fun i hi=>by
     have hm:=hpm.mem_iff.1 (List.getElem_mem hi)
     rw[List.getD_eq_getElem?_getD,List.getElem?_eq_getElem hi]
     have:=List.any_eq_false.1 hoff _ hm
     unfold toffN at this
     simp at this
     simp only[Option.getD_some]
     omega
    have HSB:=hid (sumI_bd hYb)
    obtain⟨b,off,rfl,hbw,hcs⟩:=hl2 (by omega)
    have HSO:Hid (∀w1:World,Below w.heap.size w w1→∀Bs,Bs<w1.heap.size→w1.cell? ⟨Bs,0,none⟩=some (.slice (some ⟨b,off,none⟩) N c)→Calls Tryz.prog 217 #[.func (.func 269) #[] #[.pointer (some ⟨Bs,0,none⟩)]] w1 fun e W'=>(∃v,e= .returned v∧OI w1.heap.size W' v (insI ltI 0 N l))∧Below w1.heap.size w1 W'):=hid (fun w1 hb1 Bs hBs hcell=>by
     have:=sorted_ok Bs b off c l w1 (by omega) (by omega) hBs (Nat.lt_of_lt_of_le hbw hb1.size) (by rw[hNN];exact hcell) (fun j hj=>(hb1.cell (p:=⟨b,off+j,none⟩) hbw).trans (hcs j (by omega)))
     rw[hNN]at this
     exact this)
    have HVA:Hid (∀w1:World,Calls Tryz.prog 218 #[.slice (some ⟨b,off,none⟩) N c] w1 fun e w'=>e= .returned (.func (.func 269) #[] #[.pointer (some ⟨w1.heap.size,0,none⟩)])∧w'=w1.alloc (.cells #[.slice (some ⟨b,off,none⟩) N c] 45)):=hid (fun w1=>callsIn_wide.1 (values_in Fence.wide 3 trivial rfl _ _ _ w1))
    rw[hoff]at HC
    rw[hNN]at HC HB0 hc0
    have HC0:=hid hc0
    have HS0:Hid (sumI (insI ltI 0 N l) 0=0):=hid rfl
    have HS1:Hid (∀i,sumI (insI ltI 0 N l) (i+1)=sumI (insI ltI 0 N l) i+(insI ltI 0 N l).getD i 0):=hid (fun i=>rfl)
    have HLY:=hid (fun i=>lowB_yes (Y:=insI ltI 0 N l) (N:=N) (i:=i))
    have HLN:Hid ((∀i,i<N→¬sumI (insI ltI 0 N l) (i+1)<tri2 i)→lowB (insI ltI 0 N l) N=false):=hid lowB_no
    have HCB:Hid (couB (insI ltI 0 N l) N=(!lowB (insI ltI 0 N l) N&&decide (sumI (insI ltI 0 N l) N=((N*(N-1)/2:Nat):Int)))):=hid rfl
    generalize insI ltI 0 N l=Y at*
    generalize lowB Y N=LB at*
    generalize sumI Y=SI at*
    generalize couB Y N=CB at*
    have hN1:1≤N:=by omega
    have hN9:N≤9:=by omega
    have HYN:=hid hYN
    have HYB:=hid hYb
    clear hb0 hc0 hv hl1 hl2 hNN hN hE h0 hoff hpm hYN hYb hcs hi64
    go_enter Tryz.func135,Tryz.ntmps135
    go_wp2_with fail
    refine HC.out.mono ?_
    rintro e w2 ⟨rfl,rfl⟩
    go_wp2_with fail
    refine(HVA.out _).mono ?_
    rintro e w3 ⟨rfl,hw3⟩
    have hb3:Below w.heap.size w w3:=by rw[hw3];exact HB0.out.alloc HB0.out.size _
    have hS3:=HSO.out w3 hb3 (w.heap.size+1) (by rw[hw3];simp) (by
     rw[hw3]
     have:=lit_cell (w.alloc (.cells #[.int .i64 (N:Int)] 3)) (.slice (some ⟨b,off,none⟩) N c) 45
     rw[World.size_alloc]at this
     exact this)
    have hn3:w3.cell? ⟨w.heap.size,0,none⟩=some (.int .i64 (N:Int)):=by
     rw[hw3]
     exact(((Below.refl _ _).alloc (Nat.le_refl _) _).cell (p:=⟨w.heap.size,0,none⟩) (by simp)).trans HC0.out
    have HS3:=hid hS3
    have HN3:=hid hn3
    have HB3:=hid hb3
    have hlt3:w.heap.size<w3.heap.size:=by rw[hw3];simp;omega
    clear hw3 hS3 hn3 hb3
    simp only[World.size_alloc]
    go_wp2_with fail
    refine HS3.out.mono ?_
    rintro e w4 ⟨⟨v4,rfl,hv4⟩,hb4⟩
    have hn4:w4.cell? ⟨w.heap.size,0,none⟩=some (.int .i64 (N:Int)):=(hb4.cell (p:=⟨w.heap.size,0,none⟩) hlt3).trans HN3.out
    obtain⟨g,c4,rfl,hg1,hg2⟩:=hv4.form (by rw[HYN.out];omega)
    rw[HYN.out]at hv4
    have HV4:=hid hv4
    have HB4:=hid (HB3.out.trans (hb4.mono HB3.out.size))
    rw[HYN.out]
    clear hv4 hb4 HS3 HSO HVA HC
    have HN4:=hid hn4
    have HV5:Hid (Below w.heap.size w w4):=HB4
    go_wp2_with fail
    go_loopw [5,6,7,24] (fun s _ _ x wr=>∃i:Nat,x= .int .i64 i∧i≤N∧s= .int .i64 (SI i)∧Hid (∀j,j<i→¬SI (j+1)<tri2 j)∧wr=w4) (fun _ _ _ x _=>N-(intOf x).toNat)
    case atStart=>exact⟨0,rfl,Nat.zero_le _,by rw[HS0.out],hid (fun j hj=>by omega),rfl⟩
    case round=>
     obtain⟨i,rfl,hiN,rfl,HJ,rfl⟩:=hrel
     by_cases hlt:i<N
     ·have hlti:(i:Int)<(N:Int):=by omega
      have c1:=HV4.out.cell i (by rw[HYN.out];exact hlt)
      have hs1:=HS1.out i
      have hbd:=HSB.out (i+1) (by rw[HYN.out];omega)
      have hyb:=HYB.out i (by rw[HYN.out];exact hlt)
      have hsb:=HSB.out i (by rw[HYN.out];omega)
      have hii:(i:Int)+1=((i+1:Nat):Int):=by omega
      have hmm:(i:Int)*((i+1:Nat):Int)=((i*(i+1):Nat):Int):=(Int.natCast_mul _ _).symm
      have hdd:((i*(i+1):Nat):Int).tdiv 2=tri2 i:=by rw[Int.tdiv_eq_ediv_of_nonneg (by omega)];unfold tri2;omega
      have hib:i*(i+1)≤90:=by
       have:=Nat.mul_le_mul (show i≤9 by omega) (show i+1≤10 by omega)
       omega
      have hTb:0≤tri2 i∧tri2 i≤45:=by unfold tri2;omega
      have hwT:=IntWalk.i64_in (tri2 i) (by omega)
      have hw1:=IntWalk.i64_in (SI i+Y.getD i 0) (by omega)
      have HLYi:=hid (HLY.out i hlt)
      have HJ2:Hid (¬SI (i+1)<tri2 i→∀j,j<i+1→¬SI (j+1)<tri2 j):=hid (fun h j hj=>by
       by_cases e:j=i
       ·rw[e];exact h
       ·exact HJ.out j (by omega))
      rw[←hs1]at hw1
      have hs1':=hs1.symm
      clear hs1
      generalize hs1d:SI (i+1)=s1 at*
      have HSD:=hid hs1d
      clear hs1d
      generalize SI i=s0 at*
      generalize Y.getD i 0=y at*
      generalize tri2 i=T at*
      generalize i*(i+1)=q at*
      have hi1N:i+1≤N:=by omega
      have hi1:i<i+1:=by omega
      have hi12:N-(i+1)<N-i:=by omega
      have hw2:=IntWalk.i64_in ((i+1:Nat):Int) (by omega)
      generalize i+1=i1 at*
      by_cases hT:s1<T
      ·have HE:Hid (CB=false):=hid (by rw[HCB.out,HLYi.out hT];rfl)
       clear HJ2
       go_wp2
       go_ret2
       exact⟨by rw[HE.out];rfl,HB4.out⟩
      ·have HJ3:=hid (HJ2.out hT)
       clear HJ2
       go_wp2
       go_roundw
       case rel=>exact⟨i1,rfl,hi1N,by rw[HSD.out],HJ3,by first|rfl|trivial⟩
       case measure=>simp[intOf]<;>omega
     ·obtain rfl:i=N:=by omega
      have hlti:¬(i:Int)<(i:Int):=by omega
      have HL:=hid (HLN.out (fun j hj=>by have:=HJ.out j hj;omega))
      rw[HL.out,Bool.not_false,Bool.true_and]at HCB
      have hii:(i:Int)-1=((i-1:Nat):Int):=by omega
      have hmm:(i:Int)*((i-1:Nat):Int)=((i*(i-1):Nat):Int):=(Int.natCast_mul _ _).symm
      have hdd:((i*(i-1):Nat):Int).tdiv 2=((i*(i-1)/2:Nat):Int):=by rw[Int.tdiv_eq_ediv_of_nonneg (by omega)];omega
      have hib:i*(i-1)≤81:=Nat.le_trans (Nat.mul_le_mul (show i≤9 by omega) (show i-1≤9 by omega)) (by omega)
      generalize SI i=s0 at*
      have HX:Hid (∀t:Int,(s0==t)=decide (s0=t)):=hid (fun t=>by by_cases h:s0=t<;>simp[h])
      generalize hT:i*(i-1)/2=T at*
      generalize i*(i-1)=q at*
      generalize i-1=im at*
      go_wp2
      go_ret2
      exact⟨by rw[HCB.out,←HX.out];rfl,HB4.out⟩
def msL (n:Nat) (ll:List (List Int)):List (Nat→Nat):=ll.map fun l=>mvF n (fL l)
theorem msL_len (n:Nat) (ll:List (List Int)):(msL n ll).length=ll.length:=by simp[msL]
theorem msL_take {n:Nat} {ll:List (List Int)} {k:Nat} (h:k<ll.length):msL n (ll.take (k+1))=msL n (ll.take k)++[mvF n (fL (ll.getD k []))]:=by
 unfold msL
 rw[List.take_add_one,List.map_append]
 simp[h]
theorem OM.mono {B B':Nat} {w:World} {v:Value} {l:List (Nat→Nat)} (h:OM B w v l) (hb:B'≤B):OM B' w v l:=by
 obtain⟨h1,h2⟩:=h
 refine⟨h1,h2.imp id ?_⟩
 rintro⟨g,cap,cur,e,hg,r⟩
 exact⟨g,cap,cur,e,Nat.le_trans hb hg,r⟩
structure GOk (n:Nat) (ll:List (List Int)):Prop where
 n1:1≤n
 n7:n≤7
 l4:ll.length≤4
 pm:∀l∈ll,PmL l n (fL l)
theorem gok_of {n:Int} {ll:List (List Int)} (h:grpE n ll=0):∃N:Nat,n=(N:Int)∧GOk N ll:=by
 obtain⟨⟨h1,h2⟩,h3,h4⟩:=grpE_zero h
 refine⟨n.toNat,by omega,by omega,by omega,h3,fun l hl=> ?_⟩
 obtain⟨h5,h6⟩:=h4 l hl
 have:=pm_of h5
 rwa [show l.length=n.toNat by omega]at this
theorem GOk.mv {n:Nat} {ll:List (List Int)} (h:GOk n ll):∀m∈msL n ll,Mv n m:=by
 intro m hm
 obtain⟨l,hl,rfl⟩:=List.mem_map.1 hm
 exact mvF_mv (h.pm l hl).pm
theorem gopen_bad (n:Int) (v:Value) (ll:List (List Int)) (w:World) (hl:RL w v ll) (hE:grpE n ll≠0):
 Calls Tryz.prog 114 #[.int .i64 n,v] w fun e w'=>e= .returned (.tuple #[.slice none 0 0,.slice none 0 0,.int .i64 (grpE n ll)])∧Below w.heap.size w w':=by
 have HC:=hid (gcheck_any n v ll w hl)
 obtain⟨a,c,N,rfl,hN,hc1,hc2⟩:=hl.open
 have hb:(grpE n ll !=0)=true:=bne_iff_ne.2 hE
 clear hE hl hc2
 generalize grpE n ll=E at*
 go_enter Tryz.func114,Tryz.ntmps114
 go_wp2_with fail
 refine HC.out.mono ?_
 rintro e w1 ⟨rfl,hb1⟩
 have HB:=hid hb1
 clear hb1
 go_wp2
 go_ret3
 exact⟨rfl,HB.out⟩
theorem gopen_ok (n:Nat) (v:Value) (ll:List (List Int)) (w:World) (hl:RL w v ll) (hE:grpE (n:Int) ll=0):
 Calls Tryz.prog 114 #[.int .i64 n,v] w fun e w'=>(∃s r,e= .returned (.tuple #[s,r,.int .i64 0])∧OM w.heap.size w' s (msL n ll)∧OM w.heap.size w' r (GL n (msL n ll)))∧Below w.heap.size w w':=by
 have HC:=hid (gcheck_any n v ll w hl)
 obtain⟨n',hn',hG⟩:=gok_of hE
 obtain rfl:n=n':=by omega
 rw[hE]at HC
 have HG:=hid hG
 have HRL:=hid (fun w1 (hb:Below w.heap.size w w1)=>hl.below hb)
 obtain⟨a,c,N,rfl,hN,hc1,hc2⟩:=hl.open
 have HC2:=hid hc2
 have hN4:N≤4:=by rw[←hN.out];exact hG.l4
 have n1:=hG.n1
 have n7:=hG.n7
 have HMO:=hid (fun(u:Value) (l:List Int) (w1:World) (hu:Sl w1 u l) (P:PmL l n (fL l))=>moveof_ok u l n (fL l) w1 hu P n1 n7)
 have HTK:=hid (fun k (h:k<N)=>msL_take (n:=n) (ll:=ll) (k:=k) (by rw[hN.out];exact h))
 have HPM:=hid (fun k (h:k<N)=>hG.pm (ll.getD k []) (by
  have h':k<ll.length:=by rw[hN.out];exact h
  rw[List.getD_eq_getElem?_getD,List.getElem?_eq_getElem h',Option.getD_some]
  exact List.getElem_mem h'))
 have HTL:Hid (∀k,k≤N→(msL n (ll.take k)).length=k):=hid (fun k hk=>by rw[msL_len,List.length_take,hN.out];omega)
 have HM0:Hid (msL n (ll.take 0)=[]):=hid rfl
 have HMN:Hid (msL n (ll.take N)=msL n ll):=hid (by rw[List.take_of_length_le (by rw[hN.out];exact Nat.le_refl _)])
 clear hl hE hG hc2 hn'
 go_enter Tryz.func114,Tryz.ntmps114
 go_wp2_with fail
 refine HC.out.mono ?_
 rintro e w1 ⟨rfl,hb1⟩
 have HB1:=hid hb1
 have hs1:=hb1.size
 clear hb1
 go_wp2_with fail
 go_loopw [4,9,18,20,21,22,23,24,25,26,27] (fun v4 _ i _ _ _ _ _ _ _ _ wr=>∃k:Nat,k≤N∧i= .int .i64 k∧OM w.heap.size wr v4 (msL n (ll.take k))∧Below w.heap.size w wr) (fun _ _ i _ _ _ _ _ _ _ _ _=>N-(intOf i).toNat)
 case atStart=>exact⟨0,Nat.zero_le _,rfl,by rw[HM0.out];exact OM.nil _ _,HB1.out⟩
 case round=>
  obtain⟨k,hk,rfl,ho,hb⟩:=hrel
  by_cases hlt:k<N
  ·have hki:(k:Int)<(N:Int):=by omega
   obtain⟨g,off,rfl,hg,hc⟩:=HC2.out (by omega)
   obtain⟨u,c1,s1⟩:=hc k hlt
   have s1':Sl wr u (ll.getD k []):=s1.below hb
   have c1':=(hb.cell (p:=⟨g,off+k,none⟩) hg).trans c1
   have HMK:=hid (HMO.out u _ wr s1' (HPM.out k hlt))
   have HTK2:=hid (HTK.out k hlt)
   have hle:(msL n (ll.take k)).length≤1000000000:=by have:=HTL.out k hk;omega
   have HI:=hid (And.intro ho hb)
   clear s1 s1' c1 hc ho hb
   generalize mvF n (fL (ll.getD k []))=z at*
   generalize msL n (ll.take k)=L at*
   have hzl:=mvC_lit z
   go_wp2_with fail
   refine HMK.out.mono ?_
   rintro e w2 ⟨rfl,hb2⟩
   unfold mvV
   rw[hzl]
   have hB2:=HI.out.2.trans (hb2.mono HI.out.2.size)
   have H2:=hid (And.intro (HI.out.1.below hb2) hB2)
   have hs2:w.heap.size≤w2.heap.size:=hB2.size
   clear hb2 hB2
   go_wp2_with (first
    |(refine wpList_appm z w2 _ _ 136 rfl rfl Tryz.underlying136 Tryz.info179 w.heap.size _ L rfl H2.out.1 rfl hle hs2 (Arr.new w2 179 (mvC z)).range ((Below.refl _ _).alloc (Nat.le_refl _) _) ?_
      intro g9 c9 w9 hO9 hg9 hgo hgl)
    |fail)
   have HX:=hid (And.intro hO9 (H2.out.2.grown hg9 hs2 (fun b e=>(H2.out.1.lt b e).1)))
   rw[←HTK2.out]at HX
   clear hO9 hg9 hgo hgl
   go_roundw
   case rel=>exact⟨k+1,by omega,by go_num,HX.out.1,HX.out.2⟩
   case measure=>simp[intOf]<;>omega
  ·obtain rfl:k=N:=by omega
   have hki:¬(k:Int)<(k:Int):=by omega
   rw[HMN.out]at ho
   have hml:(msL n ll).length≤1000000:=by rw[msL_len,hN.out];omega
   have hmd:=made_ok n u4 (msL n ll) wr n7 ho.rm HG.out.mv hml
   have HMD:=hid hmd
   have HI:=hid (And.intro ho hb)
   clear hmd ho hb hml
   go_wp2_with fail
   refine HMD.out.mono ?_
   rintro e w2 ⟨⟨r,rfl,hr⟩,hb2⟩
   have HX:=hid (And.intro (HI.out.1.below hb2) (And.intro (hr.mono HI.out.2.size) (HI.out.2.trans (hb2.mono HI.out.2.size))))
   clear hb2 hr
   go_wp2
   go_ret3
   exact⟨⟨_,_,rfl,HX.out.1,HX.out.2.1⟩,HX.out.2.2⟩
end Go.Proofs.YtnnaadmegeeinaaGreatDoor
