/-
  Part 18 of a proof: what it proves stands in the last text.
-/
import Derived.Test.YtnnaadmegeeinaaGreatDoorZf
import Derived.Test.YtnnaadmegeeinaaGreatDoorZd
import Derived.Test.YtnnaadmegeeinaaGreatDoorZj
import Derived.RegionTactic
set_option linter.unusedVariables false
set_option maxHeartbeats 8000000
set_option maxRecDepth 100000
namespace Go.Proofs.YtnnaadmegeeinaaGreatDoor
open Go.RowKit
def dfO (v:Nat) (x:Int):Bool:=decide (x<0)||decide ((v:Int)≤x)
theorem dcheck1_any (v:Nat) (x:Int) (b:Nat) (w:World) (hc:w.cell? ⟨b,0,none⟩=some (.int .i64 v)):
 Calls Tryz.prog 286 #[.int .i64 x,.pointer (some ⟨b,0,none⟩)] w fun e w'=>e= .returned (.bool (dfO v x))∧w=w':=by
 by_cases h:x<0
 ·have hE:Hid (dfO v x=true):=hid (by unfold dfO;rw[decide_eq_true h];rfl)
  rw[hE.out]
  go_enter Tryz.func286,Tryz.ntmps286
  go_wp2
  go_ret
  exact⟨rfl,rfl⟩
 ·by_cases h2:(v:Int)≤x
  ·have hE:Hid (dfO v x=true):=hid (by unfold dfO;rw[decide_eq_true h2,Bool.or_true])
   rw[hE.out]
   go_enter Tryz.func286,Tryz.ntmps286
   go_wp2
   go_ret
   exact⟨rfl,rfl⟩
  ·have hE:Hid (dfO v x=false):=hid (by unfold dfO;rw[decide_eq_false h2,decide_eq_false h];rfl)
   rw[hE.out]
   go_enter Tryz.func286,Tryz.ntmps286
   go_wp2
   go_ret
   exact⟨rfl,rfl⟩
theorem dcheck1_tests (v:Nat) (b:Nat) (w:World) (hc:w.cell? ⟨b,0,none⟩=some (.int .i64 v)):Tests 286 #[.pointer (some ⟨b,0,none⟩)] (dfO v) w where
 enter:=run_callFunc_own Tryz.func286 (by kernel_rfl) (by kernel_rfl)
 calls:=fun x _=>dcheck1_any v x b w hc
theorem dfO_any (v:Nat) (l:List Nat):(ofN l).any (dfO v)=l.any fun n=>decide (v≤n):=by
 unfold ofN
 rw[List.any_map]
 refine congrArg (fun f=>List.any l f) (funext fun n=> ?_)
 show(decide ((n:Int)<0)||decide ((v:Int)≤(n:Int)))=_
 rw[decide_eq_false (by omega),Bool.false_or,decide_eq_decide]
 omega
theorem dcheck_any (v:Nat) (u:Value) (l:List Nat) (w:World) (hv:v<1000000000) (hu:Sl w u (ofN l)) (hb:∀x∈l,x<1000000000):
 Calls Tryz.prog 258 #[.int .i64 v,u] w fun e w'=>e= .returned (.int .i64 (difE v l))∧Below w.heap.size w w':=by
 have hb0:Below w.heap.size w (w.alloc (.cells #[.int .i64 v] 3)):=(Below.refl _ _).alloc (Nat.le_refl _) _
 have hc0:(w.alloc (.cells #[.int .i64 v] 3)).cell? ⟨w.heap.size,0,none⟩=some (.int .i64 v):=lit_cell _ _ _
 have HCF:=hid (containsFunc_any _ _ _ u (ofN l) _ (hu.below hb0) (ofN_I64 hb) (dcheck1_tests v w.heap.size _ hc0))
 rw[dfO_any]at HCF
 have HE:Hid (difE v l=if v<1∨60<v∨(l.any fun n=>decide (v≤n))=true then 1 else if dfRise l=false then 2 else 0):=hid rfl
 generalize difE v l=E at*
 have HB0:=hid hb0
 by_cases h1:v<1
 ·have h1i:(v:Int)<1:=by omega
  have e1:=HE.out
  rw[if_pos (.inl h1)]at e1
  subst e1
  clear HE HCF hu hb0 hb
  go_enter Tryz.func258,Tryz.ntmps258
  go_wp2
  go_ret
  exact⟨rfl,HB0.out⟩
 have h1i:¬(v:Int)<1:=by omega
 by_cases h2:60<v
 ·have h2i:(60:Int)<(v:Int):=by omega
  have e1:=HE.out
  rw[if_pos (.inr (.inl h2))]at e1
  subst e1
  clear HE HCF hu hb0 hb
  go_enter Tryz.func258,Tryz.ntmps258
  go_wp2
  go_ret
  exact⟨rfl,HB0.out⟩
 have h2i:¬(60:Int)<(v:Int):=by omega
 cases hany:(l.any fun n=>decide (v≤n))with
 |true=>
  have e1:=HE.out
  rw[if_pos (.inr (.inr hany))]at e1
  subst e1
  rw[hany]at HCF
  clear HE hu hb0 hb hany
  go_enter Tryz.func258,Tryz.ntmps258
  go_wp2_with fail
  refine HCF.out.mono ?_
  rintro e w1 ⟨rfl,rfl⟩
  go_wp2
  go_ret
  exact⟨rfl,HB0.out⟩
 |false=>
  have e1:=HE.out
  rw[if_neg (by rw[hany];rintro(h|h|h);exact h1 h;exact h2 h;cases h)]at e1
  rw[hany]at HCF
  have HR:=hid e1
  obtain⟨a,c,N,rfl,hN,hl1,hl2⟩:=(hu.below hb0).open
  rw[show(ofN l).length=l.length from ofN_len l]at hN
  have HY:Hid ((∀j,j+1<N→l.getD j 0<l.getD (j+1) 0)→E=0):=hid (fun h=>by
   rw[HR.out,if_neg]
   rw[Bool.not_eq_false]
   unfold dfRise
   rw[List.all_eq_true]
   intro j hj
   exact decide_eq_true (h j (by have:=List.mem_range.1 hj;have:=hN.out;omega)))
  have HNO:Hid (∀j,j+1<N→¬l.getD j 0<l.getD (j+1) 0→E=2):=hid (fun j hj h=>by
   rw[HR.out,if_pos]
   cases hd:dfRise l with
   |false=>rfl
   |true=>exact absurd (dfRise_at hd (i:=j) (by rw[hN.out];exact hj)) h)
  have HC:Hid (N=0∨∃b off,a=some ⟨b,off,none⟩∧∀i,i<N→(w.alloc (.cells #[.int .i64 v] 3)).cell? ⟨b,off+i,none⟩=some (.int .i64 ((l.getD i 0:Nat):Int))):=hid (by
   rcases Nat.eq_zero_or_pos N with h0|h0
   ·exact .inl h0
   ·obtain⟨b,off,e1,e2,e3⟩:=hl2 h0
    exact .inr ⟨b,off,e1,fun i hi=>by rw[e3 i hi,←ofN_get,List.getD_eq_getElem?_getD]⟩)
  clear HE HR e1 hu hb0 hb hl2 hN hany hc0
  obtain⟨W0,HW0⟩:∃W0,Hid (w.alloc (.cells #[.int .i64 v] 3)=W0):=⟨_,hid rfl⟩
  go_enter Tryz.func258,Tryz.ntmps258
  go_wp2_with fail
  refine HCF.out.mono ?_
  rintro e w1 ⟨rfl,rfl⟩
  rw[HW0.out]at HC HB0⊢
  clear HCF HW0
  go_wp2
  go_loopw [5] (fun iv wr=>∃i:Nat,1≤i∧iv= .int .i64 i∧Hid (∀j,j+1<N→j+1<i→l.getD j 0<l.getD (j+1) 0)∧∃q,Hid (wr=W0.drewN q)) (fun iv _=>N-(intOf iv).toNat)
  case atStart=>exact⟨1,Nat.le_refl _,rfl,hid (fun j _ h=>by omega),0,hid rfl⟩
  case round=>
   obtain⟨i,hi1,rfl,hno,q,HQ⟩:=hrel
   by_cases hiN:i<N
   ·have hii:(i:Int)<(N:Int):=by omega
    obtain⟨b,off,rfl,hcell⟩:∃b off,a=some ⟨b,off,none⟩∧∀i,i<N→W0.cell? ⟨b,off+i,none⟩=some (.int .i64 ((l.getD i 0:Nat):Int)):=by
     rcases HC.out with h|h
     ·omega
     ·exact h
    obtain⟨j,hj⟩:∃j,i=j+1:=⟨i-1,by omega⟩
    have hsub:(i:Int)-1=(j:Int):=by omega
    have hwj:IntKind.i64.wrap (j:Int)=(j:Int):=IntWalk.i64_in _ (by omega)
    have hjN:j<N:=by omega
    have c1:wr.cell? ⟨b,off+i,none⟩=some (.int .i64 ((l.getD i 0:Nat):Int)):=by rw[HQ.out];exact hcell i hiN
    have c2:wr.cell? ⟨b,off+j,none⟩=some (.int .i64 ((l.getD j 0:Nat):Int)):=by rw[HQ.out];exact hcell j hjN
    have c1d:wr.drew.cell? ⟨b,off+i,none⟩=_:=c1
    have c2d:wr.drew.cell? ⟨b,off+j,none⟩=_:=c2
    have HQ2:Hid (wr.drew=W0.drewN (q+1)):=hid (by rw[HQ.out];rfl)
    have HBW:=hid (show Below w.heap.size w wr.drew from by rw[HQ2.out];exact below_drewN HB0.out _)
    have HNO':Hid (¬l.getD j 0<l.getD i 0→E=2):=hid (fun h=>HNO.out j (by omega) (by rw[←hj];exact h))
    have HJ:=hid hj
    clear hcell
    by_cases hlt:l.getD j 0<l.getD i 0
    ·have hlti:¬((l.getD i 0:Nat):Int)≤((l.getD j 0:Nat):Int):=by omega
     have HN2:Hid (∀j,j+1<N→j+1<i+1→l.getD j 0<l.getD (j+1) 0):=hid (fun k h1 h2=>by
      by_cases e:k=j
      ·subst e
       rw[←HJ.out];exact hlt
      ·exact hno.out k h1 (by have:=HJ.out;omega))
     clear hj hlt
     generalize l.getD i 0=x at*
     generalize l.getD j 0=y at*
     go_wp2
     go_region
     go_wp2
     go_roundw
     case rel=>exact⟨i+1,by omega,by go_num,HN2,q+1,HQ2⟩
     case measure=>simp[intOf]<;>omega
    ·have hlti:((l.getD i 0:Nat):Int)≤((l.getD j 0:Nat):Int):=by omega
     obtain rfl:=HNO'.out hlt
     clear hj hlt HNO'
     generalize l.getD i 0=x at*
     generalize l.getD j 0=y at*
     go_wp2
     go_region
     go_wp2
     go_ret
     exact⟨rfl,HBW.out⟩
   ·obtain rfl:=HY.out (fun j hj=>hno.out j hj (by omega))
    have hii:¬(i:Int)<(N:Int):=by omega
    have HBW:=hid (show Below w.heap.size w wr from by rw[HQ.out];exact below_drewN HB0.out _)
    go_wp2
    go_ret
    exact⟨rfl,HBW.out⟩
theorem zero60 (w:World):(zeroValue 236).run Tryz.prog w= .ok (.agg (Array.replicate 60 (.int .i64 0))) w:=by kernel_rfl
theorem oft_nil:oftV []=List.replicate 60 (.int .i64 0):=by rfl
theorem zeroO (w:World):(zeroValue 236).run Tryz.prog w= .ok (.agg (oftV []).toArray) w:=by
 rw[zero60,oft_nil,List.toArray_replicate]
theorem dfD_int {v a b:Nat} (hv:1≤v) (ha:a<v) (hb:b<v):((a:Int)-(b:Int)+(v:Int)).tmod (v:Int)=((dfD v a b:Nat):Int)∧dfD v a b<v:=by
 have h1:(a:Int)-(b:Int)+(v:Int)=((a+v-b:Nat):Int):=by omega
 refine⟨?_,Nat.mod_lt _ (by omega)⟩
 rw[h1,Int.tmod_eq_emod_of_nonneg (by omega)]
 rfl
theorem Level_bad (v:Nat) (u:Value) (l:List Nat) (w:World) (hv:v<1000000000) (hu:Sl w u (ofN l)) (hb:∀x∈l,x<1000000000) (h:difE v l≠0):
 Calls Tryz.prog 208 #[.int .i64 v,u] w fun e w'=>e= .returned (.tuple #[.int .i64 0,.int .i64 (difE v l)])∧Below w.heap.size w w':=by
 have HC:=hid (dcheck_any v u l w hv hu hb)
 have hz:(difE v l==0)=false:=by rw[beq_eq_false_iff_ne];exact h
 clear h hu hb
 generalize difE v l=E at*
 go_enter Tryz.func208,Tryz.ntmps208
 go_wp2_with fail
 refine HC.out.mono ?_
 rintro e w1 ⟨rfl,hb1⟩
 have HB:=hid hb1
 clear hb1
 go_wp2
 go_ret2
 exact⟨rfl,HB.out⟩
theorem Level_ok (v:Nat) (u:Value) (l:List Nat) (w:World) (hv:v<1000000000) (hu:Sl w u (ofN l)) (hb:∀x∈l,x<1000000000) (h:difE v l=0):
 Calls Tryz.prog 208 #[.int .i64 v,u] w fun e w'=>e= .returned (.tuple #[.int .i64 (levX v l),.int .i64 (levE v l)])∧Below w.heap.size w w':=by
 have HC:=hid (dcheck_any v u l w hv hu hb)
 rw[h]at HC
 obtain⟨hv1,hv60,hlt,_⟩:=difE_zero h
 have hlen:=difE_len h
 have HE:Hid (levE v l=if dfW v l=false then 4 else 0):=hid (by unfold levE;rw[if_neg (by rw[h];decide)])
 have HX:Hid (levX v l=if levE v l=0∧v≠1 then((dfN v l 1:Nat):Int)else 0):=hid rfl
 obtain⟨a,c,N,rfl,hN,hl1,hl2⟩:=hu.open
 rw[show(ofN l).length=l.length from ofN_len l]at hN
 have hN60:N≤60:=by have:=hN.out;omega
 have HCELL:Hid (N=0∨∃b off,a=some ⟨b,off,none⟩∧b<w.heap.size∧∀i,i<N→w.cell? ⟨b,off+i,none⟩=some (.int .i64 ((l.getD i 0:Nat):Int))):=hid (by
  rcases Nat.eq_zero_or_pos N with h0|h0
  ·exact .inl h0
  ·obtain⟨b,off,e1,e2,e3⟩:=hl2 h0
   exact .inr ⟨b,off,e1,e2,fun i hi=>by rw[e3 i hi,←ofN_get,List.getD_eq_getElem?_getD]⟩)
 have HLT:Hid (∀i,i<N→l.getD i 0<v):=hid (fun i hi=>by
  have hi2:i<l.length:=by rw[hN.out];exact hi
  rw[List.getD_eq_getElem?_getD,List.getElem?_eq_getElem hi2,Option.getD_some]
  exact hlt _ (List.getElem_mem hi2))
 have HJ0:=hid (dfJ_zero v l)
 have HJA:Hid (∀i,dfJ v l i N=dfR v l (i+1)):=hid (fun i=>by rw[←hN.out];exact dfJ_all v l i)
 have HJS:Hid (∀i j,j<N→oftV (dfJ v l i (j+1))=(oftV (dfJ v l i j)).set (dfD v (l.getD i 0) (l.getD j 0)) (.int .i64 (((dfJ v l i j).count (dfD v (l.getD i 0) (l.getD j 0)):Nat)+1:Int))):=hid (fun i j hj=>by
  rw[dfJ_snoc v l i (by rw[hN.out];exact hj)]
  exact oftV_snoc _ (by have:dfD v (l.getD i 0) (l.getD j 0)<v:=Nat.mod_lt _ (by omega)
                        omega))
 have HJL:Hid (∀i j d,i<N→j≤N→(dfJ v l i j).count d≤3660):=hid (fun i j d hi hj=>by
  have h1:=List.count_le_length (a:=d) (l:=dfJ v l i j)
  rw[dfJ_len v l i (by rw[hN.out];exact hj),hN.out]at h1
  have h2:i*N≤60*60:=Nat.mul_le_mul (by omega) (by omega)
  omega)
 have HRN:Hid (∀d,(dfR v l N).count d=dfN v l d):=hid (fun d=>by rw[←hN.out];rfl)
 have HRB:Hid (∀d,dfN v l d≤3600):=hid (fun d=>by
  have h1:=List.count_le_length (a:=d) (l:=dfR v l l.length)
  rw[dfR_len]at h1
  have h2:l.length*l.length≤60*60:=Nat.mul_le_mul (by rw[hN.out];omega) (by rw[hN.out];omega)
  have:dfN v l d=(dfR v l l.length).count d:=rfl
  omega)
 have HR0:Hid (dfR v l 0=[]):=hid rfl
 have HWY:Hid ((∀n,1≤n→n<v→dfN v l n=dfN v l 1)→dfW v l=true):=hid (fun hh=>by
  unfold dfW
  rw[List.all_eq_true]
  intro i hi
  have:=List.mem_range.1 hi
  rw[beq_iff_eq]
  exact hh (i+1) (by omega) (by omega))
 have HWN:Hid (∀n,1≤n→n<v→dfN v l n≠dfN v l 1→dfW v l=false):=hid (fun n h1 h2 hne=>by
  cases hd:dfW v l with
  |false=>rfl
  |true=>
   unfold dfW at hd
   have:=List.all_eq_true.1 hd (n-1) (List.mem_range.2 (by omega))
   rw[beq_iff_eq,show n-1+1=n by omega]at this
   exact absurd this hne)
 have HZ:=zeroO
 generalize levX v l=XX at*
 generalize levE v l=EE at*
 generalize dfW v l=WW at*
 generalize dfN v l=DN at*
 clear hl2 hu hb h hlt hlen hN
 go_enter Tryz.func208,Tryz.ntmps208
 go_wp2_with fail
 refine HC.out.mono ?_
 rintro e w1 ⟨rfl,hb1⟩
 have HB1:=hid hb1
 have hs1:=hb1.size
 clear hb1 HC
 go_wp2
 have hA:Arr (w1.alloc (.cells (oftV []).toArray 236)) w1.heap.size 236 (oftV (dfR v l 0)):=by rw[HR0.out];exact Arr.new w1 _ _
 have hb0:Below w.heap.size w (w1.alloc (.cells (oftV []).toArray 236)):=HB1.out.alloc hs1 _
 have HS0:=hid (And.intro hA hb0)
 clear hA hb0 HZ
 go_loopw [21] (fun iv wr=>∃i:Nat,i≤N∧iv= .int .i64 i∧Arr wr w1.heap.size 236 (oftV (dfR v l i))∧Below w.heap.size w wr) (fun iv _=>N-(intOf iv).toNat)
 case atStart=>exact⟨0,Nat.zero_le _,rfl,HS0.out.1,HS0.out.2⟩
 case round=>
  obtain⟨i,hi,rfl,hA,hb⟩:=hrel
  clear HS0
  by_cases hiN:i<N
  ·have hii:(i:Int)<(N:Int):=by omega
   obtain⟨b,off,rfl,hbl,hcell⟩:∃b off,a=some ⟨b,off,none⟩∧b<w.heap.size∧∀i,i<N→w.cell? ⟨b,off+i,none⟩=some (.int .i64 ((l.getD i 0:Nat):Int)):=by
    rcases HCELL.out with h|h
    ·omega
    ·exact h
   have c1:=(hb.cell (p:=⟨b,off+i,none⟩) hbl).trans (hcell i hiN)
   have HCC:=hid hcell
   have HJSI:=hid (fun j (hj:j<N)=>HJS.out i j hj)
   have HJLI:=hid (fun j d (hj:j≤N)=>HJL.out i j d hiN hj)
   have HJAI:=hid (HJA.out i)
   have hx:=HLT.out i hiN
   have HK:=hid (show Arr wr w1.heap.size 236 (oftV (dfJ v l i 0))∧Below w.heap.size w wr from⟨by rw[HJ0.out];exact hA,hb⟩)
   clear hA hb hcell
   generalize dfJ v l i=J at*
   generalize l.getD i 0=x at*
   go_wp2
   go_loopw [27] (fun jv wq=>∃j:Nat,j≤N∧jv= .int .i64 j∧Arr wq w1.heap.size 236 (oftV (J j))∧Below w.heap.size w wq) (fun jv _=>N-(intOf jv).toNat)
   case atStart=>exact⟨0,Nat.zero_le _,rfl,HK.out.1,HK.out.2⟩
   case round=>
    obtain⟨j,hj,rfl,hA,hb⟩:=hrel
    clear HK
    by_cases hjN:j<N
    ·have hjj:(j:Int)<(N:Int):=by omega
     have c2:=(hb.cell (p:=⟨b,off+j,none⟩) hbl).trans (HCC.out j hjN)
     have hy:=HLT.out j hjN
     obtain⟨d1,d2⟩:=dfD_int hv1 hx hy
     have hjs:=HJSI.out j hjN
     have hjl:=HJLI.out j (dfD v x (l.getD j 0)) hj
     generalize l.getD j 0=y at*
     generalize dfD v x y=d at*
     have hcd:=hA.cell d
     rw[oftV_get _ (by omega)]at hcd
     have hfz:=hA.frozen d
     obtain⟨hs,hg⟩:=hA.stored d (.int .i64 (((J j).count d:Nat)+1:Int))
     rw[←hjs]at hs
     have HY:=hid (And.intro hs (hb.grown hg hb.size (fun k e=>by cases e;exact hs1)))
     have hd60:d<60:=by omega
     have hvz:¬(v:Int)=0:=by omega
     clear hjs hA hb hs hg
     generalize List.count d (J j)=m at*
     go_wp2
     go_roundw
     case rel=>exact⟨j+1,by omega,by go_num,HY.out.1,HY.out.2⟩
     case measure=>simp[intOf]<;>omega
    ·obtain rfl:j=N:=by omega
     have hjj:¬(j:Int)<(j:Int):=by omega
     have HY:=hid (And.intro hA hb)
     rw[HJAI.out]at HY
     clear hA hb
     go_wp2
     go_roundw
     case rel=>exact⟨i+1,by omega,by go_num,HY.out.1,HY.out.2⟩
     case measure=>simp[intOf]<;>omega
  ·obtain rfl:i=N:=by omega
   have hii:¬(i:Int)<(i:Int):=by omega
   have HCN:Hid (∀d,d<60→wr.cell? ⟨w1.heap.size,d,none⟩=some (.int .i64 ((DN d:Nat):Int))):=hid (fun d hd=>by
    rw[hA.cell d,oftV_get _ hd,HRN.out])
   have HB:=hid hb
   clear hA hb HJ0 HJA HJS HJL HRN HR0 HCELL HLT
   obtain⟨W0,hW0⟩:∃W0,W0=wr:=⟨_,rfl⟩
   subst hW0
   go_wp2
   go_loopw [12] (fun nv wq=>∃n:Nat,1≤n∧n≤v+1∧nv= .int .i64 n∧Hid (∀k,1≤k→k<v→k<n→DN k=DN 1)∧∃q,Hid (wq=W0.drewN q)) (fun nv _=>v+1-(intOf nv).toNat)
   case atStart=>exact⟨1,Nat.le_refl _,by omega,rfl,hid (fun k _ _ h=>by omega),0,hid rfl⟩
   case round=>
    obtain⟨n,hn1,hnv,rfl,hall,q,HQ⟩:=hrel
    have hv1n:(1:Int)≤(n:Int):=by omega
    by_cases hlt:n<v
    ·have hnn:(n:Int)<(v:Int):=by omega
     have c1:wr.cell? ⟨w1.heap.size,n,none⟩=some (.int .i64 ((DN n:Nat):Int)):=by rw[HQ.out];exact HCN.out n (by omega)
     have c2:wr.cell? ⟨w1.heap.size,1,none⟩=some (.int .i64 ((DN 1:Nat):Int)):=by rw[HQ.out];exact HCN.out 1 (by omega)
     have c1d:wr.drew.cell? ⟨w1.heap.size,n,none⟩=_:=c1
     have c2d:wr.drew.cell? ⟨w1.heap.size,1,none⟩=_:=c2
     have HQ2:Hid (wr.drew=W0.drewN (q+1)):=hid (by rw[HQ.out];rfl)
     have HBW:=hid (show Below w.heap.size w wr.drew from by rw[HQ2.out];exact below_drewN HB.out _)
     have hn60:n<60:=by omega
     by_cases he:DN n=DN 1
     ·have hbe:((DN n:Int)==(DN 1:Int))=true:=by rw[beq_iff_eq];omega
      have HN2:Hid (∀k,1≤k→k<v→k<n+1→DN k=DN 1):=hid (fun k h1 h2 h3=>by
       by_cases e:k=n
       ·rw[e];exact he
       ·exact hall.out k h1 h2 (by omega))
      clear he
      generalize DN n=x at*
      generalize DN 1=y at*
      go_wp2
      go_region
      go_wp2
      go_roundw
      case rel=>exact⟨n+1,by omega,by omega,by go_num,HN2,q+1,HQ2⟩
      case measure=>simp[intOf]<;>omega
     ·have hbe:((DN n:Int)==(DN 1:Int))=false:=by rw[beq_eq_false_iff_ne];omega
      have e1:=HE.out
      rw[if_pos (HWN.out n hn1 hlt he)]at e1
      subst e1
      have e2:=HX.out
      rw[if_neg (by rintro⟨h,_⟩;cases h)]at e2
      subst e2
      clear he HX HE HWN HWY hall
      generalize DN n=x at*
      generalize DN 1=y at*
      go_wp2
      go_region
      go_wp2
      go_ret2
      exact⟨rfl,HBW.out⟩
    ·have hnn:¬(n:Int)<(v:Int):=by omega
     have e1:=HE.out
     rw[HWY.out (fun k h1 h2=>hall.out k h1 h2 (by omega)),if_neg (by decide)]at e1
     subst e1
     have e2:=HX.out
     have HBW:=hid (show Below w.heap.size w wr from by rw[HQ.out];exact below_drewN HB.out _)
     have c2:wr.cell? ⟨w1.heap.size,1,none⟩=some (.int .i64 ((DN 1:Nat):Int)):=by rw[HQ.out];exact HCN.out 1 (by omega)
     by_cases hv1':v=1
     ·subst hv1'
      rw[if_neg (by rintro⟨_,h⟩;exact h rfl)]at e2
      subst e2
      clear HX HE HWN HWY hall
      generalize DN 1=y at*
      go_wp2
      go_ret2
      exact⟨rfl,HBW.out⟩
     ·have hve:((v:Int)==1)=false:=by rw[beq_eq_false_iff_ne];omega
      rw[if_pos ⟨rfl,hv1'⟩]at e2
      subst e2
      obtain⟨y,hy⟩:∃y,DN 1=y:=⟨_,rfl⟩
      rw[hy]at c2
      have HY:=hid hy
      clear HX HE HWN HWY hall hy
      go_wp2
      go_ret2
      exact⟨by rw[HY.out];rfl,HBW.out⟩
theorem side_any (n:Nat) (w:World):
 Calls Tryz.prog 196 #[.int .i64 n] w fun e w'=>e= .returned (.bool (decide (1≤n∧n≤8)))∧w=w':=by
 by_cases h1:1≤n
 ·have h1i:(1:Int)≤(n:Int):=by omega
  by_cases h2:n≤8
  ·have h2i:(n:Int)≤8:=by omega
   have HE:=hid (show decide (1≤n∧n≤8)=true from decide_eq_true ⟨h1,h2⟩)
   rw[HE.out]
   go_enter Tryz.func196,Tryz.ntmps196
   go_wp2
   go_ret
   exact⟨rfl,rfl⟩
  ·have h2i:¬(n:Int)≤8:=by omega
   have HE:=hid (show decide (1≤n∧n≤8)=false from decide_eq_false (fun h=>h2 h.2))
   rw[HE.out]
   go_enter Tryz.func196,Tryz.ntmps196
   go_wp2
   go_ret
   exact⟨rfl,rfl⟩
 ·have h1i:¬(1:Int)≤(n:Int):=by omega
  have HE:=hid (show decide (1≤n∧n≤8)=false from decide_eq_false (fun h=>h1 h.1))
  rw[HE.out]
  go_enter Tryz.func196,Tryz.ntmps196
  go_wp2
  go_ret
  exact⟨rfl,rfl⟩
def exO (v:Nat) (x:Int):Bool:=decide (x<0)||decide ((v:Int)≤x)
theorem ext1_any (v:Nat) (x:Int) (b:Nat) (w:World) (hc:w.cell? ⟨b,0,none⟩=some (.int .i64 v)):
 Calls Tryz.prog 197 #[.int .i64 x,.pointer (some ⟨b,0,none⟩)] w fun e w'=>e= .returned (.bool (exO v x))∧w=w':=by
 by_cases h:x<0
 ·have hE:Hid (exO v x=true):=hid (by unfold exO;rw[decide_eq_true h];rfl)
  rw[hE.out]
  go_enter Tryz.func197,Tryz.ntmps197
  go_wp2
  go_ret
  exact⟨rfl,rfl⟩
 ·by_cases h2:(v:Int)≤x
  ·have hE:Hid (exO v x=true):=hid (by unfold exO;rw[decide_eq_true h2,Bool.or_true])
   rw[hE.out]
   go_enter Tryz.func197,Tryz.ntmps197
   go_wp2
   go_ret
   exact⟨rfl,rfl⟩
  ·have hE:Hid (exO v x=false):=hid (by unfold exO;rw[decide_eq_false h2,decide_eq_false h];rfl)
   rw[hE.out]
   go_enter Tryz.func197,Tryz.ntmps197
   go_wp2
   go_ret
   exact⟨rfl,rfl⟩
theorem ext1_tests (v:Nat) (b:Nat) (w:World) (hc:w.cell? ⟨b,0,none⟩=some (.int .i64 v)):Tests 197 #[.pointer (some ⟨b,0,none⟩)] (exO v) w where
 enter:=run_callFunc_own Tryz.func197 (by kernel_rfl) (by kernel_rfl)
 calls:=fun x _=>ext1_any v x b w hc
theorem exO_any (v:Nat) (l:List Nat):(ofN l).any (exO v)=l.any fun n=>decide (v≤n):=by
 unfold ofN
 rw[List.any_map]
 refine congrArg (fun f=>List.any l f) (funext fun n=> ?_)
 show(decide ((n:Int)<0)||decide ((v:Int)≤(n:Int)))=_
 rw[decide_eq_false (by omega),Bool.false_or,decide_eq_decide]
 omega
theorem zero88 (w:World):(zeroValue 230).run Tryz.prog w= .ok (.agg (Array.replicate 64 (.bool false))) w:=by kernel_rfl
theorem bl64_no:bl64 (fun _=>false)=List.replicate 64 (.bool false):=by rfl
theorem zeroM (w:World):(zeroValue 230).run Tryz.prog w= .ok (.agg (bl64 fun _=>false).toArray) w:=by
 rw[zero88,bl64_no,List.toArray_replicate]
theorem twice_any (n:Nat) (v:Value) (l:List Nat) (w:World) (hn1:1≤n) (hn8:n≤8) (hv:Sl w v (ofN l)) (hlt:∀i,i<l.length→l.getD i 0<n) (hlen:l.length≤n*n):
 Calls Tryz.prog 198 #[.int .i64 n,v] w fun e w'=>e= .returned (.bool (xtwB n l))∧Below w.heap.size w w':=by
 obtain⟨a,c,N,rfl,hN,hl1,hl2⟩:=hv.open
 rw[show(ofN l).length=l.length from ofN_len l]at hN
 have hNN:N≤n*n:=by rw[←hN.out];exact hlen
 have hn64:n*n≤8*8:=Nat.mul_le_mul hn8 hn8
 have HQ:Hid (∀i,i<N→i/n<n):=hid (fun i hi=>Nat.div_lt_of_lt_mul (by omega))
 have HCELL:Hid (N=0∨∃b off,a=some ⟨b,off,none⟩∧b<w.heap.size∧∀i,i<N→w.cell? ⟨b,off+i,none⟩=some (.int .i64 ((l.getD i 0:Nat):Int))):=hid (by
  rcases Nat.eq_zero_or_pos N with h0|h0
  ·exact .inl h0
  ·obtain⟨b,off,e1,e2,e3⟩:=hl2 h0
   exact .inr ⟨b,off,e1,e2,fun i hi=>by rw[e3 i hi,←ofN_get,List.getD_eq_getElem?_getD]⟩)
 have HLT:Hid (∀i,i<N→l.getD i 0<n):=hid (fun i hi=>hlt i (by rw[hN.out];exact hi))
 have HTR:=hid (fun i (hi:i<N)=>tw_row (n:=n) (l:=l) hn8 hlt (i:=i) (by rw[hN.out];exact hi))
 have HTC:=hid (fun i (hi:i<N)=>tw_col (n:=n) (l:=l) hn8 hlt (i:=i) (by rw[hN.out];exact hi))
 have HTN:Hid ((∀i,i<N→xrwF n l i (i/n*8+l.getD i 0)=false∧xclF n l i (i%n*8+l.getD i 0)=false)→xtwB n l=false):=hid (fun h=>xtw_no (fun i hi=>h i (by rw[←hN.out];exact hi)))
 have HRS:=hid (xrwF_succ n l)
 have HCS:=hid (xclF_succ n l)
 have HR0:Hid (xrwF n l 0=fun _=>false):=hid rfl
 have HC0:Hid (xclF n l 0=fun _=>false):=hid rfl
 generalize xtwB n l=TW at*
 generalize xrwF n l=RF at*
 generalize xclF n l=CF at*
 have HZ:=zeroM
 clear hl2 hv hlt hlen hN
 go_enter Tryz.func198,Tryz.ntmps198
 go_wp2
 have hA1:Arr ((w.alloc (.cells (bl64 fun _=>false).toArray 230)).alloc (.cells (bl64 fun _=>false).toArray 230)) w.heap.size 230 (bl64 (RF 0)):=by rw[HR0.out];exact(Arr.new w _ _).alloc _
 have hA2:Arr ((w.alloc (.cells (bl64 fun _=>false).toArray 230)).alloc (.cells (bl64 fun _=>false).toArray 230)) (w.heap.size+1) 230 (bl64 (CF 0)):=by
  rw[HC0.out]
  have:=Arr.new (w.alloc (.cells (bl64 fun _=>false).toArray 230)) 230 (bl64 fun _=>false)
  rwa [World.size_alloc]at this
 have hB0:Below w.heap.size w ((w.alloc (.cells (bl64 fun _=>false).toArray 230)).alloc (.cells (bl64 fun _=>false).toArray 230)):=((Below.refl _ _).alloc (Nat.le_refl _) _).alloc (by simp) _
 have HS0:=hid (And.intro hA1 (And.intro hA2 hB0))
 clear hA1 hA2 hB0 HZ HR0 HC0
 go_loopw [11] (fun iv wr=>∃i:Nat,i≤N∧iv= .int .i64 i∧Arr wr w.heap.size 230 (bl64 (RF i))∧Arr wr (w.heap.size+1) 230 (bl64 (CF i))∧Below w.heap.size w wr∧Hid (∀j,j<i→RF j (j/n*8+l.getD j 0)=false∧CF j (j%n*8+l.getD j 0)=false)) (fun iv _=>N-(intOf iv).toNat)
 case atStart=>exact⟨0,Nat.zero_le _,rfl,HS0.out.1,HS0.out.2.1,HS0.out.2.2,hid (fun j h=>by omega)⟩
 case round=>
  clear HS0
  obtain⟨i,hi,rfl,hA1,hA2,hb,hno⟩:=hrel
  by_cases hiN:i<N
  ·have hii:(i:Int)<(N:Int):=by omega
   obtain⟨b,off,rfl,hbb,hcell⟩:∃b off,a=some ⟨b,off,none⟩∧b<w.heap.size∧∀i,i<N→w.cell? ⟨b,off+i,none⟩=some (.int .i64 ((l.getD i 0:Nat):Int)):=by
    rcases HCELL.out with h|h
    ·omega
    ·exact h
   have c1:=(hb.cell (p:=⟨b,off+i,none⟩) hbb).trans (hcell i hiN)
   have hx:=HLT.out i hiN
   have hq:=HQ.out i hiN
   have hr:i%n<n:=Nat.mod_lt _ (by omega)
   have htr:=HTR.out i hiN
   have htc:=HTC.out i hiN
   have hrs:=HRS.out i
   have hcs:=HCS.out i
   have hdv:(i:Int).tdiv (n:Int)=((i/n:Nat):Int):=by rw[Int.tdiv_eq_ediv_of_nonneg (by omega)];rfl
   have hmd:(i:Int).tmod (n:Int)=((i%n:Nat):Int):=(Int.ofNat_tmod _ _).symm
   have hnz:¬(n:Int)=0:=by omega
   have HNOI:=hid (fun j (hj:j<i)=>hno.out j hj)
   clear hcell
   obtain⟨x,hxe⟩:∃x,l.getD i 0=x:=⟨_,rfl⟩
   have HXE:=hid hxe
   rw[hxe]at c1 hx htr htc hrs hcs
   obtain⟨q,hqe⟩:∃q,i/n=q:=⟨_,rfl⟩
   have HQE:=hid hqe
   rw[hqe]at hq htr hrs hdv
   obtain⟨r,hre⟩:∃r,i%n=r:=⟨_,rfl⟩
   have HRE:=hid hre
   rw[hre]at hr htc hcs hmd
   have k1:=hA1.cell (q*8+x)
   have k2:=hA2.cell (r*8+x)
   rw[bl64_get _ (by omega)]at k1 k2
   have f1:=hA1.frozen (q*8+x)
   have f2:=hA2.frozen (r*8+x)
   have hq8:q<8:=by omega
   have hr8:r<8:=by omega
   have hx8:x<8:=by omega
   have HB:=hid hb
   have HAA:=hid (And.intro hA1 hA2)
   clear hxe hqe hre hb hA1 hA2
   cases e1:RF i (q*8+x)with
   |true=>
    rw[e1]at k1
    obtain rfl:TW=true:=htr e1
    clear e1 htr htc hrs hcs
    go_wp2
    go_ret
    exact⟨rfl,HB.out⟩
   |false=>
    rw[e1]at k1
    cases e2:CF i (r*8+x)with
    |true=>
     rw[e2]at k2
     obtain rfl:TW=true:=htc e2
     clear e1 e2 htr htc hrs hcs
     go_wp2
     go_ret
     exact⟨rfl,HB.out⟩
    |false=>
     rw[e2]at k2
     have HN2:Hid (∀j,j<i+1→RF j (j/n*8+l.getD j 0)=false∧CF j (j%n*8+l.getD j 0)=false):=hid (fun j hj=>by
      by_cases e:j=i
      ·rw[e,HXE.out,HQE.out,HRE.out]
       exact⟨e1,e2⟩
      ·exact HNOI.out j (by omega))
     have k1d:wr.drew.cell? ⟨w.heap.size,q*8+x,none⟩=_:=k1
     have k2d:wr.drew.cell? ⟨w.heap.size+1,r*8+x,none⟩=_:=k2
     have f1d:wr.drew.frozen? ⟨w.heap.size,q*8+x,none⟩=_:=f1
     have f2d:wr.drew.frozen? ⟨w.heap.size+1,r*8+x,none⟩=_:=f2
     have hs1:=HAA.out.1.stored (q*8+x) (.bool true)
     rw[bl64_set (g:=RF (i+1)) (by omega) (fun j=>by rw[hrs])]at hs1
     have hs2:=(HAA.out.2.kept hs1.2 (by simp)).stored (r*8+x) (.bool true)
     rw[bl64_set (g:=CF (i+1)) (by omega) (fun j=>by rw[hcs])]at hs2
     have hA1':=hs1.1.kept hs2.2 (by simp)
     have hb1:=HB.out.grown hs1.2 HB.out.size (fun k e=>by cases e;exact Nat.le_refl _)
     have hb2:=hb1.grown hs2.2 hb1.size (fun k e=>by cases e;omega)
     have HX:=hid (And.intro hA1' (And.intro hs2.1 hb2))
     clear e1 e2 htr htc hrs hcs hs1 hs2 hA1' hb1 hb2
     go_wp2
     go_region
     all_goals
      go_wp2
      go_roundw
      case rel=>exact⟨i+1,by omega,by go_num,HX.out.1,HX.out.2.1,HX.out.2.2.drew,HN2⟩
      case measure=>simp[intOf]<;>omega
  ·obtain rfl:i=N:=by omega
   have hii:¬(i:Int)<(i:Int):=by omega
   obtain rfl:TW=false:=HTN.out hno.out
   have HB:=hid hb
   clear hb hA1 hA2
   go_wp2
   go_ret
   exact⟨rfl,HB.out⟩
end Go.Proofs.YtnnaadmegeeinaaGreatDoor
