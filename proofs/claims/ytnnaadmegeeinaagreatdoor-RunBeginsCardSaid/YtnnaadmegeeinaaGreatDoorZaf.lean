/-
  Part 32 of a proof: what it proves stands in the last text.
-/
import Derived.Test.YtnnaadmegeeinaaGreatDoorZae
import Derived.Test.YtnnaadmegeeinaaGreatDoorZs
import Derived.Test.YtnnaadmegeeinaaGreatDoorZi
import Derived.Test.YtnnaadmegeeinaaGreatDoorZh
import Derived.Deep.LoopGhost
import Derived.TacticsInMore
import Derived.LoopIn
import Derived.Test.YtnnaadmegeeinaaGreatDoorZk
import Derived.Test.YtnnaadmegeeinaaGreatDoorZb
import Derived.Maps.OwnIn
set_option linter.unusedVariables false
set_option maxHeartbeats 8000000
set_option maxRecDepth 100000
namespace Go.Proofs.YtnnaadmegeeinaaGreatDoor
open Go.RowKit
theorem Mult_bad (v:Nat) (u:Value) (l:List Nat) (w:World) (hv:v<1000000000) (hu:Sl w u (ofN l)) (hb:∀x∈l,x<1000000000) (h:difE v l≠0):
 Calls Tryz.prog 209 #[.int .i64 v,u] w fun e w'=>e= .returned (.tuple #[.slice none 0 0,.int .i64 (difE v l)])∧Below w.heap.size w w':=by
 have HC:=hid (dcheck_any v u l w hv hu hb)
 have hz:(difE v l==0)=false:=by rw[beq_eq_false_iff_ne];exact h
 clear h hu hb
 generalize difE v l=E at*
 go_enter Tryz.func209,Tryz.ntmps209
 go_wp2_with fail
 refine HC.out.mono ?_
 rintro e w1 ⟨rfl,hb1⟩
 have HB:=hid hb1
 clear hb1
 go_wp2
 go_ret2
 exact⟨rfl,HB.out⟩
theorem mtB_no {v:Nat} {l:List Nat} {t:Nat} (h:∀s,s<v→decide (chG v l t 0=chG v l 1 s)=false):mtB v l t=false:=by
 unfold mtB
 rw[Bool.and_eq_false_iff]
 right
 rw[List.any_eq_false]
 intro s hs
 have:=of_decide_eq_false (h s (List.mem_range.1 hs))
 simpa using this
theorem mtB_yes {v:Nat} {l:List Nat} {t s:Nat} (hg:¬1<Nat.gcd t v) (hs:s<v) (h:decide (chG v l t 0=chG v l 1 s)=true):mtB v l t=true:=by
 unfold mtB
 rw[Bool.and_eq_true]
 refine⟨decide_eq_true (by omega),?_⟩
 rw[List.any_eq_true]
 exact⟨s,List.mem_range.2 hs,by simpa using of_decide_eq_true h⟩
theorem mtB_gcd {v:Nat} {l:List Nat} {t:Nat} (hg:1<Nat.gcd t v):mtB v l t=false:=by
 unfold mtB
 rw[decide_eq_false (by omega)]
 rfl
theorem Mult_ok (v:Nat) (u:Value) (l:List Nat) (w:World) (hv:v<1000000000) (hu:Sl w u (ofN l)) (hb:∀x∈l,x<1000000000) (h:difE v l=0):
 Calls Tryz.prog 209 #[.int .i64 v,u] w fun e w'=>(∃r,e= .returned (.tuple #[r,.int .i64 0])∧OI w.heap.size w' r (mtpN v l (v-1)))∧Below w.heap.size w w':=by
 have HC:=hid (dcheck_any v u l w hv hu hb)
 rw[h]at HC
 obtain⟨hv1,hv60,hlt,_⟩:=difE_zero h
 have hlen:=difE_len h
 have HD:=hid (fun(t:Nat) (w1:World) (ht:t≤60)=>divisor_any t v w1 (by omega) (by omega))
 have HCH:=hid (fun(t m:Nat) (w1:World) (ht:t≤60) (hm:m≤60) (h1:Below w.heap.size w w1)=>changed_any v t m u l w1 ⟨hv1,hv60⟩ ht hm (hu.below h1) (by omega) hlt)
 have HEQ:=hid (fun(r1 r2:Value) (t s:Nat) (w1:World) (h1:Sl w1 r1 (chG v l t 0)) (h2:Sl w1 r2 (chG v l 1 s))=>equal_any r1 r2 _ _ w1 h1 h2 (by rw[chG_len,chG_len]))
 have HGL:=hid (fun t m=>show(chG v l t m).length≤100 from by rw[chG_len];omega)
 have HNO:=hid (fun t=>mtB_no (v:=v) (l:=l) (t:=t))
 have HYE:=hid (fun t s=>mtB_yes (v:=v) (l:=l) (t:=t) (s:=s))
 have HGC:=hid (fun t=>mtB_gcd (v:=v) (l:=l) (t:=t))
 have HMS:=hid (mtpN_snoc v l)
 have HML:=hid (mtpN_len v l)
 have HM0:Hid (mtpN v l 0=[]):=hid rfl
 generalize mtpN v l=MM at*
 generalize mtB v l=MB at*
 generalize chG v l=CG at*
 clear hlt hlen h hb hu
 go_enter Tryz.func209,Tryz.ntmps209
 go_wp2_with fail
 refine HC.out.mono ?_
 rintro e w1 ⟨rfl,hb1⟩
 have HB1:=hid hb1
 clear hb1 HC
 go_wp2
 go_loopw [7,8] (fun ov tv wr=>∃t:Nat,t+1≤v∧tv= .int .i64 ((t:Int)+1)∧OI w.heap.size wr ov (MM t)∧Below w.heap.size w wr) (fun _ tv _=>v-(intOf tv).toNat)
 case atStart=>exact⟨0,by omega,rfl,by rw[HM0.out];exact OI.nil _ _,HB1.out⟩
 case round=>
  obtain⟨t,ht,rfl,ho,hbl⟩:=hrel
  obtain⟨T,hT⟩:∃T,T=t+1:=⟨_,rfl⟩
  have HT:=hid hT
  rw[show(t:Int)+1=(T:Int)by omega]
  rw[←hT]at ht
  have HMST:=hid (HMS.out t)
  rw[←hT]at HMST
  clear hT
  by_cases htv:T<v
  ·have hti:(T:Int)<(v:Int):=by omega
   have HDV:=hid (HD.out T wr (by omega))
   have HGCT:=hid (HGC.out T)
   have HYET:=hid (HYE.out T)
   have HX:=hid (And.intro ho hbl)
   clear ho hbl
   generalize Nat.gcd T v=G at*
   by_cases hG:1<G
   ·have hGi:(1:Int)<(G:Int):=by omega
    have HN:Hid (MM T=MM t):=hid (by rw[HMST.out,HGCT.out hG];rfl)
    clear hG
    go_wp2_with fail
    refine HDV.out.mono ?_
    rintro e w2 ⟨rfl,q,rfl⟩
    go_wp2
    go_roundw
    case rel=>exact⟨T,by omega,by go_num,by rw[HN.out];exact HX.out.1.drewN q,below_drewN HX.out.2 q⟩
    case measure=>simp[intOf]<;>omega
   ·have hGi:¬(1:Int)<(G:Int):=by omega
    have HG:=hid hG
    clear hG
    go_wp2_with fail
    refine HDV.out.mono ?_
    rintro e w2 ⟨rfl,q,rfl⟩
    have HX2:=hid (And.intro (HX.out.1.drewN q) (below_drewN HX.out.2 q))
    obtain⟨W2,hW2⟩:∃W2,wr.drewN q=W2:=⟨_,rfl⟩
    rw[hW2]at HX2⊢
    clear HX hW2 HDV
    have HCT:=hid (HCH.out T 0 W2 (by omega) (by omega) HX2.out.2)
    have h0:((0:Nat):Int)=0:=rfl
    rw[h0]at HCT
    go_wp2_with fail
    refine HCT.out.mono ?_
    rintro e w3 ⟨⟨r1,rfl,hr1⟩,hb3⟩
    have HX3:=hid (And.intro (HX2.out.1.below hb3) (And.intro (HX2.out.2.trans (hb3.mono HX2.out.2.size)) (hr1.sl (by have:=HGL.out T 0;omega))))
    have HS3:=hid (Nat.le_trans HX2.out.2.size hb3.size)
    clear hr1 hb3 HCT HX2
    go_wp2
    go_loopw [7,31] (fun ov sv wq=>∃s:Nat,s≤v∧sv= .int .i64 s∧Hid (∀k,k<s→decide (CG T 0=CG 1 k)=false)∧OI w.heap.size wq ov (MM t)∧Below w3.heap.size w3 wq) (fun _ sv _=>v-(intOf sv).toNat)
    case atStart=>exact⟨0,Nat.zero_le _,rfl,hid (fun k h=>by omega),HX3.out.1,Below.refl _ _⟩
    case round=>
     obtain⟨s,hs,rfl,hno,how,hbw⟩:=hrel
     by_cases hsv:s<v
     ·have hsi:(s:Int)<(v:Int):=by omega
      have HBW:=hid hbw
      have HOW:=hid how
      have HCS:=hid (HCH.out 1 s wr (by omega) (by omega) (HX3.out.2.1.trans (hbw.mono HX3.out.2.1.size)))
      clear hbw how
      have h1:((1:Nat):Int)=1:=rfl
      rw[h1]at HCS
      go_wp2_with fail
      refine HCS.out.mono ?_
      rintro e w4 ⟨⟨r2,rfl,hr2⟩,hb4⟩
      have HO4:=hid (HOW.out.below hb4)
      have HB4:=hid (HBW.out.trans (hb4.mono HBW.out.size))
      have HEE:=hid (HEQ.out r1 r2 T s w4 (HX3.out.2.2.below HB4.out) (hr2.sl (by have:=HGL.out 1 s;omega)))
      clear hr2 hb4 HCS HBW
      obtain⟨bq,hbq⟩:∃bq,decide (CG T 0=CG 1 s)=bq:=⟨_,rfl⟩
      rw[hbq]at HEE
      cases bq with
      |true=>
       have HN:Hid (MM t++[((T:Nat):Int)]=MM T):=hid (by rw[HMST.out,HYET.out s HG.out hsv hbq];rfl)
       clear hbq
       go_wp2_with fail
       refine HEE.out.mono ?_
       rintro e w5 ⟨rfl,q5,rfl⟩
       have ho5:=HO4.out.drewN q5
       have hb5:=below_drewN (HX3.out.2.1.trans (HB4.out.mono HX3.out.2.1.size)) q5
       have hl5:(MM t).length≤1000000000000:=by have:=HML.out t;have:=HT.out;omega
       have hs5:=hb5.size
       obtain⟨W5,hW5⟩:∃W5,w4.drewN q5=W5:=⟨_,rfl⟩
       rw[hW5]at ho5 hb5 hs5⊢
       clear hW5 HEE
       go_wp2_with (at_builtin;refine wpList_appi W5 _ _ 45 rfl rfl Tryz.underlying45 Tryz.info3 w.heap.size _ _ rfl ho5 rfl hl5 hs5 ?_;intro g7 c7 w6 hown1 hg1 hg2 hg3)
       have HX6:=hid (And.intro (hown1.cast HN.out) (ho5.grown hb5 hg1 hs5))
       clear hown1 hg1 hg2 hg3 ho5 hb5
       go_roundw
       case rel=>exact⟨T,by omega,by go_num,HX6.out.1,HX6.out.2⟩
       case measure=>simp[intOf]<;>omega
      |false=>
       have HN:Hid (∀k,k<s+1→decide (CG T 0=CG 1 k)=false):=hid (fun k hk=>by
        by_cases e:k=s
        ·rw[e];exact hbq
        ·exact hno.out k (by omega))
       clear hbq
       go_wp2_with fail
       refine HEE.out.mono ?_
       rintro e w5 ⟨rfl,q5,rfl⟩
       go_wp2
       go_roundw
       case rel=>exact⟨s+1,by omega,by go_num,HN,HO4.out.drewN q5,below_drewN HB4.out q5⟩
       case measure=>simp[intOf]<;>omega
     ·obtain rfl:s=v:=by omega
      have hsi:¬(s:Int)<(s:Int):=by omega
      have HN:Hid (MM T=MM t):=hid (by rw[HMST.out,HNO.out T hno.out];rfl)
      have HX6:=hid (And.intro how (HX3.out.2.1.trans (hbw.mono HX3.out.2.1.size)))
      clear hbw how
      go_wp2
      go_roundw
      case rel=>exact⟨T,by omega,by go_num,by rw[HN.out];exact HX6.out.1,HX6.out.2⟩
      case measure=>simp[intOf]<;>omega
  ·have hti:¬(T:Int)<(v:Int):=by omega
   have HX:=hid (And.intro ho hbl)
   rw[show t=v-1 by have:=HT.out;omega]at HX
   clear ho hbl
   go_wp2
   go_ret2
   exact⟨⟨_,rfl,HX.out.1⟩,HX.out.2⟩
theorem row_make (p:Int) (a a':Option Addr) (n c n' c':Nat) (w:World):
 Calls Tryz.prog 106 #[.int .i64 p,.slice a n c,.slice a' n' c'] w fun e w'=>e= .returned (.func (.func 187) #[] #[.pointer (some ⟨w.heap.size+1+1,0,none⟩),.pointer (some ⟨w.heap.size+1,0,none⟩),.pointer (some ⟨w.heap.size,0,none⟩)])∧
  w'=((w.alloc (.cells #[.int .i64 p] 3)).alloc (.cells #[.slice a n c] 45)).alloc (.cells #[.slice a' n' c'] 45):=by
 go_enter Tryz.func106,Tryz.ntmps106
 go_wp2
 go_ret
 exact⟨rfl,rfl⟩
structure RowSrc (p:Int) (taps seed:List Int) (bs bt bp:Nat) (sv tv:Value) (A:World):Prop where
 cp:A.cell? ⟨bp,0,none⟩=some (.int .i64 p)
 ct:A.cell? ⟨bt,0,none⟩=some tv
 cs:A.cell? ⟨bs,0,none⟩=some sv
 tl:Sl A tv taps
 sl:Sl A sv seed
theorem below_grown {a w:World} (h:Below a.heap.size a w) (row:Option Nat):a.grownBy w row:=⟨h.os,h.tape,h.output,h.size,fun k hk _=>h.block k hk⟩
theorem Sl.at' {b off n c:Nat} {w:World} {l:List Int} (h:Sl w (.slice (some ⟨b,off,none⟩) n c) l) (i:Nat) (hi:i<n):b<w.heap.size∧w.cell? ⟨b,off+i,none⟩=some (.int .i64 (l[i]?.getD 0)):=by
 obtain⟨a,c',N,e,hN,h1,h2⟩:=h.open
 simp only[Value.slice.injEq]at e
 obtain⟨rfl,rfl,rfl⟩:=e
 obtain⟨b',off',e,hb,hc⟩:=h2 (by omega)
 simp only[Option.some.injEq,Addr.mk.injEq,and_true]at e
 obtain⟨rfl,rfl⟩:=e
 exact⟨hb,hc i hi⟩
theorem row_ever (p:Int) (taps seed:List Int) (R:Recur p taps seed) (bs bt bp:Nat) (sv tv:Value) (N:Nat):
 Ever Tryz.prog 187 #[.pointer (some ⟨bs,0,none⟩),.pointer (some ⟨bt,0,none⟩),.pointer (some ⟨bp,0,none⟩)] (rowF p taps seed) (RowSrc p taps seed bs bt bp sv tv) N:=by
 intro l J Jx W hS hA hY h0
 refine callsIn_wide.2 ?_
 show Calls _ _ #[.func (.yield l) #[] #[],.pointer (some ⟨bs,0,none⟩),.pointer (some ⟨bt,0,none⟩),.pointer (some ⟨bp,0,none⟩)] W _
 have hsrc:=(hS _ _ _ h0).1
 have hk1:=R.k1
 have hk8:=R.k8
 have hlen:=R.len
 have hc0:=hsrc.cs
 have hsl:=hsrc.sl
 obtain⟨a',c',M,rfl,hM,hm1,hm2⟩:=hsl.open
 rw[hM.out]at hlen
 obtain⟨b',off',rfl,hb',hc'⟩:=hm2 (by omega)
 obtain⟨a2,c2,M2,rfl,hM2,hn1,hn2⟩:=hsrc.tl.open
 obtain⟨b2,off2,rfl,hb2,_⟩:=hn2 (by rw[←hM2.out];omega)
 obtain rfl:M=M2:=by rw[hlen,hM2.out]
 have HS:=hid hS
 have HA:=hid hA
 have HY:=hid hY
 have H0:=hid h0
 have HR:=hid R
 have HTL:=hid hlen
 clear hS hA hY h0 hsrc hm2 hc' R hlen hn2
 go_enter Tryz.func187,Tryz.ntmps187
 go_wp2_with fail
 refine(clone_ints b' off' M c' seed W hsl (by rw[hM.out,HTL.out];omega)).mono ?_
 rintro e w1 ⟨⟨u,rfl,hown⟩,hb⟩
 have hw1:Win W.heap.size w1 u (winL p taps seed 0):=by rw[win_zero];exact Win.of_ow hown (by rw[hM.out,HTL.out];exact hk1)
 have hj1:J 0 (.slice none 0 0) w1:=HA.out _ _ _ _ none H0.out (below_grown hb _) (fun r e=>by cases e)
 clear hc0 hsl hown hb
 go_wp2_with fail
 go_loopg [5] N (fun f v wr=>∃k q,f+k=N∧J k q wr∧Win W.heap.size wr v (winL p taps seed k)∧(∀g,v.ownBlock=some g→q.ownBlock≠some g))
 case atStart=>exact⟨0,_,by omega,hj1,hw1,fun g _=>by simp[Value.ownBlock]⟩
 case round=>
  obtain⟨k,q,hf,hj,hw,hne⟩:=hrel
  obtain⟨b,off,c,rfl⟩:=hw.form
  have hM1:1≤M:=by rw[HTL.out];exact hk1
  have hM8:M≤8:=by rw[HTL.out];exact hk8
  rw[win_len,hM.out]at hw hne⊢
  have hB:=hw.lt.1
  have hblt:=hw.lt.2.1
  have hMc:=hw.lt.2.2.2
  have hcell:=hw.cell 0 (by rw[win_len,hM.out];exact hM1)
  rw[win_get (by rw[hM.out];exact hM1),Nat.add_zero]at hcell
  obtain⟨fn,tmps,assign,body,hy,hRd⟩:=HY.out k q wr hj
  refine wp_seq_k fun K1 hK1=> ?_
  refine wp_seq_k fun K2 hK2=> ?_
  refine(wpIn_wide (n:=0)).1 ?_
  gi_wp2
  refine⟨rfl,hRd.mono ?_⟩
  rintro e C (⟨rfl,q',hj',hrest,hown⟩|⟨rfl,q',hx⟩)
  ·obtain⟨⟨s1,s2,s3,s4,s5⟩,s6,s7⟩:=HS.out _ _ _ hj'
   have hw2:=hw.same (hrest.same b hB hblt (hne b rfl))
   have hne2:q'.ownBlock≠some b:=fun e=>by
    rcases hown b e with h|h
    ·exact hne b rfl h
    ·omega
   have hCs:=hrest.size
   have HJ:=hid hj'
   have HN2:=hid hne2
   have HW2:=hid hw2
   have HTC:=hid (fun i (hi:i<M)=>(s4.at' i hi).2)
   have HWC:=hid (fun i (hi:i<M)=>hw2.cell i (by rw[win_len,hM.out];exact hi))
   have hxm:∀x∈winL p taps seed k,0≤x∧x<p:=fun x hx=>row_mem (by have:=HR.out.p2;omega) HR.out.fs _ x (List.mem_of_mem_drop hx)
   have HXB:=hid (fun j=>getD_nn (by have:=HR.out.p2;omega) hxm j)
   have HTB:=hid (fun j=>getD_nn (by have:=HR.out.p2;omega) HR.out.ft j)
   have HDB:=hid (dot_bd (by have:=HR.out.p2;omega) HR.out.p7 HR.out.ft hxm)
   have HST:Hid (∀j,dot taps (winL p taps seed k) (j+1)=dot taps (winL p taps seed k) j+taps.getD j 0*(winL p taps seed k).getD (M-1-j) 0):=hid (fun j=>by simp only[dot];rw[win_len,hM.out])
   have HNX:=hid (win_next p taps seed k (by rw[hM.out];exact hM1))
   have hXL:Hid ((winL p taps seed k).length=M):=hid (by rw[win_len,hM.out])
   have hp2:=HR.out.p2
   have hp7:=HR.out.p7
   clear hw hne hj hcell hy hRd hrest hown hw2 hne2 hj' s3 s4 s5 hxm
   generalize winL p taps seed k=xs at*
   gi_wp2
   go_wp2
   go_loop [6,7,8,18] (fun s _ _ i=>∃jj:Nat,jj≤M∧i= .int .i64 jj∧s= .int .i64 (dot taps xs jj)) (fun _ _ _ i=>M-(intOf i).toNat)
   case atStart=>exact⟨0,Nat.zero_le _,rfl,rfl⟩
   case round=>
    obtain⟨jj,hj,rfl,rfl⟩:=hrel
    by_cases hjm:jj<M
    ·have c1:=HTC.out jj hjm
     have c3:=HWC.out (M-1-jj) (by omega)
     have b1:=HTB.out jj
     have b2':=HXB.out (M-1-jj)
     obtain⟨b31,b32⟩:=HDB.out jj
     obtain⟨b41,b42⟩:=mul_bd b1 b2' hp7
     have HS':=hid (HST.out jj)
     rw[getD_q]at b1 b41 b42 HS'
     obtain⟨z,hz⟩:∃z:Nat,z=M-1-jj:=⟨_,rfl⟩
     rw[←hz]at c3 b2' b41 b42 HS'
     have hqi:(M:Int)-1-(jj:Int)=(z:Int):=by omega
     have hzM:z<M:=by omega
     generalize taps[jj]?.getD 0=x at*
     generalize xs.getD z 0=y at*
     generalize dot taps xs jj=s at*
     clear hz b1 b2'
     go_wp2
     go_round
     case rel=>exact⟨jj+1,by omega,by go_num,by rw[HS'.out]⟩
     case measure=>simp[intOf]<;>omega
    ·obtain rfl:M=jj:=by omega
     obtain⟨b31,b32⟩:=HDB.out M
     have hq1:0≤dot taps xs M%p:=Int.emod_nonneg _ (by omega)
     have hq2:dot taps xs M%p<p:=Int.emod_lt_of_pos _ (by omega)
     have HNX2:Hid (winL p taps seed (k+1)=xs.drop 1++[dot taps xs M%p]):=hid (by
      rcases HNX.out with h|h
      ·rw[h,←HTL.out]
      ·exact absurd (by rw[←HTL.out,hM.out]) h)
     generalize dot taps xs M=s at*
     have hBs:W.heap.size≤C.heap.size:=by omega
     have hxl:(xs.drop 1).length≤1000000000000:=by rw[List.length_drop,hXL.out];omega
     have hM1i:(1:Int)≤(M:Int):=by omega
     have hp0:¬p=0:=by omega
     have htm:s.tmod p=s%p:=Int.tmod_eq_emod_of_nonneg b31
     by_cases hc1:c=1
     ·subst hc1
      obtain rfl:M=1:=by omega
      have hs1:=HW2.out.slice1 (by omega) off rfl
      have HS1:=hid hs1
      clear hs1
      go_wp2
      go_region_law (refine step_win C _ _ 45 rfl rfl Tryz.underlying45 Tryz.info3 W.heap.size b off _ _ (xs.drop 1) rfl HS1.out rfl hxl hBs ?_;intro v' w2 hown1 hg1 hg2)
      go_wp2
      go_roundg (gk-1)
      case measure=>omega
      case rel=>exact⟨k+1,q',by omega,HA.out _ _ _ _ _ HJ.out hg1 (fun r e=>by cases e;exact⟨hB,HN2.out⟩),by rw[HNX2.out];exact hown1,fun g hg e=>by
       rcases hg2 g hg with h|h
       ·subst h;exact HN2.out e
       ·have:=s7 g e
        omega⟩
     ·have hc1i:¬((c:Int)=1):=by omega
      have hs1:=HW2.out.slice1 (by omega) (off+1) (by rw[if_neg hc1])
      have HS1:=hid hs1
      clear hs1
      go_wp2
      go_region_law (refine step_win C _ _ 45 rfl rfl Tryz.underlying45 Tryz.info3 W.heap.size b (off+1) _ _ (xs.drop 1) rfl HS1.out rfl hxl hBs ?_;intro v' w2 hown1 hg1 hg2)
      go_wp2
      go_roundg (gk-1)
      case measure=>omega
      case rel=>exact⟨k+1,q',by omega,HA.out _ _ _ _ _ HJ.out hg1 (fun r e=>by cases e;exact⟨hB,HN2.out⟩),by rw[HNX2.out];exact hown1,fun g hg e=>by
       rcases hg2 g hg with h|h
       ·subst h;exact HN2.out e
       ·have:=s7 g e
        omega⟩
  ·gi_wp2
   go_wp2
   go_end0
   exact⟨⟨_,rfl⟩,_,_,hx⟩
def SI (f:Nat→Nat) (N k:Nat) (S:Nat→Bool) (t:Nat) (S':Nat→Bool):Prop:=∀y,y<N→(S' y=true↔S y=true∨∃a,a<t∧y=it f a k)
def oT (f:Nat→Nat) (k t:Nat):List UInt8:=40::inT (orb f t k)
theorem oT_len {N:Nat} {f:Nat→Nat} (hN:N≤12) (P:Pm N f) {k t:Nat} (hk:k<N) (ht:t≤12):(oT f k t).length≤100:=by
 have h:=in_len (c:=orb f t k) fun x hx=>by
  unfold orb at hx
  obtain⟨i,_,rfl⟩:=List.mem_map.1 hx
  have:=P.it_lt hk i
  omega
 rw[orb_len]at h
 unfold oT
 rw[List.length_cons]
 omega
theorem longs_len {N:Nat} {f:Nat→Nat} (hN:N≤12) (P:Pm N f):∀k,k≤N→(bodyT (longs f N k)).length≤101*k
 |0,_=>by simp[longs,cycL,bodyT]
 |k+1,hk=>by
  have ih:=longs_len hN P k (by omega)
  rw[longs_succ]
  by_cases h:leadB f N k=true∧2≤per f N k
  ·have h2:=oT_len hN P (t:=per f N k) (show k<N by omega) (by have:=(P.per_spec (show k<N by omega)).2.2.1;omega)
   rw[if_pos h,bodyT_snoc,List.length_append]
   have e:cycT (orb f (per f N k) k)=oT f k (per f N k)++[41]:=rfl
   rw[e,List.length_append]
   simp only[List.length_cons,List.length_nil]
   omega
  ·rw[if_neg h,List.append_nil]
   omega
end Go.Proofs.YtnnaadmegeeinaaGreatDoor
namespace Go.Proofs.YtnnaadmegeeinaaGreatDoor
open Go.RowKit
attribute [local go_sem] Oper.semAt_some
theorem Run_fault (p:Int) (v u:Value) (taps seed:List Int) (n:Int) (w:World) (hv:Sl w v taps) (hu:Sl w u seed) (hb:∀x∈taps,I64 x) (hb2:∀x∈seed,I64 x) (h:runE p taps seed≠0):
 Calls Tryz.prog 32 #[.int .i64 p,v,u,.int .i64 n] w fun e w'=>e= .returned (.tuple #[.slice none 0 0,.int .i64 (runE p taps seed)])∧Below w.heap.size w w':=by
 have hq:(runE p taps seed !=0)=true:=by simpa using h
 have hb0:Below w.heap.size w (w.alloc (.cells #[.int .i64 n] 3)):=(Below.refl _ _).alloc (Nat.le_refl _) _
 have HC:=hid (rcheck2_any p v u taps seed _ (hv.below hb0) (hu.below hb0) hb hb2)
 generalize runE p taps seed=z at*
 have HB0:=hid hb0
 clear hb0 h hb hb2
 go_enter Tryz.func32,Tryz.ntmps32
 go_wp2_with fail
 refine HC.out.mono ?_
 rintro e w1 ⟨rfl,hb1⟩
 go_wp2
 go_ret2
 exact⟨rfl,HB0.out.trans (hb1.mono HB0.out.size)⟩
theorem Run_range (p:Int) (v u:Value) (taps seed:List Int) (n:Int) (w:World) (hv:Sl w v taps) (hu:Sl w u seed) (hb:∀x∈taps,I64 x) (hb2:∀x∈seed,I64 x) (h:runE p taps seed=0) (hn:n<0∨5000<n):
 Calls Tryz.prog 32 #[.int .i64 p,v,u,.int .i64 n] w fun e w'=>e= .returned (.tuple #[.slice none 0 0,.int .i64 1])∧Below w.heap.size w w':=by
 have hb0:Below w.heap.size w (w.alloc (.cells #[.int .i64 n] 3)):=(Below.refl _ _).alloc (Nat.le_refl _) _
 have HC:=hid (rcheck2_any p v u taps seed _ (hv.below hb0) (hu.below hb0) hb hb2)
 rw[h]at HC
 have HB0:=hid hb0
 clear hb0 h hb hb2
 rcases hn with hn|hn
 all_goals
  go_enter Tryz.func32,Tryz.ntmps32
  go_wp2_with fail
  refine HC.out.mono ?_
  rintro e w1 ⟨rfl,hb1⟩
  have c1:w1.cell? ⟨w.heap.size,0,none⟩=some (.int .i64 n):=(hb1.cell (p:=⟨w.heap.size,0,none⟩) (by simp)).trans (lit_cell _ _ _)
  go_wp2
  go_ret2
  exact⟨rfl,HB0.out.trans (hb1.mono HB0.out.size)⟩
theorem Run_zero (p:Int) (v u:Value) (taps seed:List Int) (w:World) (hv:Sl w v taps) (hu:Sl w u seed) (hb:∀x∈taps,I64 x) (hb2:∀x∈seed,I64 x) (h:runE p taps seed=0):
 Calls Tryz.prog 32 #[.int .i64 p,v,u,.int .i64 0] w fun e w'=>e= .returned (.tuple #[.slice none 0 0,.int .i64 0])∧Below w.heap.size w w':=by
 have hb0:Below w.heap.size w (w.alloc (.cells #[.int .i64 0] 3)):=(Below.refl _ _).alloc (Nat.le_refl _) _
 have HC:=hid (rcheck2_any p v u taps seed _ (hv.below hb0) (hu.below hb0) hb hb2)
 rw[h]at HC
 have HB0:=hid hb0
 clear hb0 h hb hb2
 go_enter Tryz.func32,Tryz.ntmps32
 go_wp2_with fail
 refine HC.out.mono ?_
 rintro e w1 ⟨rfl,hb1⟩
 have c1:w1.cell? ⟨w.heap.size,0,none⟩=some (.int .i64 0):=(hb1.cell (p:=⟨w.heap.size,0,none⟩) (by simp)).trans (lit_cell _ _ _)
 go_wp2
 go_ret2
 exact⟨rfl,HB0.out.trans (hb1.mono HB0.out.size)⟩
theorem grown_trans {A B C:World} {r row:Option Nat} (h:A.grownBy B r) (g:B.grownBy C row) (hr:∀q,row=some q→q<A.heap.size→r=some q):A.grownBy C r:=
 ⟨g.os.trans h.os,g.tape.trans h.tape,g.output.trans h.output,Nat.le_trans h.size g.size,fun k hk hne=>by
   have hs:=h.size
   rw[g.block k (by omega) (fun e=>hne (hr k e.symm hk).symm)]
   exact h.block k hk hne⟩
theorem OI.cells_at {B:Nat} {w:World} {v:Value} {l:List Int} (h:OI B w v l):∀g,v.ownBlock=some g→∃o:Obj,w.heap[g]? =some o∧o.isCells=true:=by
 intro g hg
 rcases h.2 with⟨rfl,_⟩|⟨g',cap,cur,rfl,_,hgb,_⟩
 ·simp[Value.ownBlock]at hg
 ·simp[Value.ownBlock]at hg
  subst hg
  exact⟨_,hgb,rfl⟩
theorem box_append {A C:World} {n0 o L:Nat} {q v':Value} {xs:List Int} {x:Int} {tmp:Obj} (hq:OI n0 A q xs) (hbx:Boxed A o 45 q) (ho:o<n0) (hn0:n0≤A.heap.size)
 (hown:C.ownsRow n0 3 1 v' L (xs.map (Value.int .i64)++[.int .i64 x])) (hL:L=xs.length+1) (hg:(A.alloc tmp).grownBy C q.ownBlock) (hat:v'.ownBlock=q.ownBlock∨v'.ownBlock=some (A.alloc tmp).heap.size):
 Boxed C o 45 q∧Boxed (C.setCell ⟨o,0,none⟩ v') o 45 v'∧OI n0 (C.setCell ⟨o,0,none⟩ v') v' (xs++[x])∧(∀V:World,V.heap.size=n0→V.grownBy A (some o)→V.grownBy (C.setCell ⟨o,0,none⟩ v') (some o))∧
  KeepsOthers A (C.setCell ⟨o,0,none⟩ v')∧(∀B,n0≤B→Rest B A (C.setCell ⟨o,0,none⟩ v') q)∧OwnStep A q v':=by
 have hqo:q.ownBlock≠some o:=fun e=>by have:=(hq.lt o e).1;omega
 have hb1:Boxed C o 45 q:=(hbx.alloc tmp).kept hg (fun e=>hqo e.symm)
 have hC:OI n0 C v' (xs++[x]):=by
  unfold OI Ow
  rw[List.map_append,List.map_cons,List.map_nil,List.length_append,List.length_map,List.length_cons,List.length_nil,←hL]
  exact hown
 have hvo:v'.ownBlock≠some o:=fun e=>by have:=(hC.lt o e).1;omega
 have hsz:A.heap.size+1≤C.heap.size:=by have:=hg.size;simpa using this
 have hss:(C.setCell ⟨o,0,none⟩ v').heap.size=C.heap.size:=by show(C.heap.modify o _).size=_;rw[Array.size_modify]
 refine⟨hb1,hb1.set v',hC.kept (grownBy_setCell' C o v') (.inr hvo),?_,?_,?_,?_⟩
 ·intro V hV hgA
  refine grown_trans (grown_trans (grown_trans hgA (World.grownBy_alloc A tmp none) (fun _ e=>by cases e)) hg (fun r e hr=> ?_)) (grownBy_setCell' C o v') (fun r e _=>by cases e;rfl)
  have:=(hq.lt r e).1
  omega
 ·refine((KeepsOthers.alloc A tmp).trans (KeepsOthers.of_grownBy hg fun j ob ej hj=> ?_)).trans (KeepsOthers.setCell _ _ _)
  obtain⟨o2,h2,h3⟩:=(hq.alloc tmp).cells_at j ej
  rw[hj]at h2
  cases h2
  exact h3
 ·intro B hB
  refine⟨by omega,fun r h1 h2 h3=> ?_⟩
  rw[Below.heap_setCell C ⟨o,0,none⟩ v' r (by simp;omega),hg.block r (by simp;omega) (fun e=>h3 e.symm)]
  exact Below.heap_alloc A tmp r h2
 ·intro g e
  rcases hat with h|h
  ·left;rw[←h];exact e
  ·right
   rw[h]at e
   simp at e
   omega
theorem Run_ok (p:Int) (v u:Value) (taps seed:List Int) (n:Nat) (w:World) (hv:Sl w v taps) (hu:Sl w u seed) (hb:∀x∈taps,I64 x) (hb2:∀x∈seed,I64 x) (h:runE p taps seed=0) (hn1:1≤n) (hn2:n≤5000):
 Calls Tryz.prog 32 #[.int .i64 p,v,u,.int .i64 n] w fun e w'=>(∃r,e= .returned (.tuple #[r,.int .i64 0])∧OI w.heap.size w' r (rowL p taps seed n))∧Below w.heap.size w w':=by
 have R:=runE_ok h
 have hb0:Below w.heap.size w (w.alloc (.cells #[.int .i64 n] 3)):=(Below.refl _ _).alloc (Nat.le_refl _) _
 have HC:=hid (rcheck2_any p v u taps seed _ (hv.below hb0) (hu.below hb0) hb hb2)
 rw[h]at HC
 have HV:=hid hv
 have HU:=hid hu
 obtain⟨a1,c1,N1,rfl,hN1,hl1,_⟩:=hv.open
 obtain⟨a2,c2,N2,rfl,hN2,hl2,_⟩:=hu.open
 have HR:=hid R
 have HB0:=hid hb0
 clear hb0 h hb hb2 hv hu R
 obtain⟨i0,hi,hz0,hz1,hz2⟩:=info_parts Tryz.info3
 refine callsIn_wide.1 (callsIn_of_wp_marks (F:=Fence.wide) (n:=0) Tryz.func32 rfl trivial ?_)
 refine wpIn_wide.2 ?_
 simp only[Tryz.ntmps32,List.size_toArray,List.length_cons,List.length_nil,Nat.reduceAdd,Nat.reduceSub,Array.replicate_succ,Array.replicate_zero,List.push_toArray,List.append_toArray,List.nil_append,List.cons_append]
 have hn0:((n:Int)==0)=false:=by simp;omega
 go_wp2_with fail
 refine HC.out.mono ?_
 rintro e w1 ⟨rfl,hb1⟩
 have c1':w1.cell? ⟨w.heap.size,0,none⟩=some (.int .i64 n):=(hb1.cell (p:=⟨w.heap.size,0,none⟩) (by simp)).trans (lit_cell _ _ _)
 have hz1':w.heap.size+1≤w1.heap.size:=by have:=hb1.size;simpa using this
 have HB1:=hid (HB0.out.trans (hb1.mono HB0.out.size))
 go_wp2_with fail
 refine(row_make p a1 a2 N1 c1 N2 c2 _).mono ?_
 rintro e w2 ⟨rfl,hw2⟩
 have hs2:w2.heap.size=w1.heap.size+4:=by rw[hw2];simp
 have hbo:Boxed w2 w1.heap.size 45 (.slice none 0 0):=by
  rw[hw2]
  exact(((Boxed.new w1 45 (.slice none 0 0)).alloc _).alloc _).alloc _
 have hb2:Below w.heap.size w w2:=by
  rw[hw2]
  exact((((HB1.out.alloc HB1.out.size _).alloc (by simp;omega) _).alloc (by simp;omega) _).alloc (by simp;omega) _)
 have hcn:w2.cell? ⟨w.heap.size,0,none⟩=some (.int .i64 n):=by
  rw[hw2]
  have h1:Below w1.heap.size w1 ((((w1.alloc (.cells #[.slice none 0 0] 45)).alloc (.cells #[.int .i64 p] 3)).alloc (.cells #[.slice a1 N1 c1] 45)).alloc (.cells #[.slice a2 N2 c2] 45)):=
   ((((Below.refl _ _).alloc (Nat.le_refl _) _).alloc (by simp) _).alloc (by simp;omega) _).alloc (by simp;omega) _
  exact(h1.cell (p:=⟨w.heap.size,0,none⟩) hz1').trans c1'
 have hbp:Boxed w2 (w1.heap.size+1) 3 (.int .i64 p):=by
  rw[hw2]
  have:=((Boxed.new (w1.alloc (.cells #[.slice none 0 0] 45)) 3 (.int .i64 p)).alloc (.cells #[.slice a1 N1 c1] 45)).alloc (.cells #[.slice a2 N2 c2] 45)
  rwa [World.size_alloc]at this
 have hbt:Boxed w2 (w1.heap.size+1+1) 45 (.slice a1 N1 c1):=by
  rw[hw2]
  have:=(Boxed.new ((w1.alloc (.cells #[.slice none 0 0] 45)).alloc (.cells #[.int .i64 p] 3)) 45 (.slice a1 N1 c1)).alloc (.cells #[.slice a2 N2 c2] 45)
  rwa [World.size_alloc,World.size_alloc]at this
 have hbs:Boxed w2 (w1.heap.size+1+1+1) 45 (.slice a2 N2 c2):=by
  rw[hw2]
  have:=Boxed.new (((w1.alloc (.cells #[.slice none 0 0] 45)).alloc (.cells #[.int .i64 p] 3)).alloc (.cells #[.slice a1 N1 c1] 45)) 45 (.slice a2 N2 c2)
  rwa [World.size_alloc,World.size_alloc,World.size_alloc]at this
 have HBO:=hid hbo
 have HB2:=hid hb2
 have HCN:=hid hcn
 have HBP:=hid hbp
 have HBT:=hid hbt
 have HBS:=hid hbs
 clear hw2 hbo hb2 hcn hbp hbt hbs hb1 c1'
 simp only[World.size_alloc]
 go_wp2_with fail
 have grown:∀(A:World),w2.grownBy A (some w1.heap.size)→RowSrc p taps seed (w1.heap.size+1+1+1) (w1.heap.size+1+1) (w1.heap.size+1) (.slice a2 N2 c2) (.slice a1 N1 c1) A∧Below w.heap.size w A∧A.cell? ⟨w.heap.size,0,none⟩=some (.int .i64 n):=by
  intro A hg
  have hbA:Below w.heap.size w A:=HB2.out.grown hg HB2.out.size (fun k e=>by cases e;omega)
  refine⟨⟨(HBP.out.kept hg (by simp)).cell,(HBT.out.kept hg (by simp;omega)).cell,(HBS.out.kept hg (by simp;omega)).cell,HV.out.below hbA,HU.out.below hbA⟩,hbA,?_⟩
  refine(World.cell?_of_block (hg.block w.heap.size (by omega) ?_)).trans HCN.out
  intro e
  simp at e
  omega
 have GR:=hid grown
 clear grown
 refine range_ever (gf:=187) (lb:= #[.pointer (some ⟨w1.heap.size+1+1+1,0,none⟩),.pointer (some ⟨w1.heap.size+1+1,0,none⟩),.pointer (some ⟨w1.heap.size+1,0,none⟩)]) rfl
  (run_callFunc_own Tryz.func187 (by kernel_rfl) (by kernel_rfl)) rfl (row_ever p taps seed HR.out _ _ _ (.slice a2 N2 c2) (.slice a1 N1 c1) n)
  (fun k q A=>k<n∧OI w2.heap.size A q (rowL p taps seed k)∧Boxed A w1.heap.size 45 q∧w2.grownBy A (some w1.heap.size))
  (fun c k q A=>c= .exit 1∧OI w2.heap.size A q (rowL p taps seed n)∧Boxed A w1.heap.size 45 q∧w2.grownBy A (some w1.heap.size))
  ?_ ?_ ?_ ?_ ?_ ?a1 ?assign ?body ?stop
 case assign=>
  intro l x W K hK
  gi_wp2
  exact hK
 ·rintro k q A C row ⟨h1,h2,h3,h4⟩ hg hr
  refine⟨h1,h2.kept hg ?_,h3.kept hg (fun e=> ?_),grown_trans h4 hg (fun r e hlt=> ?_)⟩
  ·cases hqo:q.ownBlock with
   |none=>exact .inl rfl
   |some g=>exact .inr fun e=>(hr g e.symm).2 hqo
  ·have:=(hr _ e.symm).1;omega
  ·have:=(hr r e).1;omega
 ·rintro c k q A C row ⟨h1,h2,h3,h4⟩ hg hr
  refine⟨h1,h2.kept hg ?_,h3.kept hg (fun e=> ?_),grown_trans h4 hg (fun r e hlt=> ?_)⟩
  ·cases hqo:q.ownBlock with
   |none=>exact .inl rfl
   |some g=>exact .inr fun e=>(hr g e.symm).2 hqo
  ·have:=(hr _ e.symm).1;omega
  ·have:=(hr r e).1;omega
 ·rintro k q A ⟨h1,h2,h3,h4⟩
  exact⟨(GR.out A h4).1,h1,h2.cells_at⟩
 ·rintro c k q A ⟨h1,h2,h3,h4⟩
  exact h2.cells_at
 ·exact⟨by omega,OI.nil _ _,HBO.out,⟨rfl,rfl,rfl,Nat.le_refl _,fun _ _ _=>rfl⟩⟩
 case body=>
  rintro l k q W ⟨h1,h2,h3,h4⟩
  have hc:=h3.cell
  obtain⟨_,g2,g3⟩:=GR.out W h4
  have hW:=h4.size
  have hrl:=rowL_len p taps seed k
  have hrow:W.ownsRow w2.heap.size 3 1 q ((rowL p taps seed k).map (Value.int .i64)).length ((rowL p taps seed k).map (Value.int .i64)):=h2
  have HX:=hid (And.intro h1 (And.intro h2 (And.intro h3 h4)))
  have HRL:Hid (rowL p taps seed (k+1)=rowL p taps seed k++[rowF p taps seed k]):=hid (by rw[row_list,row_list,List.range_succ,List.map_append];rfl)
  rw[List.length_map,hrl]at hrow
  have HL:=hid hrl
  clear h2 h3 h4 hrl
  generalize rowL p taps seed k=xs at*
  generalize rowF p taps seed k=x at*
  have hne1:¬w.heap.size=w1.heap.size:=by omega
  have hne2:¬w1.heap.size=w.heap.size:=by omega
  by_cases hkn:k+1=n
  ·have hbt:((k:Int)+1==(n:Int))=true:=by rw[beq_iff_eq];omega
   have HKN:=hid hkn
   clear hkn
   gi_wp2_with (gi_at_builtin;(refine wpListIn_append_own_at _ rfl _ _ 45 rfl w2.heap.size 3 i0 (.int .i64 0) 1 8 Tryz.underlying45 hi hz0 hz1 hz2 rfl (by decide) _ _ _ rfl (hrow.alloc _) ⟨W.heap.size,0,none⟩ 1 1 [.int .i64 x] rfl rfl (cell_one_new _ _ _) (by simp[Value.oneCell']) (by unfold maxLen;omega) (by omega) (by simp;omega) ?_;intro v' w3 hown3 hg3 _ hat3;obtain⟨g',cap',rfl⟩:=ownsRow_succ hown3;obtain⟨b1,b2,b3,b4,b5,b6,b7⟩:=box_append HX.out.2.1 HX.out.2.2.1 (by omega) hW hown3 (by rw[HL.out]) hg3 hat3;have e1:=b1.cell;have e2:=b1.frozen;have e3:w3.cell? ⟨w.heap.size,0,none⟩=some (.int .i64 n):=(World.cell?_of_block (hg3.block w.heap.size (by simp;omega) (fun e=>by have:=(HX.out.2.1.lt _ e.symm).1;omega))).trans (((Below.refl _ W).alloc (Nat.le_refl _) _).cell (p:=⟨w.heap.size,0,none⟩) (by simp;omega)|>.trans g3)))
   exact⟨b5,_,rfl,b3.cast (by rw[←HKN.out,HRL.out]),b2,b4 w2 rfl HX.out.2.2.2⟩
  ·have hbt:((k:Int)+1==(n:Int))=false:=by rw[beq_eq_false_iff_ne];omega
   gi_wp2_with (gi_at_builtin;(refine wpListIn_append_own_at _ rfl _ _ 45 rfl w2.heap.size 3 i0 (.int .i64 0) 1 8 Tryz.underlying45 hi hz0 hz1 hz2 rfl (by decide) _ _ _ rfl (hrow.alloc _) ⟨W.heap.size,0,none⟩ 1 1 [.int .i64 x] rfl rfl (cell_one_new _ _ _) (by simp[Value.oneCell']) (by unfold maxLen;omega) (by omega) (by simp;omega) ?_;intro v' w3 hown3 hg3 _ hat3;obtain⟨g',cap',rfl⟩:=ownsRow_succ hown3;obtain⟨b1,b2,b3,b4,b5,b6,b7⟩:=box_append HX.out.2.1 HX.out.2.2.1 (by omega) hW hown3 (by rw[HL.out]) hg3 hat3;have e1:=b1.cell;have e2:=b1.frozen;have e3:w3.cell? ⟨w.heap.size,0,none⟩=some (.int .i64 n):=(World.cell?_of_block (hg3.block w.heap.size (by simp;omega) (fun e=>by have:=(HX.out.2.1.lt _ e.symm).1;omega))).trans (((Below.refl _ W).alloc (Nat.le_refl _) _).cell (p:=⟨w.heap.size,0,none⟩) (by simp;omega)|>.trans g3)))
   exact⟨b5,_,⟨by omega,b3.cast (by rw[HRL.out]),b2,b4 w2 rfl HX.out.2.2.2⟩,b6 _ (by omega),b7⟩
 case stop=>
  rintro D c k q W hD ⟨rfl,h2,h3,h4⟩ hK
  have hc:=h3.cell
  obtain⟨_,g2,g3⟩:=GR.out W h4
  have HX:=hid (And.intro h2 g2)
  have HKD:=hid hK
  have HD:=hid hD
  clear h2 h3 h4 g2 hK
  go_wp2
  refine⟨by simp,.inl ⟨_,_,rfl,run_takeDeferred HKD.out,?_⟩⟩
  refine⟨.tuple #[q,.int .i64 0],?_,⟨q,rfl,?_⟩,?_⟩
  ·simp[results,Tryz.f32,go_sem]
  ·refine(OI.kept HX.out.1 (grownBy_putObj' W D (.deferred none)) (.inr fun e=> ?_)).mono (by omega)
   obtain⟨o2,h2,h3⟩:=HX.out.1.cells_at D e
   rw[HKD.out]at h2
   cases h2
   cases h3
  ·exact HX.out.2.grown (grownBy_putObj' W D (.deferred none)) HX.out.2.size (fun k e=>by cases e;have:=HD.out;omega)
end Go.Proofs.YtnnaadmegeeinaaGreatDoor
