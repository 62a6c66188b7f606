/-
  Part 20 of a proof: what it proves stands in the last text.
-/
import Derived.Test.YtnnaadmegeeinaaGreatDoorZm
import Derived.Test.YtnnaadmegeeinaaGreatDoorZi
import Derived.Deep.CutRange
import Derived.Test.YtnnaadmegeeinaaGreatDoorZg
import Derived.Test.YtnnaadmegeeinaaGreatDoorZd
import Derived.Test.YtnnaadmegeeinaaGreatDoorZj
import Derived.Test.YtnnaadmegeeinaaGreatDoorZh
import Derived.RegionTactic
set_option linter.unusedVariables false
set_option maxHeartbeats 8000000
set_option maxRecDepth 100000
namespace Go.Proofs.YtnnaadmegeeinaaGreatDoor
open Go.RowKit
def rbD (e k m:Nat):List Nat:=if k=0 then(if m≤e then[e]else[])else List.range' m (e+1-k-m)
def rbM (e k m:Nat):Nat:=if k=0 then e else m
theorem rbC_eq (e k x:Nat):rbC e (k+1) x=rbD e k (x+1):=by
 unfold rbC rbD
 by_cases h:k=0
 ·subst h;rfl
 ·rw[if_neg (by omega),if_neg h]
  congr 1
  omega
theorem rbD_step {e k m:Nat} (h:m+k≤e):rbD e k m=rbM e k m::rbD e k (rbM e k m+1):=by
 unfold rbD rbM
 by_cases h0:k=0
 ·subst h0
  rw[if_pos rfl,if_pos rfl,if_pos rfl,if_pos (by omega),if_neg (by omega)]
 ·rw[if_neg h0,if_neg h0,if_neg h0,show e+1-k-m=(e+1-k-(m+1))+1 by omega,List.range'_succ]
theorem rbD_end {e k m:Nat} (h:¬m+k≤e):rbD e k m=[]:=by
 unfold rbD
 by_cases h0:k=0
 ·subst h0
  rw[if_pos rfl,if_neg (by omega)]
 ·rw[if_neg h0,show e+1-k-m=0 by omega]
  rfl
def rbS (e k:Nat) (l:List Nat) (C:List Nat):Option (List Nat):=C.findSome? fun m=>if apB (l++[m])then rbF e k (l++[m])else none
theorem rbF_succ (e k:Nat) (l:List Nat):rbF e (k+1) l=rbS e k l (rbD e k (l.getLastD 0+1)):=by
 rw[rbF,rbC_eq]
 rfl
theorem rbS_no {e k m:Nat} {l C:List Nat} (h:apB (l++[m])=false∨rbF e k (l++[m])=none):rbS e k l (m::C)=rbS e k l C:=by
 unfold rbS
 rw[List.findSome?_cons]
 rcases h with h|h
 ·rw[h];rfl
 ·rw[h]
  split<;>simp_all
theorem rbS_yes {e k m:Nat} {l C r:List Nat} (h:apB (l++[m])=true) (h2:rbF e k (l++[m])=some r):rbS e k l (m::C)=some r:=by
 unfold rbS
 rw[List.findSome?_cons,h,if_pos rfl,h2]
theorem rbF_len {e:Nat}:∀(k:Nat) (l r:List Nat),rbF e k l=some r→r.length=l.length+k
 |0,l,r,h=>by
  rw[rbF]at h
  split at h
  ·cases h;rfl
  ·cases h
 |k+1,l,r,h=>by
  rw[rbF,List.findSome?_eq_some_iff]at h
  obtain⟨_,m,_,_,hm,_⟩:=h
  split at hm
  ·have:=rbF_len k _ r hm
   rw[List.length_append]at this
   simp at this
   omega
  ·cases hm
theorem last_get {l:List Nat} (h:0<l.length):l.getLastD 0=l.getD (l.length-1) 0:=by
 rw[List.getD_eq_getElem?_getD,List.getLastD_eq_getLast?,List.getLast?_eq_getElem?]
structure Mks (e:Nat) (l:List Nat):Prop where
 len:0<l.length
 asc:∀i j,i<j→j<l.length→l.getD i 0<l.getD j 0
 bd:∀i,i<l.length→l.getD i 0≤e
theorem Mks.snoc {e:Nat} {l:List Nat} {m:Nat} (h:Mks e l) (h1:l.getLastD 0<m) (h2:m≤e):Mks e (l++[m]):=by
 have hg:∀i,i<l.length→(l++[m]).getD i 0=l.getD i 0:=fun i hi=>by
  rw[List.getD_eq_getElem?_getD,List.getD_eq_getElem?_getD,List.getElem?_append_left hi]
 have hl:(l++[m]).getD l.length 0=m:=by
  rw[List.getD_eq_getElem?_getD,List.getElem?_append_right (Nat.le_refl _)]
  simp
 have hlt:∀i,i<l.length→l.getD i 0<m:=fun i hi=>by
  rw[last_get h.len]at h1
  by_cases e:i=l.length-1
  ·rw[e];exact h1
  ·have:=h.asc i (l.length-1) (by omega) (by have:=h.len;omega)
   omega
 refine⟨by simp,fun i j hij hj=> ?_,fun i hi=> ?_⟩
 ·rw[List.length_append,List.length_singleton]at hj
  by_cases e:j=l.length
  ·rw[e,hl,hg i (by omega)]
   exact hlt i (by omega)
  ·rw[hg i (by omega),hg j (by omega)]
   exact h.asc i j hij (by omega)
 ·rw[List.length_append,List.length_singleton]at hi
  by_cases e:i=l.length
  ·rw[e,hl];exact h2
  ·rw[hg i (by omega)]
   exact h.bd i (by omega)
theorem apart_own {B g n c e:Nat} {l:List Nat} {w:World} (h:OI B w (.slice (some ⟨g,0,none⟩) n c) (ofN l)) (hn:l.length=n) (hM:Mks e l) (he:e≤1000) (hn2:n≤100):
 Calls Tryz.prog 262 #[.slice (some ⟨g,0,none⟩) n c] w fun e w'=>e= .returned (.bool (apB l))∧Below w.heap.size w w':=by
 refine apart_any g 0 c n l w (h.lt g rfl).2 (by have:=hM.len;omega) hn2 h.cap hn (fun i hi=> ?_) (fun i j h1 h2=>hM.asc i j h1 (by omega)) (fun i hi=>Nat.le_trans (hM.bd i (by omega)) he)
 rw[Nat.zero_add,h.cell i (by rw[ofN_len];omega),ofN_get]
def BestR (e k:Nat) (l:List Nat) (W:Nat) (en:Ending) (w':World):Prop:=∃(pa:Option Addr) (pn pc:Nat),en= .returned (.tuple #[.slice pa pn pc,.bool (rbF e k l).isSome])∧∀r,rbF e k l=some r→Sl w' (.slice pa pn pc) (ofN r)
theorem best_any (e n:Nat) (hn:n≤7) (he:e≤100):∀(k:Nat) (l:List Nat) (b c:Nat) (off:Nat) (w:World),l.length+k=n→Mks e l→Sl w (.slice (some ⟨b,off,none⟩) l.length c) (ofN l)→
 Calls Tryz.prog 210 #[.slice (some ⟨b,off,none⟩) l.length c,.int .i64 n,.int .i64 e] w fun en w'=>BestR e k l w.heap.size en w'∧Below w.heap.size w w'
 |0,l,b,c,off,w,hk,hM,hv=>by
  have HV:=hid hv
  have hlen:=hM.len
  obtain⟨b',off',⟨hbb,hcell⟩⟩:∃b' off',(some (⟨b,off,none⟩:Addr)=some ⟨b',off',none⟩∧∀i,i<l.length→w.cell? ⟨b',off'+i,none⟩=some (.int .i64 ((l.getD i 0:Nat):Int))):=by
   obtain⟨a',c',he',_,hc'⟩:=hv.out
   rw[ofN_len]at he' hc'
   simp only[Value.slice.injEq]at he'
   obtain⟨b2,o2,e2,_,h2⟩:=hc' hlen
   exact⟨b2,o2,he'.1.trans e2,fun i hi=>by rw[h2 i hi,ofN_get]⟩
  simp only[Option.some.injEq,Addr.mk.injEq,and_true]at hbb
  obtain⟨rfl,rfl⟩:=hbb
  have hcl:=hcell (l.length-1) (by omega)
  rw[←last_get hlen]at hcl
  have HR:Hid ((rbF e 0 l).isSome=(((l.getLastD 0:Nat):Int)==(e:Int))):=hid (by
   rw[rbF]
   by_cases h:l.getLastD 0=e
   ·rw[if_pos h,h];simp
   ·rw[if_neg h,Eq.comm,beq_eq_false_iff_ne.2 (by omega)];rfl)
  have HS:Hid (∀r,rbF e 0 l=some r→r=l):=hid (fun r hr=>by
   rw[rbF]at hr
   split at hr
   ·cases hr;rfl
   ·cases hr)
  have hNn:l.length=n:=by omega
  rw[hNn]at hcl hlen HV⊢
  have hsub:(n:Int)-1=((n-1:Nat):Int):=by omega
  have hn1:n-1<n:=by omega
  have hcd:w.drew.cell? ⟨b,off+(n-1),none⟩=_:=hcl
  have hnn:(n:Int)-(n:Int)=0:=by omega
  have hwj:IntKind.i64.wrap ((n-1:Nat):Int)=((n-1:Nat):Int):=IntWalk.i64_in _ (by omega)
  clear hcell hv hM hk hNn
  unfold BestR
  generalize rbF e 0 l=RR at*
  generalize l.getLastD 0=x at*
  generalize n-1=n1 at*
  go_enter Tryz.func210,Tryz.ntmps210
  go_wp2
  go_region
  go_wp2
  go_ret2
  exact⟨⟨_,_,_,by rw[HR.out];rfl,fun r hr=>by rw[HS.out r hr];exact HV.out⟩,(Below.refl _ _).drew⟩
 |k+1,l,b,c,off,w,hk,hM,hv=>by
  have IH:=hid (fun(m g c2:Nat) (w1:World) (h1:l.getLastD 0<m) (h2:m≤e) (h3:Sl w1 (.slice (some ⟨g,0,none⟩) (l.length+1) c2) (ofN (l++[m])))=>(show Calls Tryz.prog 210 #[.slice (some ⟨g,0,none⟩) (l.length+1) c2,.int .i64 n,.int .i64 e] w1 fun en w'=>BestR e k (l++[m]) w1.heap.size en w'∧Below w1.heap.size w1 w' from by
   have e1:(l++[m]).length=l.length+1:=by simp
   have h:=best_any e n hn he k (l++[m]) g c2 0 w1 (by rw[e1];omega) (hM.snoc h1 h2) (by rw[e1];exact h3)
   rw[e1]at h
   exact h))
  have HAP:=hid (fun(m g c2:Nat) (B:Nat) (w1:World) (h1:l.getLastD 0<m) (h2:m≤e) (h3:OI B w1 (.slice (some ⟨g,0,none⟩) (l.length+1) c2) (ofN (l++[m])))=>apart_own h3 (by simp) (hM.snoc h1 h2) (show e≤1000 by omega) (by omega))
  have hlen:=hM.len
  have HCL:=hid (fun(w1:World) (h1:Below w.heap.size w w1)=>clone_ints b off l.length c (ofN l) w1 (hv.below h1) (by rw[ofN_len];omega))
  obtain⟨b',off',⟨hbb,hcell⟩⟩:∃b' off',(some (⟨b,off,none⟩:Addr)=some ⟨b',off',none⟩∧∀i,i<l.length→w.cell? ⟨b',off'+i,none⟩=some (.int .i64 ((l.getD i 0:Nat):Int))):=by
   obtain⟨a',c',he',_,hc'⟩:=hv.out
   rw[ofN_len]at he' hc'
   simp only[Value.slice.injEq]at he'
   obtain⟨b2,o2,e2,_,h2⟩:=hc' hlen
   exact⟨b2,o2,he'.1.trans e2,fun i hi=>by rw[h2 i hi,ofN_get]⟩
  simp only[Option.some.injEq,Addr.mk.injEq,and_true]at hbb
  obtain⟨rfl,rfl⟩:=hbb
  have hcl:=hcell (l.length-1) (by omega)
  rw[←last_get hlen]at hcl
  have hxe:l.getLastD 0≤e:=by rw[last_get hlen];exact hM.bd _ (by omega)
  have HF:=hid (rbF_succ e k l)
  have HST:=hid (fun m (h:m+k≤e)=>rbD_step (e:=e) (k:=k) (m:=m) h)
  have HEN:=hid (fun m (h:¬m+k≤e)=>rbD_end (e:=e) (k:=k) (m:=m) h)
  have HNO:=hid (fun m C=>rbS_no (e:=e) (k:=k) (m:=m) (l:=l) (C:=C))
  have HYE:=hid (fun m C r=>rbS_yes (e:=e) (k:=k) (m:=m) (l:=l) (C:=C) (r:=r))
  have HNIL:Hid (rbS e k l []=none):=hid rfl
  have HSN:=hid (ofN_snoc l)
  have HOL:=hid (ofN_len l)
  have HMM:Hid (∀m,rbM e k m=if k=0 then e else m):=hid (fun m=>rfl)
  have HRL:=hid (fun m r (h:rbF e k (l++[m])=some r)=>rbF_len k _ r h)
  obtain⟨N1,hN1⟩:∃N1,l.length-1=N1:=⟨_,rfl⟩
  rw[hN1]at hcl
  have hNsub:(l.length:Int)-1=(N1:Int):=by omega
  have hN1lt:N1<l.length:=by omega
  have hwj:IntKind.i64.wrap (N1:Int)=(N1:Int):=IntWalk.i64_in _ (by omega)
  have hleft:(n:Int)-(l.length:Int)=((k+1:Nat):Int):=by omega
  have hNle:l.length≤7:=by omega
  have hk7:k+1≤7:=by omega
  have HK:Hid (∀m:Nat,m+k≤e↔(m:Int)≤(e:Int)-((k+1:Nat):Int)+1):=hid (fun m=>by omega)
  have HK0:Hid (k=0↔k+1=1):=hid (by omega)
  have HKM:Hid (∀m,m+k≤e→m≤rbM e k m∧rbM e k m≤e):=hid (fun m h=>by
   unfold rbM
   split<;>omega)
  have HB0:=hid (Below.refl w.heap.size w)
  unfold BestR
  clear hcell hv hM hk hN1
  generalize l.getLastD 0=x at*
  generalize l.length=N at*
  obtain⟨L,hL⟩:∃L,k+1=L:=⟨_,rfl⟩
  rw[hL]at hleft hk7 HK HK0
  have hLne:((L:Int)==0)=false:=by rw[beq_eq_false_iff_ne];omega
  clear hL
  generalize rbF e (k+1) l=RR at*
  go_enter Tryz.func210,Tryz.ntmps210
  go_wp2
  go_loopw [9] (fun mv wr=>∃m:Nat,mv= .int .i64 m∧x<m∧m≤e+1∧Hid (rbS e k l (rbD e k m)=RR)∧Below w.heap.size w wr) (fun mv _=>e+1-(intOf mv).toNat)
  case atStart=>exact⟨x+1,by go_num,by omega,by omega,hid HF.out.symm,HB0.out⟩
  case round=>
   obtain⟨m,rfl,hxm,hme,hR,hbl⟩:=hrel
   by_cases hgo:m+k≤e
   ·have hgi:=(HK.out m).1 hgo
    obtain⟨q1,q2⟩:=HKM.out m hgo
    have HRS:Hid (rbS e k l (rbM e k m::rbD e k (rbM e k m+1))=RR):=hid (by rw[←HST.out m hgo];exact hR.out)
    have HM':=hid (HMM.out m)
    have HBL:=hid hbl
    clear hbl hR hgo
    obtain⟨M,hMe⟩:∃M,rbM e k m=M:=⟨_,rfl⟩
    rw[hMe]at q1 q2 HRS HM'
    clear hMe
    go_upto_if 43 with fail
    go_cut [9]from 34 to 60 (fun v9 wc=>v9= .int .i64 (M:Nat)∧wc=wr)
    case first=>
     by_cases h1:L=1
     ·have hbe:((L:Int)==1)=true:=beq_iff_eq.2 (by omega)
      have h2:=HM'.out
      rw[if_pos (HK0.out.2 h1)]at h2
      have H2:=hid h2
      clear h1 h2
      go_wp2_with fail
      go_meet
      case rel=>exact⟨by rw[H2.out],rfl⟩
     ·have hbe:((L:Int)==1)=false:=beq_eq_false_iff_ne.2 (by omega)
      have h2:=HM'.out
      rw[if_neg (fun h=>h1 (HK0.out.1 h))]at h2
      have H2:=hid h2
      clear h1 h2
      go_wp2_with fail
      go_meet
      case rel=>exact⟨by rw[H2.out],rfl⟩
    case rest=>
     obtain⟨rfl,hwc⟩:=hcut
     subst hwc
     have HCC:=hid (HCL.out wc HBL.out)
     go_wp2_with fail
     refine HCC.out.mono ?_
     rintro e2 w2 ⟨⟨u,rfl,hu⟩,hb2⟩
     have HB2:=hid hb2
     have hl2:(ofN l).length≤1000000000000:=by rw[HOL.out];omega
     have hs2:=hb2.size
     clear hb2 HCC
     go_wp2_with (at_builtin;refine wpList_appi w2 _ _ 45 rfl rfl Tryz.underlying45 Tryz.info3 wc.heap.size _ _ rfl hu rfl hl2 hs2 ?_;intro g7 c7 w4 hown1 hg1 hg2 hg3)
     have hb4:=hu.grown HB2.out hg1 hs2
     have ho4:=hown1.cast (HSN.out M).symm
     rw[HOL.out]at ho4⊢
     have HAA:=hid (HAP.out M g7 c7 wc.heap.size w4 (by omega) q2 ho4)
     have HX:=hid (And.intro ho4 hb4)
     have hs4:=hb4.size
     clear hown1 hg1 hg2 hg3 hu hb4 ho4
     obtain⟨ab,hab⟩:∃ab,apB (l++[M])=ab:=⟨_,rfl⟩
     rw[hab]at HAA
     have HAB:=hid hab
     clear hab
     cases ab with
     |false=>
      have HN:Hid (rbS e k l (rbD e k (M+1))=RR):=hid (by rw[←HRS.out];exact(HNO.out M _ (.inl HAB.out)).symm)
      go_wp2_with fail
      refine HAA.out.mono ?_
      rintro e5 w5 ⟨rfl,hb5⟩
      have HX5:=hid (HBL.out.trans ((HX.out.2.trans (hb5.mono hs4)).mono HBL.out.size))
      clear hb5
      go_wp2
      go_roundw
      case rel=>exact⟨M+1,by go_num,by omega,by omega,hid HN.out,HX5.out⟩
      case measure=>simp[intOf]<;>omega
     |true=>
      go_wp2_with fail
      refine HAA.out.mono ?_
      rintro e5 w5 ⟨rfl,hb5⟩
      have HII:=hid (IH.out M g7 c7 w5 (by omega) q2 ((HX.out.1.below hb5).sl (by rw[HSN.out,List.length_append,HOL.out];simp;omega)))
      have HX5:=hid (HBL.out.trans ((HX.out.2.trans (hb5.mono hs4)).mono HBL.out.size))
      clear hb5
      unfold BestR at HII
      cases hr:rbF e k (l++[M])with
      |none=>
       have HN:Hid (rbS e k l (rbD e k (M+1))=RR):=hid (by rw[←HRS.out];exact(HNO.out M _ (.inr hr)).symm)
       rw[hr]at HII
       clear hr
       go_wp2_with fail
       refine HII.out.mono ?_
       rintro e6 w6 ⟨⟨pa,pn,pc,rfl,hS⟩,hb6⟩
       have HX6:=hid (HX5.out.trans (hb6.mono HX5.out.size))
       clear hb6 hS
       go_wp2
       go_roundw
       case rel=>exact⟨M+1,by go_num,by omega,by omega,hid HN.out,HX6.out⟩
       case measure=>simp[intOf]<;>omega
      |some r=>
       have HN:Hid (RR=some r):=hid (by rw[←HRS.out];exact HYE.out M _ r HAB.out hr)
       rw[hr]at HII
       clear hr
       go_wp2_with fail
       refine HII.out.mono ?_
       rintro e6 w6 ⟨⟨pa,pn,pc,rfl,hS⟩,hb6⟩
       have HX6:=hid (And.intro (hS r rfl) (HX5.out.trans (hb6.mono HX5.out.size)))
       clear hb6 hS
       go_wp2
       go_ret2
       exact⟨⟨_,_,_,by rw[HN.out];rfl,fun r' hr'=>by rw[HN.out]at hr';cases hr';exact HX6.out.1⟩,HX6.out.2⟩
   ·have hgi:¬(m:Int)≤(e:Int)-(L:Int)+1:=fun h=>hgo ((HK.out m).2 h)
    have HN:Hid (RR=none):=hid (by rw[←hR.out,HEN.out m hgo];exact HNIL.out)
    have HBL:=hid hbl
    clear hbl hR hgo
    go_wp2
    go_ret2
    exact⟨⟨_,_,_,by rw[HN.out];rfl,fun r' hr'=>by rw[HN.out]at hr';cases hr'⟩,HBL.out⟩
def rulG (n:Nat):Nat→Nat→List Nat
 |0,_=>[]
 |f+1,e=>match rbF e (n-1) [0]with
  |some r=>r
  |none=>rulG n f (e+1)
def rulX (n:Nat):List Int:=if 1≤n∧n≤7 then ofN (rulG n 100 (n-1))else[]
theorem rulN_bd (n:Nat) (h:1≤n):n-1≤rulN n∨7<n:=by
 unfold rulN
 repeat' split
 all_goals omega
theorem rulN_le (n:Nat):rulN n≤25:=by
 unfold rulN
 repeat' split
 all_goals omega
theorem mks0 (e:Nat):Mks e [0]:=⟨by simp,fun i j h1 h2=>by simp at h2;omega,fun i hi=>by simp at hi;subst hi;simp⟩
theorem Best_bad (n:Nat) (w:World) (h:¬(1≤n∧n≤7)):
 Calls Tryz.prog 124 #[.int .i64 n] w fun en w'=>en= .returned (.tuple #[.slice none 0 0,.int .i64 1])∧w=w':=by
 by_cases h1:n<1
 ·have h1i:(n:Int)<1:=by omega
  clear h
  go_enter Tryz.func124,Tryz.ntmps124
  go_wp2
  go_ret2
  exact⟨rfl,rfl⟩
 ·have h1i:¬(n:Int)<1:=by omega
  have h2i:(7:Int)<(n:Int):=by omega
  clear h
  go_enter Tryz.func124,Tryz.ntmps124
  go_wp2
  go_ret2
  exact⟨rfl,rfl⟩
theorem Best_ok (n:Nat) (w:World) (h1:1≤n) (h7:n≤7):
 Calls Tryz.prog 124 #[.int .i64 n] w fun en w'=>(∃(pa:Option Addr) (pn pc:Nat),en= .returned (.tuple #[.slice pa pn pc,.int .i64 0])∧Sl w' (.slice pa pn pc) (rulX n)∧(rulX n).length=n)∧Below w.heap.size w w':=by
 have HBEST:=hid (fun(e:Nat) (g c:Nat) (w1:World) (he:e≤100) h3=>best_any e n h7 he (n-1) [0] g c 0 w1 (by simp;omega) (mks0 e) h3)
 have HLIT:=hid (fun w1:World=>(OI.lit1 w1.heap.size w1 0 (Nat.le_refl _)).sl (by simp))
 have HX:Hid (rulX n=ofN (rulG n 100 (n-1))):=hid (if_pos ⟨h1,h7⟩)
 have HFND:Hid (rbF (rulN n) (n-1) [0]≠none):=hid (fun hh=>by
  have:=rul_found n (by omega) h1
  rw[hh]at this
  cases this)
 have HLEN:=hid (fun e r (h:rbF e (n-1) [0]=some r)=>(rbF_len (n-1) [0] r h).trans (show 1+(n-1)=n by omega))
 have HG:Hid (∀f e,rulG n (f+1) e=match rbF e (n-1) [0]with|some r=>r|none=>rulG n f (e+1)):=hid (fun f e=>rfl)
 have hn1:n-1≤rulN n:=by rcases rulN_bd n h1 with h|h<;>omega
 have hn25:=rulN_le n
 have hi1:¬(n:Int)<1:=by omega
 have hi7:¬(7:Int)<(n:Int):=by omega
 have hsub:(n:Int)-1=((n-1:Nat):Int):=by omega
 have HOL:=hid ofN_len
 unfold BestR at HBEST
 generalize rulX n=X at*
 generalize rulG n=G at*
 generalize rulN n=E at*
 generalize n-1=k at*
 go_enter Tryz.func124,Tryz.ntmps124
 go_wp2
 go_loopw [4] (fun ev wr=>∃e f:Nat,ev= .int .i64 e∧e≤E∧f+e=100+k∧Hid (X=ofN (G f e))∧Below w.heap.size w wr) (fun ev _=>E-(intOf ev).toNat)
 case atStart=>exact⟨k,100,rfl,hn1,rfl,hid HX.out,Below.refl _ _⟩
 case round=>
  obtain⟨e,f,rfl,heE,hfe,hXe,hbl⟩:=hrel
  obtain⟨f,rfl⟩:∃f',f=f'+1:=⟨f-1,by omega⟩
  have hXX:=hXe.out
  rw[HG.out]at hXX
  have HB0:=hid (hbl.alloc hbl.size (.cells #[.int .i64 0] 3))
  have HCA:=hid (HBEST.out e wr.heap.size 1 (wr.alloc (.cells #[.int .i64 0] 3)) (by omega) (HLIT.out wr))
  clear hbl hXe
  cases hr:rbF e k [0]with
  |some r=>
   rw[hr]at hXX HCA
   have HXX:=hid hXX
   have HLR:=hid (HLEN.out e r hr)
   clear hr hXX
   go_wp2_with fail
   refine HCA.out.mono ?_
   rintro e6 w6 ⟨⟨pa,pn,pc,rfl,hS⟩,hb6⟩
   have HX6:=hid (And.intro (hS r rfl) (HB0.out.trans (hb6.mono HB0.out.size)))
   clear hb6 hS
   go_wp2
   go_ret2
   exact⟨⟨_,_,_,rfl,by rw[HXX.out];exact HX6.out.1,by rw[HXX.out,HOL.out];exact HLR.out⟩,HX6.out.2⟩
  |none=>
   have hne:e≠E:=fun he=>HFND.out (by rw[←he];exact hr)
   rw[hr]at hXX HCA
   have HXX:=hid hXX
   clear hr hXX
   go_wp2_with fail
   refine HCA.out.mono ?_
   rintro e6 w6 ⟨⟨pa,pn,pc,rfl,hS⟩,hb6⟩
   have HX6:=hid (HB0.out.trans (hb6.mono HB0.out.size))
   clear hb6 hS
   go_wp2
   go_roundw
   case rel=>exact⟨e+1,f,by go_num,by omega,by omega,hid HXX.out,HX6.out⟩
   case measure=>simp[intOf]<;>omega
def dsO (v:Nat) (x:Int):Bool:=decide (x<0)||decide ((v:Int)≤x)
theorem dscheck1_any (v:Nat) (x:Int) (b:Nat) (w:World) (hc:w.cell? ⟨b,0,none⟩=some (.int .i64 v)):
 Calls Tryz.prog 251 #[.int .i64 x,.pointer (some ⟨b,0,none⟩)] w fun e w'=>e= .returned (.bool (dsO v x))∧w=w':=by
 by_cases h:x<0
 ·have hE:Hid (dsO v x=true):=hid (by unfold dsO;rw[decide_eq_true h];rfl)
  rw[hE.out]
  go_enter Tryz.func251,Tryz.ntmps251
  go_wp2
  go_ret
  exact⟨rfl,rfl⟩
 ·by_cases h2:(v:Int)≤x
  ·have hE:Hid (dsO v x=true):=hid (by unfold dsO;rw[decide_eq_true h2,Bool.or_true])
   rw[hE.out]
   go_enter Tryz.func251,Tryz.ntmps251
   go_wp2
   go_ret
   exact⟨rfl,rfl⟩
  ·have hE:Hid (dsO v x=false):=hid (by unfold dsO;rw[decide_eq_false h2,decide_eq_false h];rfl)
   rw[hE.out]
   go_enter Tryz.func251,Tryz.ntmps251
   go_wp2
   go_ret
   exact⟨rfl,rfl⟩
theorem dscheck1_tests (v:Nat) (b:Nat) (w:World) (hc:w.cell? ⟨b,0,none⟩=some (.int .i64 v)):Tests 251 #[.pointer (some ⟨b,0,none⟩)] (dsO v) w where
 enter:=run_callFunc_own Tryz.func251 (by kernel_rfl) (by kernel_rfl)
 calls:=fun x _=>dscheck1_any v x b w hc
theorem dsO_any (v:Nat) (l:List Nat):(ofN l).any (dsO v)=l.any fun n=>decide (v≤n):=by
 unfold ofN
 rw[List.any_map]
 refine congrArg (fun f=>List.any l f) (funext fun n=> ?_)
 show(decide ((n:Int)<0)||decide ((v:Int)≤(n:Int)))=_
 rw[decide_eq_false (by omega),Bool.false_or,decide_eq_decide]
 omega
theorem map_ofN_at (bs:List (List Nat)) (i:Nat):(bs.map ofN).getD i []=ofN (bs.getD i []):=by
 rw[List.getD_eq_getElem?_getD,List.getD_eq_getElem?_getD,List.getElem?_map]
 cases bs[i]? <;>rfl
theorem getD_mem' {bs:List (List Nat)} {i:Nat} (h:i<bs.length):bs.getD i []∈bs:=by
 rw[List.getD_eq_getElem?_getD,List.getElem?_eq_getElem h,Option.getD_some]
 exact List.getElem_mem h
theorem ds_cells {W:World} {B:Nat} {x y:Value} {t:TypeId} (h:W.heap[B]? =some (.cells #[x,y] t)):W.cell? ⟨B,0,none⟩=some x∧W.cell? ⟨B,1,none⟩=some y:=by
 constructor<;>simp[World.cell?,h]
theorem ds_box (w:World) (P:Nat) (v:Value):(w.alloc (.cells #[.int .i64 P,v] 103)).cell? ⟨w.heap.size,0,none⟩=some (.int .i64 P)∧(w.alloc (.cells #[.int .i64 P,v] 103)).cell? ⟨w.heap.size,1,none⟩=some v:=by
 exact ds_cells (World.alloc_heap_new w (.cells #[.int .i64 P,v] 103))
theorem drewN_add' (w:World) (p q:Nat):(w.drewN p).drewN q=w.drewN (p+q):=by
 unfold World.drewN
 simp only[Nat.add_assoc]
theorem dscheck_any (P:Nat) (v:Value) (bs:List (List Nat)) (w:World) (hP:P<1000000000) (hv:RL w v (bs.map ofN)) (hb:∀b∈bs,∀x∈b,x<1000000000):
 Calls Tryz.prog 200 #[.agg #[.int .i64 P,v]] w fun e w'=>e= .returned (.int .i64 (dsE P bs))∧Below w.heap.size w w':=by
 have hb0:Below w.heap.size w (w.alloc (.cells #[.int .i64 P,v] 103)):=(Below.refl _ _).alloc (Nat.le_refl _) _
 have HE:Hid (dsE P bs=if P<1∨40<P then 1 else if 200<bs.length then 3 else dbE P bs):=hid rfl
 have hcs:=ds_box w P v
 have HCS:=hid hcs
 have hv1:=hv.below hb0
 generalize dsE P bs=E at*
 have HB0:=hid hb0
 by_cases h1:P<1
 ·have h1i:(P:Int)<1:=by omega
  have e1:=HE.out
  rw[if_pos (.inl h1)]at e1
  subst e1
  clear HE hv hb0 hb hcs hv1
  go_enter Tryz.func200,Tryz.ntmps200
  go_wp2
  go_ret
  exact⟨rfl,HB0.out⟩
 have h1i:¬(P:Int)<1:=by omega
 by_cases h2:40<P
 ·have h2i:(40:Int)<(P:Int):=by omega
  have e1:=HE.out
  rw[if_pos (.inr h2)]at e1
  subst e1
  clear HE hv hb0 hb hcs hv1
  go_enter Tryz.func200,Tryz.ntmps200
  go_wp2
  go_ret
  exact⟨rfl,HB0.out⟩
 have h2i:¬(40:Int)<(P:Int):=by omega
 obtain⟨a,c,N,rfl,hN,hl1,hl2⟩:=hv1.open
 rw[List.length_map]at hN
 by_cases h3:200<N
 ·have h3i:(200:Int)<(N:Int):=by omega
  have e1:=HE.out
  rw[if_neg (by omega),if_pos (by rw[hN.out];exact h3)]at e1
  subst e1
  clear HE hv hb0 hb hcs hv1 hl2 hN
  go_enter Tryz.func200,Tryz.ntmps200
  go_wp2
  go_ret
  exact⟨rfl,HB0.out⟩
 have h3i:¬(200:Int)<(N:Int):=by omega
 have e1:=HE.out
 rw[if_neg (by omega),if_neg (by rw[hN.out];exact h3)]at e1
 have HEE:=hid e1
 have HL2:=hid hl2
 have HBB:=hid hb
 have HSt:Hid (∀i,i<N→dbE P (bs.drop i)=if((bs.getD i []).any fun n=>decide (P≤n))=true then 1 else if dfRise (bs.getD i [])=false then 2 else dbE P (bs.drop (i+1))):=hid (fun i hi=>dbE_at (by rw[hN.out];exact hi))
 have HEn:Hid (dbE P (bs.drop N)=0):=hid (by rw[←hN.out,List.drop_length];rfl)
 have HMm:Hid (∀i,i<N→∀x∈bs.getD i [],x<1000000000):=hid (fun i hi=>hb _ (getD_mem' (by rw[hN.out];exact hi)))
 have HL3:Hid (0<N→∃g off,a=some ⟨g,off,none⟩∧g<(w.alloc (.cells #[.int .i64 P,.slice a N c] 103)).heap.size∧∀i,i<N→∃u,(w.alloc (.cells #[.int .i64 P,.slice a N c] 103)).cell? ⟨g,off+i,none⟩=some u∧Sl (w.alloc (.cells #[.int .i64 P,.slice a N c] 103)) u (ofN (bs.getD i []))):=hid (fun h=>by
  obtain⟨g,off,q1,q2,q3⟩:=hl2 h
  exact⟨g,off,q1,q2,fun i hi=>by
   obtain⟨u,u1,u2⟩:=q3 i hi
   rw[map_ofN_at]at u2
   exact⟨u,u1,u2⟩⟩)
 clear HE e1 hv hb0 hb hcs hv1 hl2 hN HL2 HBB
 obtain⟨W0,HW0⟩:∃W0,Hid (w.alloc (.cells #[.int .i64 P,.slice a N c] 103)=W0):=⟨_,hid rfl⟩
 have HC0:Hid (W0.cell? ⟨w.heap.size,0,none⟩=some (.int .i64 P)):=hid (by rw[←HW0.out];exact HCS.out.1)
 rw[HW0.out]at HB0 HL3
 clear HCS
 go_enter Tryz.func200,Tryz.ntmps200
 go_wp2
 rw[HW0.out]
 clear HW0
 go_loopw [23] (fun iv wr=>∃i:Nat,i≤N∧iv= .int .i64 i∧Hid (dbE P (bs.drop i)=E)∧∃q,Hid (wr=W0.drewN q)) (fun iv _=>N-(intOf iv).toNat)
 case atStart=>exact⟨0,Nat.zero_le _,rfl,hid (by rw[HEE.out];rfl),0,hid rfl⟩
 case round=>
  obtain⟨i,hiN,rfl,hE,q,HQ⟩:=hrel
  obtain⟨V,hV⟩:∃V,V=wr:=⟨wr,rfl⟩
  subst hV
  by_cases hi:i<N
  ·have hii:(i:Int)<(N:Int):=by omega
   obtain⟨g,off,rfl,hg,hcell⟩:=HL3.out (by omega)
   obtain⟨u,hu1,hu2⟩:=hcell i hi
   have hu3:Sl V u (ofN (bs.getD i [])):=by rw[HQ.out];exact hu2.drewN q
   have c1:V.cell? ⟨g,off+i,none⟩=some u:=by rw[HQ.out];exact hu1
   have cP:V.cell? ⟨w.heap.size,0,none⟩=some (.int .i64 P):=by rw[HQ.out];exact HC0.out
   have hst:=HSt.out i hi
   rw[hE.out]at hst
   have HCF:=hid (containsFunc_any _ _ _ u _ _ hu3 (ofN_I64 (HMm.out i hi)) (dscheck1_tests P w.heap.size _ cP))
   rw[dsO_any]at HCF
   obtain⟨a2,c2,M,rfl,hM,hm1,hm2⟩:=hu3.open
   rw[show(ofN (bs.getD i [])).length=(bs.getD i []).length from ofN_len _]at hM
   have HC2:Hid (M=0∨∃b off,a2=some ⟨b,off,none⟩∧∀j,j<M→V.cell? ⟨b,off+j,none⟩=some (.int .i64 (((bs.getD i []).getD j 0:Nat):Int))):=hid (by
    rcases Nat.eq_zero_or_pos M with h0|h0
    ·exact .inl h0
    ·obtain⟨b,off,e1,e2,e3⟩:=hm2 h0
     exact .inr ⟨b,off,e1,fun i hi=>by rw[e3 i hi,←ofN_get,List.getD_eq_getElem?_getD (l:=ofN _)]⟩)
   have hx:Hid (dbE P (bs.drop (i+1))=dbE P (bs.drop (i+1))):=hid rfl
   clear hcell hu1 hu2 hu3 hm2 cP
   generalize bs.getD i []=l at*
   have HBW:=hid (show Below w.heap.size w V from by rw[HQ.out];exact below_drewN HB0.out _)
   cases hany:(l.any fun n=>decide (P≤n))with
   |true=>
    rw[if_pos hany]at hst
    subst hst
    rw[hany]at HCF
    clear hany HL3 HEE hE
    go_wp2_with fail
    refine HCF.out.mono ?_
    rintro e w1 ⟨rfl,rfl⟩
    go_wp2
    go_ret
    exact⟨rfl,HBW.out⟩
   |false=>
    rw[if_neg (by rw[hany];simp)]at hst
    rw[hany]at HCF
    have HR:=hid hst
    have HY:Hid ((∀j,j+1<M→l.getD j 0<l.getD (j+1) 0)→dbE P (bs.drop (i+1))=E):=hid (fun h=>by
     rw[HR.out,if_neg]
     rw[Bool.not_eq_false]
     unfold dfRise
     rw[List.all_eq_true]
     intro j hj
     exact decide_eq_true (h j (by have:=List.mem_range.1 hj;have:=hM.out;omega)))
    have HNO:Hid (∀j,j+1<M→¬l.getD j 0<l.getD (j+1) 0→E=2):=hid (fun j hj h=>by
     rw[HR.out,if_pos]
     cases hd:dfRise l with
     |false=>rfl
     |true=>exact absurd (dfRise_at hd (i:=j) (by rw[hM.out];exact hj)) h)
    clear hst hany HR HL3 HEE hE hM
    go_wp2_with fail
    refine HCF.out.mono ?_
    rintro e w1 ⟨rfl,rfl⟩
    clear HCF
    go_wp2
    go_loopw [5] (fun iv wr2=>∃k:Nat,1≤k∧iv= .int .i64 k∧Hid (∀j,j+1<M→j+1<k→l.getD j 0<l.getD (j+1) 0)∧∃q2,Hid (wr2=V.drewN q2)) (fun iv _=>M-(intOf iv).toNat)
    case atStart=>exact⟨1,Nat.le_refl _,rfl,hid (fun j _ h=>by omega),0,hid rfl⟩
    case round=>
     obtain⟨k,hk1,rfl,hno,q2,HQ2⟩:=hrel
     by_cases hkN:k<M
     ·have hkk:(k:Int)<(M:Int):=by omega
      obtain⟨b,off2,rfl,hcell⟩:∃b off,a2=some ⟨b,off,none⟩∧∀j,j<M→V.cell? ⟨b,off+j,none⟩=some (.int .i64 ((l.getD j 0:Nat):Int)):=by
       rcases HC2.out with h|h
       ·omega
       ·exact h
      obtain⟨j,hj⟩:∃j,k=j+1:=⟨k-1,by omega⟩
      have hsub:(k:Int)-1=(j:Int):=by omega
      have hwj:IntKind.i64.wrap (j:Int)=(j:Int):=IntWalk.i64_in _ (by omega)
      have hjN:j<M:=by omega
      have d1:wr.cell? ⟨b,off2+k,none⟩=some (.int .i64 ((l.getD k 0:Nat):Int)):=by rw[HQ2.out];exact hcell k hkN
      have d2:wr.cell? ⟨b,off2+j,none⟩=some (.int .i64 ((l.getD j 0:Nat):Int)):=by rw[HQ2.out];exact hcell j hjN
      have d1d:wr.drew.cell? ⟨b,off2+k,none⟩=_:=d1
      have d2d:wr.drew.cell? ⟨b,off2+j,none⟩=_:=d2
      have HQ3:Hid (wr.drew=V.drewN (q2+1)):=hid (by rw[HQ2.out];rfl)
      have HBW2:=hid (show Below w.heap.size w wr.drew from by rw[HQ3.out];exact below_drewN HBW.out _)
      have HNO':Hid (¬l.getD j 0<l.getD k 0→E=2):=hid (fun h=>HNO.out j (by omega) (by rw[←hj];exact h))
      have HJ:=hid hj
      clear hcell
      by_cases hlt:l.getD j 0<l.getD k 0
      ·have hlti:¬((l.getD k 0:Nat):Int)≤((l.getD j 0:Nat):Int):=by omega
       have HN2:Hid (∀j,j+1<M→j+1<k+1→l.getD j 0<l.getD (j+1) 0):=hid (fun m h1 h2=>by
        by_cases e:m=j
        ·subst e
         rw[←HJ.out];exact hlt
        ·exact hno.out m h1 (by have:=HJ.out;omega))
       clear hj hlt
       generalize l.getD k 0=x at*
       generalize l.getD j 0=y at*
       go_wp2
       go_region
       go_wp2
       go_roundw
       case rel=>exact⟨k+1,by omega,by go_num,HN2,q2+1,HQ3⟩
       case measure=>simp[intOf]<;>omega
      ·have hlti:((l.getD k 0:Nat):Int)≤((l.getD j 0:Nat):Int):=by omega
       obtain rfl:=HNO'.out hlt
       clear hj hlt HNO'
       generalize l.getD k 0=x at*
       generalize l.getD j 0=y at*
       go_wp2
       go_region
       go_wp2
       go_ret
       exact⟨rfl,HBW2.out⟩
     ·have HE2:=hid (HY.out (fun j hj=>hno.out j hj (by omega)))
      have hkk:¬(k:Int)<(M:Int):=by omega
      have HQ3:Hid (wr=W0.drewN (q+q2)):=hid (by rw[HQ2.out,HQ.out];exact drewN_add' W0 q q2)
      go_wp2
      go_roundw
      case rel=>exact⟨i+1,by omega,by go_num,HE2,q+q2,HQ3⟩
      case measure=>simp[intOf]<;>omega
  ·obtain rfl:i=N:=by omega
   have HBW:=hid (show Below w.heap.size w V from by rw[HQ.out];exact below_drewN HB0.out _)
   obtain rfl:E=0:=by rw[←hE.out,HEn.out]
   have hii:¬(i:Int)<(i:Int):=by omega
   go_wp2
   go_ret
   exact⟨rfl,HBW.out⟩
end Go.Proofs.YtnnaadmegeeinaaGreatDoor
