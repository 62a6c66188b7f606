/-
  Part 30 of a proof: what it proves stands in the last text.
-/
import Derived.Test.YtnnaadmegeeinaaGreatDoorZu
import Derived.Test.YtnnaadmegeeinaaGreatDoorZh
import Derived.Deep.MidRow
set_option linter.unusedVariables false
set_option maxHeartbeats 8000000
set_option maxRecDepth 100000
namespace Go.Proofs.YtnnaadmegeeinaaGreatDoor
open Go.RowKit
def ExtR (n:Nat) (rs:List (List Nat)) (en:Ending) (w':World):Prop:=∃(P:Int) (pa:Option Addr) (pn pc:Nat),en= .returned (.tuple #[.agg #[.int .i64 P,.slice pa pn pc],.int .i64 (extE n rs)])∧(extE n rs=0→P=n∧Sl w' (.slice pa pn pc) (ofN (extC n rs)))
theorem Extend_bad (n:Nat) (rs:List (List Nat)) (v:Value) (w:World) (hv:RL w v (rs.map ofN)) (h:(n<1∨8<n)∨n<rs.length):
 Calls Tryz.prog 117 #[.int .i64 n,v] w fun en w'=>ExtR n rs en w'∧Below w.heap.size w w':=by
 have i9:(Tryz.prog.info? 99).map (·.size)=some 2:=by kernel_rfl
 have HSD:=hid (fun w1=>side_any n w1)
 have hAR:Arr ((w.alloc (.cells #[.int .i64 n] 3)).alloc (.cells #[.int .i64 0,.slice none 0 0] 99)) (w.heap.size+1) 99 [.int .i64 0,.slice none 0 0]:=by
  have:=Arr.new (w.alloc (.cells #[.int .i64 n] 3)) 99 [.int .i64 0,.slice none 0 0]
  rwa [World.size_alloc]at this
 have hb0:Below w.heap.size w ((w.alloc (.cells #[.int .i64 n] 3)).alloc (.cells #[.int .i64 0,.slice none 0 0] 99)):=((Below.refl _ _).alloc (Nat.le_refl _) _).alloc (by simp) _
 have HY:=hid (And.intro hAR hb0)
 clear hAR hb0
 by_cases hs:n<1∨8<n
 ·have HE:Hid (extE n rs=1):=hid (by
   have:extF n rs=1:=if_pos hs
   unfold extE
   rw[this]
   rfl)
  rw[decide_eq_false (by omega)]at HSD
  clear hs h hv
  go_enter Tryz.func117,Tryz.ntmps117
  go_wp2_with fail
  refine(HSD.out _).mono ?_
  rintro e w1 ⟨rfl,hw1⟩
  rw[hw1]at HY
  clear hw1
  have er0:w1.cell? ⟨w.heap.size+1,0,none⟩=some (.int .i64 0):=HY.out.1.cell 0
  have er1:w1.cell? ⟨w.heap.size+1,1,none⟩=some (.slice none 0 0):=HY.out.1.cell 1
  have ef0:=HY.out.1.frozen 0
  have ef1:=HY.out.1.frozen 1
  go_wp2
  have hst1:=HY.out.1.stored 0 (.int .i64 0)
  have hst2:=hst1.1.stored 1 (.slice none 0 0)
  have hF:Arr ((w1.setCell ⟨w.heap.size+1,0,none⟩ (.int .i64 0)).setCell ⟨w.heap.size+1,1,none⟩ (.slice none 0 0)) (w.heap.size+1) 99 [.int .i64 0,.slice none 0 0]:=hst2.1
  have hb9:=((HY.out.2.grown hst1.2 HY.out.2.size (fun k e=>by cases e;omega)).grown hst2.2 (Nat.le_trans HY.out.2.size hst1.2.size) (fun k e=>by cases e;omega))
  have hld:=run_loadVar_mid (P:=Tryz.prog) _ _ _ 99 _ _ hF.range Tryz.underlying99 rfl i9
  refine⟨rfl,.tuple #[.agg #[.int .i64 0,.slice none 0 0],.int .i64 1],?_,⟨0,none,0,0,by rw[HE.out],fun h=>absurd (HE.out.symm.trans h) (by decide)⟩,hb9⟩
  show((results _ _).run _ _)=_
  simp[results,Tryz.f117,asAddr,hld]
 ·have hn1:1≤n∧n≤8:=by omega
  have hM:n<rs.length:=by omega
  have HE:Hid (extE n rs=3):=hid (by
   have:extF n rs=3:=by unfold extF;rw[if_neg hs,if_pos hM]
   unfold extE
   rw[this]
   rfl)
  obtain⟨a,c,M,rfl,hML,_,_⟩:=hv.open
  rw[List.length_map]at hML
  have hMi:(n:Int)<(M:Int):=by have:=hML.out;omega
  rw[decide_eq_true hn1]at HSD
  have hcb:((w.alloc (.cells #[.int .i64 n] 3)).alloc (.cells #[.int .i64 0,.slice none 0 0] 99)).cell? ⟨w.heap.size,0,none⟩=some (.int .i64 n):=(((Below.refl (w.alloc (.cells #[.int .i64 n] 3)).heap.size _).alloc (Nat.le_refl _) _).cell (p:=⟨w.heap.size,0,none⟩) (by simp)).trans (lit_cell _ _ _)
  clear hs h hv hM hML hn1
  go_enter Tryz.func117,Tryz.ntmps117
  go_wp2_with fail
  refine(HSD.out _).mono ?_
  rintro e w1 ⟨rfl,hw1⟩
  rw[hw1]at HY hcb
  clear hw1
  have er0:w1.cell? ⟨w.heap.size+1,0,none⟩=some (.int .i64 0):=HY.out.1.cell 0
  have er1:w1.cell? ⟨w.heap.size+1,1,none⟩=some (.slice none 0 0):=HY.out.1.cell 1
  have ef0:=HY.out.1.frozen 0
  have ef1:=HY.out.1.frozen 1
  go_wp2
  have hst1:=HY.out.1.stored 0 (.int .i64 0)
  have hst2:=hst1.1.stored 1 (.slice none 0 0)
  have hF:Arr ((w1.setCell ⟨w.heap.size+1,0,none⟩ (.int .i64 0)).setCell ⟨w.heap.size+1,1,none⟩ (.slice none 0 0)) (w.heap.size+1) 99 [.int .i64 0,.slice none 0 0]:=hst2.1
  have hb9:=((HY.out.2.grown hst1.2 HY.out.2.size (fun k e=>by cases e;omega)).grown hst2.2 (Nat.le_trans HY.out.2.size hst1.2.size) (fun k e=>by cases e;omega))
  have hld:=run_loadVar_mid (P:=Tryz.prog) _ _ _ 99 _ _ hF.range Tryz.underlying99 rfl i9
  refine⟨rfl,.tuple #[.agg #[.int .i64 0,.slice none 0 0],.int .i64 3],?_,⟨0,none,0,0,by rw[HE.out],fun h=>absurd (HE.out.symm.trans h) (by decide)⟩,hb9⟩
  show((results _ _).run _ _)=_
  simp[results,Tryz.f117,asAddr,hld]
def exLen:Value→Nat
 | .slice _ k _=>k
 |_=>0
theorem Extend_main (n:Nat) (rs:List (List Nat)) (v:Value) (w:World) (hv:RL w v (rs.map ofN)) (hi64:∀m∈rs,∀x∈m,x<1000000000) (hn1:1≤n) (hn8:n≤8) (hM:rs.length≤n):
 Calls Tryz.prog 117 #[.int .i64 n,v] w fun en w'=>ExtR n rs en w'∧Below w.heap.size w w':=by
 have i9:(Tryz.prog.info? 99).map (·.size)=some 2:=by kernel_rfl
 have HSD:=hid (fun w1=>side_any n w1)
 rw[decide_eq_true (show 1≤n∧n≤8 from⟨hn1,hn8⟩)]at HSD
 have hEF:extF n rs=exR n [] rs:=by unfold extF;rw[if_neg (by omega),if_neg (by omega)]
 have HEE:Hid (∀z,exR n [] rs=z→z≠0→extE n rs=z):=hid (fun z h h2=>by
  unfold extE
  rw[hEF,h,if_pos h2])
 have HE0:Hid (exR n [] rs=0→extE n rs=if(exA n (n-rs.length) rs.flatten).isNone then 4 else 0):=hid (fun h=>by
  unfold extE
  rw[hEF,h,if_neg (by decide)])
 have HEC:Hid (extC n rs=((exA n (n-rs.length) rs.flatten).getD [])):=hid rfl
 have hRL:=hv
 obtain⟨a,c,MM,rfl,hML,hMb,hMc⟩:=hv.open
 rw[List.length_map]at hML
 have hMn:MM≤n:=by rw[←hML.out];exact hM
 have HROW:Hid (MM=0∨∃g off,a=some ⟨g,off,none⟩∧g<w.heap.size∧∀i,i<MM→∃u,w.cell? ⟨g,off+i,none⟩=some u∧Sl w u (ofN (rs.getD i []))):=hid (by
  rcases Nat.eq_zero_or_pos MM with h0|h0
  ·exact .inl h0
  ·obtain⟨g,off,e1,e2,e3⟩:=hMc h0
   refine .inr ⟨g,off,e1,e2,fun i hi=> ?_⟩
   obtain⟨u,h1,h2⟩:=e3 i hi
   refine⟨u,h1,?_⟩
   have hi2:i<rs.length:=by rw[hML.out];exact hi
   rw[List.getD_eq_getElem?_getD,List.getElem?_map,List.getElem?_eq_getElem hi2]at h2
   rw[List.getD_eq_getElem?_getD,List.getElem?_eq_getElem hi2]
   exact h2)
 have HDR:Hid (∀i,i<MM→rs.drop i=rs.getD i []::rs.drop (i+1)):=hid (fun i hi=>by
  have hi2:i<rs.length:=by rw[hML.out];exact hi
  rw[List.drop_eq_getElem_cons hi2,List.getD_eq_getElem?_getD,List.getElem?_eq_getElem hi2]
  rfl)
 have HTK:Hid (∀i,i<MM→(rs.take (i+1)).flatten=(rs.take i).flatten++rs.getD i []):=hid (fun i hi=>by
  have hi2:i<rs.length:=by rw[hML.out];exact hi
  rw[List.take_add_one,List.getElem?_eq_getElem hi2,List.flatten_append,List.getD_eq_getElem?_getD,List.getElem?_eq_getElem hi2]
  simp)
 have HTE:Hid ((rs.take MM).flatten=rs.flatten∧rs.drop MM=[]):=hid (by
  rw[←hML.out,List.take_length,List.drop_length]
  exact⟨rfl,rfl⟩)
 have HI64:Hid (∀i,i<MM→∀x∈ofN (rs.getD i []),I64 x):=hid (fun i hi=>by
  have hi2:i<rs.length:=by rw[hML.out];exact hi
  rw[List.getD_eq_getElem?_getD,List.getElem?_eq_getElem hi2]
  exact ofN_I64 (hi64 _ (List.getElem_mem hi2)))
 have HNM:Hid (n-rs.length=n-MM):=hid (by rw[hML.out])
 rw[HNM.out]at HE0 HEC
 have HB1:Hid (∀cs r rr,exR n cs (r::rr)=if r.length≠n then 2 else if r.any (fun c=>decide (n≤c))then 1 else exR n (cs++r) rr):=hid (fun cs r rr=>rfl)
 have HB0:Hid (∀cs,exR n cs []=if xtwB n cs then 6 else 0):=hid (fun cs=>rfl)
 have HOA:=hid (exO_any n)
 have HOL:=hid ofN_len
 have HOPP:Hid (∀l m:List Nat,ofN l++ofN m=ofN (l++m)):=hid (fun l m=>by simp[ofN])
 have HTW:=hid (fun(u:Value) (l:List Nat) (w1:World) h1 h2 h3=>twice_any n u l w1 hn1 hn8 h1 h2 h3)
 have HNX:=hid (fun(R:Nat) (l:List Nat) (a2:Option Addr) (c2:Nat) (w1:World) h1 h2 h3 h4=>lnext_any n hn1 hn8 n R l a2 c2 w1 (Nat.le_refl _) h1 h2 h3 h4)
 have HAS:Hid (∀r l,exA n (r+1) l=match exN n n l with|some m=>exA n r m|none=>none):=hid (fun r l=>rfl)
 have HA0:Hid (∀l,exA n 0 l=some l):=hid (fun l=>rfl)
 have HXL:=hid (fun l m (h:exN n n l=some m)=>exN_len n l m h)
 have HXI:=hid (fun l m hl (h:exN n n l=some m)=>exN_in n l m hl h)
 have hMi:¬(n:Int)<(MM:Int):=by omega
 have hMnat:¬n<MM:=by omega
 have hAR:Arr ((w.alloc (.cells #[.int .i64 n] 3)).alloc (.cells #[.int .i64 0,.slice none 0 0] 99)) (w.heap.size+1) 99 [.int .i64 0,.slice none 0 0]:=by
  have:=Arr.new (w.alloc (.cells #[.int .i64 n] 3)) 99 [.int .i64 0,.slice none 0 0]
  rwa [World.size_alloc]at this
 have hAN:Arr ((w.alloc (.cells #[.int .i64 n] 3)).alloc (.cells #[.int .i64 0,.slice none 0 0] 99)) w.heap.size 3 [.int .i64 n]:=(Arr.new w _ _).alloc _
 have hb0:Below w.heap.size w ((w.alloc (.cells #[.int .i64 n] 3)).alloc (.cells #[.int .i64 0,.slice none 0 0] 99)):=((Below.refl _ _).alloc (Nat.le_refl _) _).alloc (by simp) _
 have HW:=hid (And.intro hAR (And.intro hAN hb0))
 have hcb:((w.alloc (.cells #[.int .i64 n] 3)).alloc (.cells #[.int .i64 0,.slice none 0 0] 99)).cell? ⟨w.heap.size,0,none⟩=some (.int .i64 n):=hAN.cell 0
 have hsz0:w.heap.size+2≤((w.alloc (.cells #[.int .i64 n] 3)).alloc (.cells #[.int .i64 0,.slice none 0 0] 99)).heap.size:=by simp
 clear hAR hAN hb0 hRL hv hM hi64 hEF hMc hML hMb
 go_enter Tryz.func117,Tryz.ntmps117
 go_wp2_with fail
 refine(HSD.out _).mono ?_
 rintro e w1 ⟨rfl,hw1⟩
 rw[hw1]at HW hcb hsz0
 clear hw1 HSD
 go_wp2
 go_loopw [6,24] (fun cv iv wr=>∃i:Nat,i≤MM∧iv= .int .i64 i∧OI (w.heap.size+2) wr cv (ofN (rs.take i).flatten)∧Arr wr (w.heap.size+1) 99 [.int .i64 0,.slice none 0 0]∧Arr wr w.heap.size 3 [.int .i64 n]∧Below w.heap.size w wr∧w.heap.size+2≤wr.heap.size∧Hid (exR n (rs.take i).flatten (rs.drop i)=exR n [] rs)∧Hid (((rs.take i).flatten).length=n*i∧∀x∈(rs.take i).flatten,x<n)) (fun _ iv _=>MM-(intOf iv).toNat)
 case atStart=>exact⟨0,Nat.zero_le _,rfl,by simpa [ofN]using OI.nil _ _,HW.out.1,HW.out.2.1,HW.out.2.2,hsz0,hid (by simp),hid (by simp)⟩
 case round=>
  clear HW hcb hsz0
  obtain⟨i,hi,rfl,hco,hAR,hAN,hbl,hsz,hER,hCL⟩:=hrel
  by_cases hiM:i<MM
  ·have hii:(i:Int)<(MM:Int):=by omega
   obtain⟨g,off,rfl,hgw,hrow⟩:∃g off,a=some ⟨g,off,none⟩∧g<w.heap.size∧∀i,i<MM→∃u,w.cell? ⟨g,off+i,none⟩=some u∧Sl w u (ofN (rs.getD i [])):=by
    rcases HROW.out with h|h
    ·omega
    ·exact h
   obtain⟨u,hu1,hu2⟩:=hrow i hiM
   have c1:=(hbl.cell (p:=⟨g,off+i,none⟩) hgw).trans hu1
   have hu3:=hu2.below hbl
   have HERI:=hid (hER.out)
   have h64:=HI64.out i hiM
   have HTKI:=hid (HTK.out i hiM)
   have HDRI:=hid (HDR.out i hiM)
   rw[HDRI.out,HB1.out]at HERI
   have cn:=hAN.cell 0
   have cn:wr.cell? ⟨w.heap.size,0,none⟩=some (.int .i64 n):=cn
   clear hrow hu1 hu2 HDRI hER
   generalize rs.getD i []=row at*
   obtain⟨ua,uc,RLen,rfl,hRL,hrb,_⟩:=hu3.open
   rw[show(ofN row).length=row.length from HOL.out row]at hRL
   by_cases hrl:RLen=n
   ·have hrl':=hrl.symm
    subst hrl'
    have hbe:((n:Int)==(n:Int))=true:=by simp
    have HCF:=hid (containsFunc_any _ _ _ _ (ofN row) wr hu3 h64 (ext1_tests n w.heap.size wr cn))
    rw[HOA.out]at HCF
    have hERI:=HERI.out
    rw[if_neg (by rw[hRL.out];exact fun h=>h rfl)]at hERI
    cases hany:(row.any fun c=>decide (n≤c))with
    |true=>
     rw[hany]at HCF
     have HE:Hid (extE n rs=1):=hid (HEE.out 1 (by rw[←hERI,hany];rfl) (by decide))
     have HY:=hid (And.intro hAR hbl)
     clear hco hCL hERI HERI hany
     go_wp2_with fail
     refine HCF.out.mono ?_
     rintro e w2 ⟨rfl,rfl⟩
     have er0:wr.cell? ⟨w.heap.size+1,0,none⟩=some (.int .i64 0):=HY.out.1.cell 0
     have er1:wr.cell? ⟨w.heap.size+1,1,none⟩=some (.slice none 0 0):=HY.out.1.cell 1
     have ef0:=HY.out.1.frozen 0
     have ef1:=HY.out.1.frozen 1
     go_wp2
     have hst1:=HY.out.1.stored 0 (.int .i64 0)
     have hst2:=hst1.1.stored 1 (.slice none 0 0)
     have hF:Arr ((wr.setCell ⟨w.heap.size+1,0,none⟩ (.int .i64 0)).setCell ⟨w.heap.size+1,1,none⟩ (.slice none 0 0)) (w.heap.size+1) 99 [.int .i64 0,.slice none 0 0]:=hst2.1
     have hb9:=((HY.out.2.grown hst1.2 HY.out.2.size (fun k e=>by cases e;omega)).grown hst2.2 (Nat.le_trans HY.out.2.size hst1.2.size) (fun k e=>by cases e;omega))
     have hld:=run_loadVar_mid (P:=Tryz.prog) _ _ _ 99 _ _ hF.range Tryz.underlying99 rfl i9
     refine⟨rfl,.tuple #[.agg #[.int .i64 0,.slice none 0 0],.int .i64 1],?_,⟨0,none,0,0,by rw[HE.out],fun h=>absurd (HE.out.symm.trans h) (by decide)⟩,hb9⟩
     show((results _ _).run _ _)=_
     simp[results,Tryz.f117,asAddr,hld]
    |false=>
     rw[hany]at HCF hERI
     rw[if_neg (by decide),←HTKI.out]at hERI
     have HERN:=hid hERI
     have hlt:∀x∈row,x<n:=fun x hx=>by
      refine Classical.byContradiction fun hc=> ?_
      have:=List.any_eq_false.1 hany x hx
      exact this (decide_eq_true (by omega))
     have HCN:Hid (((rs.take (i+1)).flatten).length=n*(i+1)∧∀x∈(rs.take (i+1)).flatten,x<n):=hid (by
      rw[HTKI.out]
      refine⟨by rw[List.length_append,hCL.out.1,hRL.out,Nat.mul_succ],fun x hx=> ?_⟩
      rcases List.mem_append.1 hx with h|h
      ·exact hCL.out.2 x h
      ·exact hlt x h)
     have hlen:((ofN (rs.take i).flatten).map (Value.int .i64)).length+((ofN row).map (Value.int .i64)).length≤1000000000000:=by
      rw[List.length_map,List.length_map,HOL.out,HOL.out,hCL.out.1,hRL.out]
      have:n*i≤8*8:=Nat.mul_le_mul hn8 (by omega)
      omega
     have HZ:=hid (And.intro hAR (And.intro hAN (And.intro hbl hsz)))
     have HCO:=hid hco
     clear hERI HERI hany hlt hAR hAN hbl
     go_wp2_with fail
     refine HCF.out.mono ?_
     rintro e w2 ⟨rfl,rfl⟩
     clear HCF
     go_wp2_with (first|(at_builtin;refine wpList_apps (w:=wr) _ _ 45 3 (.int .i64 0) 8 rfl rfl Tryz.underlying45 Tryz.info3 rfl (by decide) (w.heap.size+2) _ _ _ _ rfl hco rfl hu3 (ints_one _) hlen hsz ?_;intro v4 w4 hown4 hg4 hg5;obtain⟨a4,c4,e4⟩:=Ow.len hown4;obtain⟨L4,hL4⟩:∃L4,((ofN (rs.take i).flatten).map (Value.int .i64)++(ofN row).map (Value.int .i64)).length=L4:=⟨_,rfl⟩;rw[hL4]at e4;subst e4;clear hL4)|fail)
     have hg4:wr.grownBy w4 u6.ownBlock:=hg4
     have ho4:OI (w.heap.size+2) w4 (.slice a4 L4 c4) (ofN (rs.take (i+1)).flatten):=by
      rw[HTKI.out,←HOPP.out]
      exact OI.ofApp hown4
     have hAR4:=HZ.out.1.kept hg4 (fun e=>by have:=(HCO.out.lt _ e.symm).1;omega)
     have hAN4:=HZ.out.2.1.kept hg4 (fun e=>by have:=(HCO.out.lt _ e.symm).1;omega)
     have hb4:=HZ.out.2.2.1.grown hg4 HZ.out.2.2.1.size (fun k e=>by have:=(HCO.out.lt _ e).1;omega)
     have hs4:=Nat.le_trans HZ.out.2.2.2 hg4.size
     have HX:=hid (And.intro ho4 (And.intro hAR4 (And.intro hAN4 (And.intro hb4 hs4))))
     clear hown4 hg4 hg5 ho4 hAR4 hAN4 hb4 hs4 hco
     go_roundw
     case rel=>exact⟨i+1,by omega,by go_num,HX.out.1,HX.out.2.1,HX.out.2.2.1,HX.out.2.2.2.1,HX.out.2.2.2.2,hid HERN.out,hid HCN.out⟩
     case measure=>simp[intOf]<;>omega
   ·have hbe:((RLen:Int)==(n:Int))=false:=by rw[beq_eq_false_iff_ne];omega
    have HE:Hid (extE n rs=2):=hid (HEE.out 2 (by rw[←HERI.out,if_pos (by rw[hRL.out];exact hrl)]) (by decide))
    have HY:=hid (And.intro hAR hbl)
    clear hrl hco hCL
    have er0:wr.cell? ⟨w.heap.size+1,0,none⟩=some (.int .i64 0):=HY.out.1.cell 0
    have er1:wr.cell? ⟨w.heap.size+1,1,none⟩=some (.slice none 0 0):=HY.out.1.cell 1
    have ef0:=HY.out.1.frozen 0
    have ef1:=HY.out.1.frozen 1
    go_wp2
    have hst1:=HY.out.1.stored 0 (.int .i64 0)
    have hst2:=hst1.1.stored 1 (.slice none 0 0)
    have hF:Arr ((wr.setCell ⟨w.heap.size+1,0,none⟩ (.int .i64 0)).setCell ⟨w.heap.size+1,1,none⟩ (.slice none 0 0)) (w.heap.size+1) 99 [.int .i64 0,.slice none 0 0]:=hst2.1
    have hb9:=((HY.out.2.grown hst1.2 HY.out.2.size (fun k e=>by cases e;omega)).grown hst2.2 (Nat.le_trans HY.out.2.size hst1.2.size) (fun k e=>by cases e;omega))
    have hld:=run_loadVar_mid (P:=Tryz.prog) _ _ _ 99 _ _ hF.range Tryz.underlying99 rfl i9
    refine⟨rfl,.tuple #[.agg #[.int .i64 0,.slice none 0 0],.int .i64 2],?_,⟨0,none,0,0,by rw[HE.out],fun h=>absurd (HE.out.symm.trans h) (by decide)⟩,hb9⟩
    show((results _ _).run _ _)=_
    simp[results,Tryz.f117,asAddr,hld]
  ·obtain rfl:i=MM:=by omega
   have hii:¬(i:Int)<(i:Int):=by omega
   have hER2:=hER.out
   rw[HTE.out.1,HTE.out.2,HB0.out]at hER2
   rw[HTE.out.1]at hco hCL
   obtain⟨ca,cc,e6⟩:=hco.len
   rw[HOL.out]at e6
   subst e6
   have hni:n*i≤n*n:=Nat.mul_le_mul_left n hMn
   have hnn64:n*n≤8*8:=Nat.mul_le_mul hn8 hn8
   have hsl:Sl wr (.slice ca rs.flatten.length cc) (ofN rs.flatten):=hco.sl (by rw[HOL.out,hCL.out.1];omega)
   have cn:wr.cell? ⟨w.heap.size,0,none⟩=some (.int .i64 n):=hAN.cell 0
   have HTT:=hid (HTW.out _ rs.flatten wr hsl (fun j hj=>by
    rw[List.getD_eq_getElem?_getD,List.getElem?_eq_getElem hj,Option.getD_some]
    exact hCL.out.2 _ (List.getElem_mem hj)) (by rw[hCL.out.1];exact hni))
   have HZ:=hid (And.intro hAR (And.intro hAN (And.intro hbl (And.intro hsl hco))))
   have HCL:=hid hCL.out
   generalize rs.flatten=flat at*
   obtain⟨FL,hFL⟩:∃FL,flat.length=FL:=⟨_,rfl⟩
   rw[hFL]at HTT HZ
   have HFL:=hid hFL
   clear hco hsl hAR hAN hbl hER hCL hFL HTE HROW HDR HTK HI64
   cases htw:xtwB n flat with
   |true=>
    rw[htw]at HTT hER2
    have HE:Hid (extE n rs=6):=hid (HEE.out 6 hER2.symm (by decide))
    clear htw hER2
    rw[HFL.out]
    go_wp2_with fail
    refine HTT.out.mono ?_
    rintro e w2 ⟨rfl,hb2⟩
    have hAR2:=HZ.out.1.below (hb2.mono (Nat.le_refl _))
    have HY:=hid (And.intro hAR2 (HZ.out.2.2.1.trans (hb2.mono HZ.out.2.2.1.size)))
    clear hb2 hAR2
    have er0:w2.cell? ⟨w.heap.size+1,0,none⟩=some (.int .i64 0):=HY.out.1.cell 0
    have er1:w2.cell? ⟨w.heap.size+1,1,none⟩=some (.slice none 0 0):=HY.out.1.cell 1
    have ef0:=HY.out.1.frozen 0
    have ef1:=HY.out.1.frozen 1
    go_wp2
    have hst1:=HY.out.1.stored 0 (.int .i64 0)
    have hst2:=hst1.1.stored 1 (.slice none 0 0)
    have hF:Arr ((w2.setCell ⟨w.heap.size+1,0,none⟩ (.int .i64 0)).setCell ⟨w.heap.size+1,1,none⟩ (.slice none 0 0)) (w.heap.size+1) 99 [.int .i64 0,.slice none 0 0]:=hst2.1
    have hb9:=((HY.out.2.grown hst1.2 HY.out.2.size (fun k e=>by cases e;omega)).grown hst2.2 (Nat.le_trans HY.out.2.size hst1.2.size) (fun k e=>by cases e;omega))
    have hld:=run_loadVar_mid (P:=Tryz.prog) _ _ _ 99 _ _ hF.range Tryz.underlying99 rfl i9
    refine⟨rfl,.tuple #[.agg #[.int .i64 0,.slice none 0 0],.int .i64 6],?_,⟨0,none,0,0,by rw[HE.out],fun h=>absurd (HE.out.symm.trans h) (by decide)⟩,hb9⟩
    show((results _ _).run _ _)=_
    simp[results,Tryz.f117,asAddr,hld]
   |false=>
    rw[htw]at HTT hER2
    have hE0:=HE0.out hER2.symm
    have HE00:=hid hE0
    clear htw hER2 hE0
    rw[HFL.out]
    go_wp2_with fail
    refine HTT.out.mono ?_
    rintro e w2 ⟨rfl,hb2⟩
    have HX:=hid (And.intro (HZ.out.1.below hb2) (And.intro (HZ.out.2.1.below hb2) (And.intro (HZ.out.2.2.1.trans (hb2.mono HZ.out.2.2.1.size)) (HZ.out.2.2.2.2.below hb2))))
    clear hb2 HTT HZ cn
    go_wp2
    go_loopw [6,9,10] (fun cv _ _ wq=>∃(R:Nat) (cs:List Nat) (pa:Option Addr) (L pc:Nat),R≤n∧cv= .slice pa L pc∧Hid (cs.length=L)∧Hid (L=n*R)∧Hid (∀x∈cs,x<n)∧OI (w.heap.size+2) wq (.slice pa L pc) (ofN cs)∧Arr wq (w.heap.size+1) 99 [.int .i64 0,.slice none 0 0]∧Arr wq w.heap.size 3 [.int .i64 n]∧Below w.heap.size w wq∧Hid (exA n (n-R) cs=exA n (n-i) flat)) (fun cv _ _ _=>n*n-exLen cv)
    case atStart=>exact⟨i,flat,ca,FL,cc,hMn,rfl,hid HFL.out,hid (by rw[←HFL.out];exact HCL.out.1),hid HCL.out.2,HX.out.2.2.2,HX.out.1,HX.out.2.1,HX.out.2.2.1,hid rfl⟩
    case round=>
     clear HX
     obtain⟨R,cs,pa,L,pc,hRn,rfl,HL1,HL2,HLT,hsl,hAR,hAN,hbl,HEA⟩:=hrel
     have cn:wr.cell? ⟨w.heap.size,0,none⟩=some (.int .i64 n):=hAN.cell 0
     have cnd:wr.drew.cell? ⟨w.heap.size,0,none⟩=_:=cn
     have hnn:(n:Int)*(n:Int)=((n*n:Nat):Int):=(Int.natCast_mul _ _).symm
     have hLle:L≤n*n:=by have:=HL2.out;have:=Nat.mul_le_mul_left n hRn;omega
     have hwsz:w.heap.size+2≤wr.heap.size:=by have:=hAR.lt;omega
     by_cases hRl:R<n
     ·have hLlt:L<n*n:=by
       have h1:=HL2.out
       have h2:=Nat.mul_le_mul_left n (show R+1≤n by omega)
       rw[Nat.mul_succ]at h2
       omega
      have HNX1:=hid (HNX.out R cs pa pc wr (by rw[HL1.out,HL2.out];omega) (by
       have h2:=Nat.mul_le_mul_left n (show R+1≤n by omega)
       rw[Nat.mul_succ]at h2
       omega) HLT.out (by rw[HL1.out];exact hsl.sl (by rw[HOL.out,HL1.out];omega)))
      rw[HL1.out,show((n-n:Nat):Int)=0 by omega]at HNX1
      have hEA:=HEA.out
      rw[show n-R=(n-(R+1))+1 by omega,HAS.out]at hEA
      have HZ:=hid (And.intro hAR (And.intro hAN hbl))
      have hLi:(L:Int)<((n*n:Nat):Int):=by omega
      unfold NextR at HNX1
      clear hAR hAN hbl hsl HEA
      cases hx:exN n n cs with
      |none=>
       rw[hx]at hEA HNX1
       have HE:Hid (extE n rs=4):=hid (by
        rw[HE00.out,←hEA]
        rfl)
       clear hx hEA HE00
       generalize n*n=NN at*
       go_wp2_with fail
       refine HNX1.out.mono ?_
       rintro e w3 ⟨⟨pa3,pn3,pc3,rfl,hS⟩,hb3⟩
       have HY:=hid (And.intro (HZ.out.1.below hb3) (HZ.out.2.2.trans (hb3.mono HZ.out.2.2.size)))
       clear hb3 hS
       have er0:w3.cell? ⟨w.heap.size+1,0,none⟩=some (.int .i64 0):=HY.out.1.cell 0
       have er1:w3.cell? ⟨w.heap.size+1,1,none⟩=some (.slice none 0 0):=HY.out.1.cell 1
       have ef0:=HY.out.1.frozen 0
       have ef1:=HY.out.1.frozen 1
       go_wp2
       have hst1:=HY.out.1.stored 0 (.int .i64 0)
       have hst2:=hst1.1.stored 1 (.slice none 0 0)
       have hF:Arr ((w3.setCell ⟨w.heap.size+1,0,none⟩ (.int .i64 0)).setCell ⟨w.heap.size+1,1,none⟩ (.slice none 0 0)) (w.heap.size+1) 99 [.int .i64 0,.slice none 0 0]:=hst2.1
       have hb9:=((HY.out.2.grown hst1.2 HY.out.2.size (fun k e=>by cases e;omega)).grown hst2.2 (Nat.le_trans HY.out.2.size hst1.2.size) (fun k e=>by cases e;omega))
       have hld:=run_loadVar_mid (P:=Tryz.prog) _ _ _ 99 _ _ hF.range Tryz.underlying99 rfl i9
       refine⟨rfl,.tuple #[.agg #[.int .i64 0,.slice none 0 0],.int .i64 4],?_,⟨0,none,0,0,by rw[HE.out],fun h=>absurd (HE.out.symm.trans h) (by decide)⟩,hb9⟩
       show((results _ _).run _ _)=_
       simp[results,Tryz.f117,asAddr,hld]
      |some m=>
       rw[hx]at hEA HNX1
       have HLM:=hid (HXL.out cs m hx)
       have HIM:=hid (HXI.out cs m HLT.out hx)
       have HEM:=hid hEA
       have HNNH:Hid (m.length≤n*n∧L<m.length):=hid (by
        rw[HLM.out,HL1.out]
        have h1:=HL2.out
        have h2:=Nat.mul_le_mul_left n (show R+1≤n by omega)
        rw[Nat.mul_succ]at h2
        omega)
       clear hx hEA
       generalize n*n=NN at*
       go_wp2_with fail
       refine HNX1.out.mono ?_
       rintro e w3 ⟨⟨pa3,pn3,pc3,rfl,hS⟩,hb3⟩
       have hS3:OI (w.heap.size+2) w3 (.slice pa3 pn3 pc3) (ofN m):=by
        rcases(hS m rfl).2 with⟨h0,_⟩|h
        ·omega
        ·exact h.mono hwsz
       obtain⟨pa4,pc4,e4⟩:=hS3.len
       rw[HOL.out]at e4
       simp only[Value.slice.injEq]at e4
       obtain⟨rfl,rfl,rfl⟩:=e4
       have HX:=hid (And.intro hS3 (And.intro (HZ.out.1.below hb3) (And.intro (HZ.out.2.1.below hb3) (HZ.out.2.2.trans (hb3.mono HZ.out.2.2.size)))))
       clear hb3 hS hS3
       have hml:=HNNH.out
       obtain⟨ML,hML⟩:∃ML,m.length=ML:=⟨_,rfl⟩
       rw[hML]at hml HX⊢
       have HML:=hid hML
       clear hML HNNH
       go_wp2
       go_roundw
       case rel=>exact⟨R+1,m,_,ML,_,by omega,rfl,hid HML.out,hid (by rw[←HML.out,HLM.out,HL1.out,HL2.out,Nat.mul_succ]),hid HIM.out,HX.out.1,HX.out.2.1,HX.out.2.2.1,HX.out.2.2.2,hid HEM.out⟩
       case measure=>simp[exLen]<;>omega
     ·obtain rfl:R=n:=by omega
      have hLe:L=R*R:=HL2.out
      have hLi:¬(L:Int)<((R*R:Nat):Int):=by omega
      have hEA:=HEA.out
      rw[Nat.sub_self,HA0.out]at hEA
      have HE:Hid (extE R rs=0):=hid (by rw[HE00.out,←hEA];rfl)
      have HC:Hid (extC R rs=cs):=hid (by rw[HEC.out,←hEA];rfl)
      have er0:wr.cell? ⟨w.heap.size+1,0,none⟩=some (.int .i64 0):=hAR.cell 0
      have er1:wr.cell? ⟨w.heap.size+1,1,none⟩=some (.slice none 0 0):=hAR.cell 1
      have ef0:=hAR.frozen 0
      have ef1:=hAR.frozen 1
      have HY:=hid (And.intro hAR (And.intro hbl hsl))
      clear hEA HEA hAR hAN hbl hsl hLe HL2 HE00
      generalize R*R=NN at*
      go_wp2
      have hst1:=HY.out.1.stored 0 (.int .i64 R)
      have hst2:=hst1.1.stored 1 (.slice pa L pc)
      have hF:Arr ((wr.setCell ⟨w.heap.size+1,0,none⟩ (.int .i64 R)).setCell ⟨w.heap.size+1,1,none⟩ (.slice pa L pc)) (w.heap.size+1) 99 [.int .i64 R,.slice pa L pc]:=hst2.1
      have hb9:=((HY.out.2.1.grown hst1.2 HY.out.2.1.size (fun k e=>by cases e;omega)).grown hst2.2 (Nat.le_trans HY.out.2.1.size hst1.2.size) (fun k e=>by cases e;omega))
      have hld:=run_loadVar_mid (P:=Tryz.prog) _ _ _ 99 _ _ hF.range Tryz.underlying99 rfl i9
      refine⟨rfl,.tuple #[.agg #[.int .i64 R,.slice pa L pc],.int .i64 0],?_,⟨R,pa,L,pc,by rw[HE.out],fun _=>⟨rfl,?_⟩⟩,hb9⟩
      ·show((results _ _).run _ _)=_
       simp[results,Tryz.f117,asAddr,hld]
      ·rw[HC.out]
       have ho9:=(HY.out.2.2.kept hst1.2 (.inr (fun e=>by have:=(HY.out.2.2.lt _ e).1;omega))).kept hst2.2 (.inr (fun e=>by have:=(HY.out.2.2.lt _ e).1;omega))
       exact ho9.sl (by rw[HOL.out,HL1.out];omega)
end Go.Proofs.YtnnaadmegeeinaaGreatDoor
