/-
  Part 33 of a proof: what it proves stands in the last text.
-/
import Derived.Test.YtnnaadmegeeinaaGreatDoorZae
import Derived.Test.YtnnaadmegeeinaaGreatDoorZl
import Derived.Test.YtnnaadmegeeinaaGreatDoorZu
import Derived.Test.YtnnaadmegeeinaaGreatDoorZk
import Derived.Test.YtnnaadmegeeinaaGreatDoorZb
import Derived.Test.YtnnaadmegeeinaaGreatDoorZo
set_option linter.unusedVariables false
set_option maxHeartbeats 8000000
set_option maxRecDepth 100000
namespace Go.Proofs.YtnnaadmegeeinaaGreatDoor
open Go.RowKit Go.Maps
def RM (w:World) (v:Value) (l:List (Nat→Nat)):Prop:=∃a c,v= .slice a l.length c∧(0<l.length→∃b,a=some ⟨b,0,none⟩∧b<w.heap.size∧∀i,i<l.length→w.rangeAt b (i*7) (mvC (l.getD i id)))
theorem OM.rm {B:Nat} {w:World} {v:Value} {l:List (Nat→Nat)} (h:OM B w v l):RM w v l:=by
 obtain⟨a,c,rfl⟩:=h.len
 refine⟨a,c,rfl,fun hp=> ?_⟩
 obtain⟨g,c',e,_,hg⟩:=h.form hp
 obtain⟨rfl,rfl⟩:a=some ⟨g,0,none⟩∧c=c':=by simpa using e
 exact⟨g,rfl,hg,fun i hi=>h.range hi⟩
theorem OM.lit1 (B:Nat) (w:World) (x:Nat→Nat) (hb:B≤w.heap.size):OM B (w.alloc (.cells (mvC x).toArray 179)) (.slice (some ⟨w.heap.size,0,none⟩) 1 1) [x]:=by
 have:=World.ownsRow_lit (base:=B) (e:=179) (size:=7) w (mvC x).toArray 1 hb (by unfold maxLen;omega) (by rw[mvC_arr])
 unfold OM
 simpa [flM]using this
theorem mvC_lit (x:Nat→Nat):(mvC x).toArray= #[.int .i64 ((x 0:Nat):Int),.int .i64 ((x 1:Nat):Int),.int .i64 ((x 2:Nat):Int),.int .i64 ((x 3:Nat):Int),.int .i64 ((x 4:Nat):Int),.int .i64 ((x 5:Nat):Int),.int .i64 ((x 6:Nat):Int)]:=rfl
theorem made_ok (n:Nat) (v:Value) (ms:List (Nat→Nat)) (w:World) (hn:n≤7) (hv:RM w v ms) (hm:∀m∈ms,Mv n m) (hml:ms.length≤1000000):
 Calls Tryz.prog 194 #[v] w fun e w'=>(∃r,e= .returned r∧OM w.heap.size w' r (GL n ms))∧Below w.heap.size w w':=by
 have HST:=hid (fun w1=>gstay_ok w1)
 have HBI:=hid (BI.start hm)
 obtain⟨va,vc,rfl,hv2⟩:=hv
 have HV:=hid hv2
 clear hv2
 go_enter Tryz.func194,Tryz.ntmps194
 go_wp2_with fail
 refine(HST.out _).mono ?_
 rintro e w1 ⟨rfl,hb1⟩
 have B1:=hid hb1
 have hs1:=hb1.size
 clear hb1
 unfold mvV
 have hmm:= @run_makeMap Tryz.prog
 have ho1:=OM.lit1 w.heap.size w1 id hs1
 have ho2:OM w.heap.size ((w1.alloc (.cells (mvC id).toArray 179)).alloc (.map #[] 0)) (.slice (some ⟨w1.heap.size,0,none⟩) 1 1) [id]:=ho1.below ((Below.refl _ _).alloc (Nat.le_refl _) _)
 have hr2:=ho2.range (i:=0) (by simp)
 have hk2:=KM.new (κ:=List Int) 179 kF (w1.alloc (.cells (mvC id).toArray 179))
 have hb2:=(B1.out.alloc hs1 (.cells (mvC id).toArray 179)).alloc (by simp;omega) (.map #[] 0)
 rw[World.size_alloc]at hk2
 have HK2:=hid hk2
 have HO2:=hid ho2
 have HB2:=hid hb2
 have i1:(Tryz.prog.info? 179).map (·.size)=some (mvC id).length:=by rw[mvC_len];exact mv_info
 have hkey:=moveKey (x:=id) (fun i hi=>hi)
 rw[mvV_kF]at hkey
 clear ho1 ho2 hk2 hb2
 rw[mvC_lit id]
 go_wp2_with (first
  |(refine wpList_load_mid rfl 179 _ rfl w1.heap.size 0 rfl (mvC id) _ hr2 Tryz.underlying179 rfl i1 ?_;clear hr2)
  |(refine wpList_kmins rfl _ _ _ 224 rfl 179 moveLaw kF_inj Tryz.underlying224 rfl HK2.out (by unfold maxLen;omega) (mvI id) 0 (mvV_kF id) rfl hkey (by decide) ?_;intro w2 hk3 hg3)
  |fail)
 have hKS:∀y,y∈ins (mvI id) ([]:List (List Int))↔∃x∈[(id:Nat→Nat)],mvI x=y:=fun y=>by
  rw[mem_ins]
  simp[eq_comm]
 have HI:=hid (And.intro (HO2.out.kept hg3 (.inr (by simp[Value.ownBlock]))) (And.intro hk3 (And.intro hKS (HB2.out.grown hg3 (by simp;omega) (fun b e=>by cases e;omega)))))
 obtain⟨MB,hMB⟩:∃MB,w1.heap.size+1=MB:=⟨_,rfl⟩
 have hne:w1.heap.size≠MB:=by omega
 have hMBw:w.heap.size≤MB:=by omega
 rw[hMB]at HI⊢
 clear hk3 hg3 hKS HK2 HO2 HB2 hmm hkey hMB
 generalize w1.heap.size=OB at*
 go_loopw [3,5,7,8,9,10] (fun v3 v5 _ _ _ _ wr=>∃(l:List (Nat→Nat)) (i N:Nat) (S:List (List Int)),v5= .int .i64 i∧Hid (BI n ms l i 0)∧OM w.heap.size wr v3 l∧(∀k,v3.ownBlock=some k→k≠MB)∧N≤l.length∧KM 179 kF wr MB N S∧Hid (∀y,y∈S↔∃x∈l,mvI x=y)∧Below w.heap.size w wr) (fun _ v5 _ _ _ _ _=>fac n+1-(intOf v5).toNat)
 case atStart=>exact⟨[id],0,1,_,rfl,HBI.out,HI.out.1,fun k hk=>by simp[Value.ownBlock]at hk;omega,Nat.le_refl _,HI.out.2.1,HI.out.2.2.1,HI.out.2.2.2⟩
 case round=>
  clear HI HBI
  obtain⟨l,i,N,S,rfl,HB,ho,hob,hNl,hk,HS,hB⟩:=hrel
  obtain⟨la,lc,rfl⟩:=ho.len
  have hlen:=HB.out.len
  have hil:=HB.out.il
  by_cases hlt:i<l.length
  ·have hii:(i:Int)<((l.length:Nat):Int):=by omega
   have HI:=hid (And.intro ho (And.intro hob (And.intro hNl (And.intro hk (And.intro HS.out hB)))))
   clear ho hob hNl hk HS hB
   go_wp2_with fail
   go_loopw [3,7,8,9,10,26] (fun v3 _ _ _ _ v26 wr=>∃(l:List (Nat→Nat)) (j N:Nat) (S:List (List Int)),v26= .int .i64 j∧j≤ms.length∧i<l.length∧Hid (BI n ms l i j)∧OM w.heap.size wr v3 l∧(∀k,v3.ownBlock=some k→k≠MB)∧N≤l.length∧KM 179 kF wr MB N S∧Hid (∀y,y∈S↔∃x∈l,mvI x=y)∧Below w.heap.size w wr) (fun _ _ _ _ _ v26 _=>ms.length-(intOf v26).toNat)
   case atStart=>exact⟨l,0,N,S,rfl,Nat.zero_le _,hlt,HB.out,HI.out.1,HI.out.2.1,HI.out.2.2.1,HI.out.2.2.2.1,HI.out.2.2.2.2.1,HI.out.2.2.2.2.2⟩
   case round=>
    clear HI HB hlen hil hii hlt
    obtain⟨l,j,N,S,rfl,hj,hil,HB,ho,hob,hNl,hk,HS,hB⟩:=hrel
    obtain⟨la,lc,rfl⟩:=ho.len
    by_cases hjl:j<ms.length
    ·have hji:(j:Int)<((ms.length:Nat):Int):=by omega
     obtain⟨b,rfl,hb,hrm⟩:=HV.out (by omega)
     obtain⟨m,hmj⟩:∃m,ms.getD j id=m:=⟨_,rfl⟩
     have hrm:=hrm j hjl
     rw[hmj]at hrm
     have HMJ:=hid hmj
     clear hmj
     have hr1:wr.rangeAt b (j*7) (mvC m):=fun q u hq=>(hB.cell (p:=⟨b,j*7+q,none⟩) hb).trans (hrm q u hq)
     have i2:(Tryz.prog.info? 179).map (·.size)=some (mvC m).length:=by rw[mvC_len];exact mv_info
     have hA1:Arr (wr.alloc (.cells #[.int .i64 0,.int .i64 0,.int .i64 0,.int .i64 0,.int .i64 0,.int .i64 0,.int .i64 0] 179)) wr.heap.size 179 (mvC fun _=>0):=Arr.new wr _ _
     have HA1:=hid hA1
     have HI:=hid (And.intro ho (And.intro hob (And.intro hNl (And.intro hk (And.intro HS.out hB)))))
     clear ho hob hNl hk HS hB hA1 hrm
     go_wp2_with (first
      |(refine wpList_load_mid rfl 179 _ rfl b (j*7) rfl (mvC m) _ hr1 Tryz.underlying179 rfl i2 ?_;clear hr1)
      |(refine wpList_store_arr rfl 179 _ _ rfl wr.heap.size (mvC m) rfl rfl HA1.out (by rw[mvC_len,mvC_len]) i2 (mvC_one _) ?_
        intro w5 hA5 hg5)
      |fail)
     obtain⟨og,oc,eo,_,hog⟩:=HI.out.1.form (by omega)
     obtain⟨rfl,rfl⟩:la=some ⟨og,0,none⟩∧lc=oc:=by simpa using eo
     have hBa:Below wr.heap.size wr w5:=((Below.refl _ _).alloc (Nat.le_refl _) _).grown hg5 (by simp) (fun b e=>by cases e;exact Nat.le_refl _)
     have hPx:=HB.out.mvI' hil
     have hPm:=HB.out.mvM hjl
     rw[HMJ.out]at hPm
     obtain⟨x,hxi⟩:∃x,l.getD i id=x:=⟨_,rfl⟩
     rw[hxi]at hPx
     have HXI:=hid hxi
     have HO5:=hid (HI.out.1.below hBa)
     have hrx:=HO5.out.range hil
     rw[hxi]at hrx
     have hrm5:=hA5.range
     have ix:(Tryz.prog.info? 179).map (·.size)=some (mvC x).length:=by rw[mvC_len];exact mv_info
     have hun:=Tryz.underlying179
     have HT:=hid (fun W=>gthen_ok x m W (hPx.lt7 hn) (hPm.lt7 hn))
     have hiI:(i:Int)<((l.length:Nat):Int):=by omega
     have hog5:og<w5.heap.size:=Nat.lt_of_lt_of_le hog hBa.size
     have hwr5:wr.heap.size<w5.heap.size:=hA5.lt
     have HRX:=hid (fun w' (hb:Below w5.heap.size w5 w')=>(fun q u hq=>(hb.cell (p:=⟨og,i*7+q,none⟩) hog5).trans (hrx q u hq):w'.rangeAt og (i*7) (mvC x)))
     have HRM:=hid (fun w' (hb:Below w5.heap.size w5 w')=>(fun q u hq=>(hb.cell (p:=⟨wr.heap.size,0+q,none⟩) hwr5).trans (hrm5 q u hq):w'.rangeAt wr.heap.size 0 (mvC m)))
     unfold mvV at HT
     clear hxi eo hrx hrm5
     refine region_dagL [30,31,32,33,34,35,8] [fun v _=>v= .slice (some ⟨og,0,none⟩) l.length lc,fun v _=>v= .int .i64 (i:Int),fun v _=>v= .pointer (some ⟨og,i*7,none⟩),fun v _=>v= .agg (mvC x).toArray,fun v _=>v= .agg (mvC m).toArray,fun v _=>v= .agg (mvC (fun i=>m (x i))).toArray,
      fun v w'=>∃b,v= .pointer (some ⟨b,0,none⟩)∧w5.heap.size≤b∧Arr w' b 179 (mvC fun _=>0)] (by kernel_rfl) (by kernel_rfl) rfl rfl
      ⟨Kp_eq _,Kp_eq _,Kp_eq _,Kp_eq _,Kp_eq _,Kp_eq _,fun v w1 w2 ⟨b,h1,h2,h3⟩ _ hb=>⟨b,h1,h2,h3.below hb⟩,trivial⟩
      ⟨fun a w K hb hf hd hK=>dag_move _ rfl (hK _ _ (hf 3 rfl) (Below.refl _ _)),fun a w K hb hf hd hK=>dag_move _ rfl (hK _ _ (hf 5 rfl) (Below.refl _ _)),?_,?_,?_,?_,?_,trivial⟩ ?_
     ·intro a w' K hb hf hd hK
      have h0:a.tmps[30]?.getD undef= .slice (some ⟨og,0,none⟩) l.length lc:=ev_tmp (hd 0 (by decide) (by kernel_rfl))
      have h1:a.tmps[31]?.getD undef= .int .i64 (i:Int):=ev_tmp (hd 1 (by decide) (by kernel_rfl))
      refine dag_val _ ?_ (hK _ _ rfl (Below.refl _ _))
      clear hK hf hd
      go_simp
     ·intro a w' K hb hf hd hK
      have h2:a.eval (.tmp 32)=_:=hd 2 (by decide) (by kernel_rfl)
      exact wp_load_mid 179 _ rfl og (i*7) h2 (mvC x) _ (HRX.out w' hb) hun rfl ix (hK _ _ rfl (Below.refl _ _))
     ·intro a w' K hb hf hd hK
      exact wp_load_mid 179 _ rfl wr.heap.size 0 (hf 7 rfl) (mvC m) _ (HRM.out w' hb) hun rfl i2 (hK _ _ rfl (Below.refl _ _))
     ·intro a w' K hb hf hd hK
      have h3:a.eval (.tmp 33)=_:=hd 3 (by decide) (by kernel_rfl)
      have h4:a.eval (.tmp 34)=_:=hd 4 (by decide) (by kernel_rfl)
      refine dag_call _ _ _ #[_,_] rfl (by rw[List.map_toArray,List.map_cons,List.map_cons,List.map_nil,h3,h4]) _ Tryz.func246 (by kernel_rfl) (by kernel_rfl) ?_
      refine(HT.out _).mono ?_
      rintro e w2 ⟨rfl,hb2⟩
      exact⟨_,rfl,hK _ _ rfl hb2⟩
     ·intro a w' K hb hf hd hK
      refine ?_
      go_simp
      exact hK _ _ ⟨_,rfl,hb.size,Arr.new _ _ _⟩ ((Below.refl _ _).alloc (Nat.le_refl _) _)
     ·rintro vals w6 ⟨h0,h1,h2,h3,h4,h5,⟨b8,h6,hb8,hA8⟩,_⟩ hb6
      simp only[Nat.reduceAdd]at h0 h1 h2 h3 h4 h5 h6
      simp only[putAll,Act.put,List.setIfInBounds_toArray,List.set_cons_zero,List.set_cons_succ,List.drop_succ_cons,List.drop_zero,List.length_cons,List.length_nil,Nat.reduceAdd]
      rw[h0,h1,h2,h3,h4,h5,h6]
      obtain⟨z,hz⟩:∃z,compF x m=z:=⟨_,rfl⟩
      have hzl:∀i,i<7→z i<7:=by rw[←hz];exact(comp_mv hPx hPm).lt7 hn
      have hPz:Mv n z:=by rw[←hz];exact comp_mv hPx hPm
      rw[show(fun i=>m (x i))=z from hz]
      have HZ:Hid (compF (l.getD i id) (ms.getD j id)=z):=hid (by rw[HXI.out,HMJ.out,hz])
      have hkey:=moveKey hzl
      rw[mvV_kF]at hkey
      have iz:(Tryz.prog.info? 179).map (·.size)=some (mvC z).length:=by rw[mvC_len];exact mv_info
      have hB6:Below wr.heap.size wr w6:=hBa.trans (hb6.mono hBa.size)
      have hMBr:MB<wr.heap.size:=HI.out.2.2.2.1.lt
      have hb8r:wr.heap.size≤b8:=Nat.le_trans hBa.size hb8
      have hwrs:=HI.out.2.2.2.2.2.size
      have hlenl:=HB.out.len
      have hfb:=(fac_bd n (by omega)).2
      have H6:=hid (And.intro hA8 (And.intro hB6 (And.intro (HI.out.1.below hB6) (And.intro (HI.out.2.2.2.1.below hB6) (HI.out.2.2.2.2.2.trans (hB6.mono hwrs))))))
      clear hA8 hb6 h0 h1 h2 h3 h4 h5 h6 hB6 hBa hz
      by_cases hin:mvI z∈S
      ·have hmem:z∈l:=by
        obtain⟨y,hy,he⟩:=(HI.out.2.2.2.2.1 _).1 hin
        rwa [←mvI_inj hn ((HB.out.gen y hy).mv hm) hPz he]
       have HN:=hid (HB.out.there (by rw[HZ.out];exact hmem))
       go_wp2_with (first
        |(refine wpList_store_arr rfl 179 _ _ rfl b8 (mvC z) rfl rfl H6.out.1 (by rw[mvC_len,mvC_len]) iz (mvC_one _) ?_
          intro w7 hA7 hg7
          have H7:=hid (And.intro (H6.out.2.2.1.kept hg7 (.inr (by simp[Value.ownBlock];omega))) (And.intro (H6.out.2.2.2.1.kept hg7 (by simp;omega)) (H6.out.2.2.2.2.grown hg7 H6.out.2.2.2.2.size (fun b e=>by cases e;omega))))
          have r7:=hA7.range
          clear hA7 hg7)
        |(refine wpList_load_mid rfl 179 _ rfl b8 0 rfl (mvC z) _ r7 Tryz.underlying179 rfl iz ?_)
        |(refine wpList_kmok rfl _ _ 224 rfl 179 moveLaw Tryz.underlying224 rfl H7.out.2.1 (mvI z) (mvV_kF z) hkey ?_
          intro c zb hzb
          obtain rfl:zb=true:=hzb.2 hin
          clear hzb)
        |fail)
       go_roundw
       case rel=>exact⟨l,j+1,N,S,by go_num,by omega,hil,HN.out,H7.out.1,HI.out.2.1,HI.out.2.2.1,H7.out.2.1,hid HI.out.2.2.2.2.1,H7.out.2.2⟩
       case measure=>simp[intOf]<;>omega
      ·have hmem:¬z∈l:=fun h=>hin ((HI.out.2.2.2.2.1 _).2 ⟨z,h,rfl⟩)
       have HN:=hid (HB.out.add hil hjl (by rw[HZ.out];exact hmem))
       rw[HZ.out]at HN
       have hwf:(Lit.int .i64 ((l.length:Nat):Int)).wf=true:=WalkArith.wf_i64 (by omega)
       have hNm:N<maxLen:=by have:=HI.out.2.2.1;unfold maxLen;omega
       have hl9:l.length≤1000000000:=by omega
       have hww:w.heap.size≤wr.heap.size:=hwrs
       have hog2:MB≠og:=fun e=>HI.out.2.1 og (by simp[Value.ownBlock]) e.symm
       have hzlit:=mvC_lit z
       go_wp2_with (first
        |(refine wpList_store_arr rfl 179 _ _ rfl b8 (mvC z) rfl rfl H6.out.1 (by rw[mvC_len,mvC_len]) iz (mvC_one _) ?_
          intro w7 hA7 hg7
          have H7:=hid (And.intro hA7 (And.intro (H6.out.2.2.1.kept hg7 (.inr (by simp[Value.ownBlock];omega))) (And.intro (H6.out.2.2.2.1.kept hg7 (by simp;omega)) (And.intro (H6.out.2.2.2.2.grown hg7 H6.out.2.2.2.2.size (fun b e=>by cases e;omega)) (Nat.le_trans H6.out.2.1.size hg7.size)))))
          have r7:=hA7.range
          clear hA7 hg7)
        |(refine wpList_load_mid rfl 179 _ rfl b8 0 rfl (mvC z) _ r7 Tryz.underlying179 rfl iz ?_)
        |(refine wpList_kmok rfl _ _ 224 rfl 179 moveLaw Tryz.underlying224 rfl H7.out.2.2.1 (mvI z) (mvV_kF z) hkey ?_
          intro c zb hzb
          obtain rfl:zb=false:=by
           cases zb with
           |false=>rfl
           |true=>exact absurd (hzb.1 rfl) hin
          clear hzb)
        |(refine wpList_km rfl _ _ _ 224 rfl 179 kF moveLaw kF_inj Tryz.underlying224 MB N S rfl H7.out.2.2.1 hNm (mvI z) ((l.length:Nat):Int) (mvV_kF z) rfl hkey hwf ?_
          intro w8 hk8 hg8
          have H8:=hid (And.intro (H7.out.2.1.kept hg8 (.inr (by simp[Value.ownBlock];omega))) (And.intro hk8 (And.intro (H7.out.2.2.2.1.grown hg8 H7.out.2.2.2.1.size (fun b e=>by cases e;omega)) (Nat.le_trans H7.out.2.2.2.2 hg8.size))))
          have r8:=(H7.out.1.kept hg8 (by simp;omega)).range
          clear hk8 hg8 r7)
        |(refine wpList_load_mid rfl 179 _ rfl b8 0 rfl (mvC z) _ r8 Tryz.underlying179 rfl iz ?_;rw[hzlit])
        |(refine wpList_appm z w8 _ _ 136 rfl rfl Tryz.underlying136 Tryz.info179 w.heap.size (.slice (some ⟨og,0,none⟩) l.length lc) l rfl H8.out.1 rfl hl9 H8.out.2.2.1.size (Arr.new w8 179 (mvC z)).range ((Below.refl _ _).alloc (Nat.le_refl _) _) ?_
          intro g c w9 hO9 hg9 hgo hgl)
        |fail)
       go_roundw
       case rel=>
        refine⟨l++[z],j+1,N+1,ins (mvI z) S,by go_num,by omega,by simp;omega,HN.out,hO9,fun k hk=> ?_,by simp;exact HI.out.2.2.1,H8.out.2.1.kept hg9 (by simp[Value.ownBlock];exact hog2),hid fun y=> ?_,H8.out.2.2.1.grown hg9 H8.out.2.2.1.size (fun b e=>(HI.out.1.lt b e).1)⟩
        ·obtain rfl:g=k:=by simpa [Value.ownBlock]using hk
         rcases hgo with h|h
         ·exact HI.out.2.1 g h
         ·have:=H8.out.2.2.2
          omega
        ·rw[mem_ins,HI.out.2.2.2.2.1]
         constructor
         ·rintro(rfl|⟨u,hu,rfl⟩)
          ·exact⟨z,by simp,rfl⟩
          ·exact⟨u,by simp[hu],rfl⟩
         ·rintro⟨u,hu,rfl⟩
          rcases List.mem_append.1 hu with h|h
          ·exact .inr ⟨u,h,rfl⟩
          ·rw[List.mem_singleton.1 h];exact .inl rfl
       case measure=>simp[intOf]<;>omega
    ·obtain hje:j=ms.length:=by omega
     have hji:¬(j:Int)<((ms.length:Nat):Int):=by omega
     have HN:=hid ((show BI n ms l i ms.length by rw[←hje];exact HB.out).next hil)
     have HI:=hid (And.intro ho (And.intro hob (And.intro hNl (And.intro hk (And.intro HS.out hB)))))
     have hlen:=HB.out.len
     have hfb:=(fac_bd n (by omega)).2
     clear ho hob hNl hk HS hB hje
     go_wp2
     go_roundw
     case rel=>exact⟨l,i+1,N,S,by go_num,HN.out,HI.out.1,HI.out.2.1,HI.out.2.2.1,HI.out.2.2.2.1,HI.out.2.2.2.2.1,HI.out.2.2.2.2.2⟩
     case measure=>simp[intOf]<;>omega
  ·obtain rfl:i=l.length:=by omega
   have hii:¬((l.length:Nat):Int)<((l.length:Nat):Int):=by omega
   obtain⟨og,oc,eo,_,hog⟩:=ho.form (by omega)
   obtain⟨rfl,rfl⟩:la=some ⟨og,0,none⟩∧lc=oc:=by simpa using eo
   have hfb:=(fac_bd n (by omega)).2
   have HG:=hid (gsort_ok l w.heap.size og lc wr ho (by omega))
   have HLT:=hid (fun k hk=>(ho.lt k hk).1)
   have HBW:=hid hB
   clear ho hob hNl hk HS hB eo
   go_wp2_with fail
   refine HG.out.mono ?_
   rintro e w2 ⟨rfl,l',hperm,hpw,ho2,hg2⟩
   have hfin:l'=GL n ms:=by
    have hmem:∀x,x∈l'↔GenF ms x:=fun x=>(hperm.mem_iff).trans (HB.out.done x)
    refine GL_uniq hm hmem ?_
    have hnd:l'.Nodup:=hperm.nodup_iff.2 HB.out.nd
    refine List.Pairwise.imp_of_mem ?_ (List.pairwise_and_iff.2 ⟨hpw,hnd⟩)
    rintro a b ha hb ⟨h1,h2⟩
    have Pa:=((hmem a).1 ha).mv hm
    have Pb:=((hmem b).1 hb).mv hm
    have h1:¬cfF b a<0:=by omega
    rw[cf_rank hn Pb Pa]at h1
    rcases Nat.lt_or_ge (rkF n a) (rkF n b)with h|h
    ·exact h
    ·exact absurd (rk_inj Pa Pb (by omega)) h2
   have HF:=hid hfin
   have hlen2:l.length=l'.length:=hperm.length_eq.symm
   have HO2:=hid ho2
   have HB2:=hid (HBW.out.grown hg2 HBW.out.size (fun b e=>HLT.out b (by simpa [Value.ownBlock]using e)))
   clear hpw hfin ho2 hg2 hperm hlen2
   go_wp2
   go_ret
   exact⟨⟨_,rfl,by rw[←HF.out];exact HO2.out⟩,HB2.out⟩
end Go.Proofs.YtnnaadmegeeinaaGreatDoor
namespace Go.Proofs.YtnnaadmegeeinaaGreatDoor
open Go.RowKit
theorem infoStrC:(Tryz.prog.info? 9).map (fun i=>(i.zero,i.size,i.bytes))=some (some (.string ByteArray.empty),1,16):=by kernel_rfl
theorem Cycles_bad (v:Value) (l:List Int) (w:World) (hl:Sl w v l) (hE:permE l≠0):
 Calls Tryz.prog 40 #[v] w fun e w'=>e= .returned (.tuple #[.string (str []),.int .i64 (permE l)])∧Below w.heap.size w w':=by
 have H1:=hid (check_any v l w hl)
 obtain⟨a,c,N,rfl,hN,hl1,hl2⟩:=hl.open
 have hb:(permE l !=0)=true:=bne_iff_ne.2 hE
 clear hE hl hl2
 generalize permE l=E at*
 go_enter Tryz.func40,Tryz.ntmps40
 go_wp2_with fail
 refine H1.out.mono ?_
 rintro e w1 ⟨rfl,hb1⟩
 have HB:=hid hb1
 clear hb1
 go_wp2
 go_ret2
 exact⟨rfl,HB.out⟩
def bdT (L:List (List Nat)) (k:Nat):List UInt8:=bodyT ((L.take k).filter fun c=>decide (2≤c.length))
theorem bdT_succ {L:List (List Nat)} {k:Nat} (h:k<L.length):bdT L (k+1)=bdT L k++if 2≤(L.getD k []).length then cycT (L.getD k [])else[]:=by
 unfold bdT
 rw[List.take_add_one,List.filter_append,List.getD_eq_getElem?_getD,List.getElem?_eq_getElem h]
 simp only[Option.toList_some,Option.getD_some]
 by_cases h2:2≤(L[k]).length
 ·rw[if_pos h2,List.filter_cons_of_pos (by simpa using h2),List.filter_nil,bodyT_snoc]
 ·rw[if_neg h2,List.filter_cons_of_neg (by simpa using h2),List.filter_nil,List.append_nil]
  simp
theorem bdT_len {L:List (List Nat)} (h:∀i,i<L.length→∀x∈L.getD i [],x<12) (h2:∀i,i<L.length→(L.getD i []).length≤12):∀i,i≤L.length→(bdT L i).length≤100*i
 |0,_=>by simp[bdT,bodyT]
 |i+1,hi=>by
  have h1:=bdT_len h h2 i (by omega)
  have h3:=in_len (c:=L.getD i []) fun x hx=>by have:=h i (by omega) x hx;omega
  have h4:=h2 i (by omega)
  rw[bdT_succ (by omega),List.length_append]
  by_cases h5:2≤(L.getD i []).length
  ·rw[if_pos h5]
   unfold cycT
   simp only[List.length_cons,List.length_append,List.length_nil]
   omega
  ·rw[if_neg h5]
   simp only[List.length_nil]
   omega
theorem Cycles_ok (v:Value) (l:List Int) (N:Nat) (f:Nat→Nat) (w:World) (hl:Sl w v l) (P:PmL l N f) (hE:permE l=0):
 Calls Tryz.prog 40 #[v] w fun e w'=>e= .returned (.tuple #[.string (str (wrT f N)),.int .i64 0])∧Below w.heap.size w w':=by
 have H1:=hid (check_any v l w hl)
 rw[hE]at H1
 have HC:=hid (fun w1 (hb:Below w.heap.size w w1)=>cycles_ok v l N f w1 (hl.below hb) P)
 obtain⟨a,c,M,rfl,hN,hl1,hl2⟩:=hl.open
 have h12:=P.n12
 have HIN:Hid (∀i,i<(cycL f N N).length→∀x∈(cycL f N N).getD i [],x<12):=hid (fun i hi x hx=>by
  rw[List.getD_eq_getElem?_getD,List.getElem?_eq_getElem hi,Option.getD_some]at hx
  have hm:=List.getElem_mem hi
  unfold cycL at hm
  obtain⟨j,hj,e⟩:=List.mem_map.1 hm
  unfold cycL at hx
  rw[←e]at hx
  have:=P.pm.orb_lt (List.mem_range.1 (List.mem_filter.1 hj).1) x hx
  omega)
 have HLN:Hid (∀i,i<(cycL f N N).length→((cycL f N N).getD i []).length≤12):=hid (fun i hi=>by
  rw[List.getD_eq_getElem?_getD,List.getElem?_eq_getElem hi,Option.getD_some]
  have hm:=List.getElem_mem hi
  unfold cycL at hm⊢
  obtain⟨j,hj,e⟩:=List.mem_map.1 hm
  rw[←e,orb_len]
  have:=(P.pm.per_spec (List.mem_range.1 (List.mem_filter.1 hj).1)).2.2.1
  omega)
 have HLL:Hid ((cycL f N N).length≤12):=hid (by
  unfold cycL
  rw[List.length_map]
  have:=List.length_filter_le (leadB f N) (List.range N)
  simp at this
  omega)
 have HW:Hid (wrT f N=if bdT (cycL f N N) (cycL f N N).length=[]then[40,41]else bdT (cycL f N N) (cycL f N N).length):=hid (by
  unfold wrT allT longs bdT
  rw[List.take_length])
 have HBS:=hid (fun k h=>bdT_succ (L:=cycL f N N) (k:=k) h)
 have HB0:Hid (bdT (cycL f N N) 0=[]):=hid rfl
 have HBL:=hid (bdT_len HIN.out HLN.out)
 have HML:Hid (((cycL f N N).map intsL).length=(cycL f N N).length):=hid (List.length_map _)
 have HMG:Hid (∀i,i<(cycL f N N).length→((cycL f N N).map intsL).getD i []=intsL ((cycL f N N).getD i [])):=hid (fun i hi=>by simp[hi])
 clear hE hl hl2 P
 generalize wrT f N=WT at*
 generalize cycL f N N=L at*
 obtain⟨Z,hZ⟩:∃Z,L.length=Z:=⟨_,rfl⟩
 rw[hZ]at HW HIN HLN HLL HML HMG HBL
 simp only[hZ]at HBS
 clear hZ
 have HJS:=hid join_snoc
 have hz12:=HLL.out
 generalize bdT L=BT at*
 go_enter Tryz.func40,Tryz.ntmps40
 go_wp2_with fail
 refine H1.out.mono ?_
 rintro e w1 ⟨rfl,hb1⟩
 have HBB:=hid hb1
 clear hb1
 go_wp2_with fail
 refine(HC.out _ HBB.out).mono ?_
 rintro e w2 ⟨⟨u,rfl,hu⟩,hb2⟩
 obtain⟨ua,uc,eu⟩:=hu.len
 rw[HML.out]at eu
 subst eu
 have H2:=hid (And.intro hu (HBB.out.trans (hb2.mono HBB.out.size)))
 have hus:=HBB.out.size
 clear hu hb2
 go_wp2_with fail
 go_loopw [5,7,8,10,19] (fun v5 _ _ _ v19 wr=>∃i:Nat,v19= .int .i64 i∧i≤Z∧v5= .string (str (BT i))∧Below w2.heap.size w2 wr) (fun _ _ _ _ v19 _=>Z-(intOf v19).toNat)
 case atStart=>exact⟨0,rfl,Nat.zero_le _,by rw[HB0.out];rfl,Below.refl _ _⟩
 case round=>
  obtain⟨i,rfl,hi,rfl,hb⟩:=hrel
  by_cases hil:i<Z
  ·have hii:(i:Int)<(Z:Int):=by omega
   have hu:=H2.out.1.below hb
   obtain⟨gu,cu,eu,_,_⟩:=hu.form (by rw[HML.out];omega)
   rw[HML.out]at eu
   obtain⟨rfl,rfl⟩:ua=some ⟨gu,0,none⟩∧uc=cu:=by simpa using eu
   obtain⟨q,hq1,hq2⟩:=hu.get i (by rw[HML.out];exact hil)
   rw[HMG.out i hil]at hq2
   have hln:=HLN.out i hil
   have hin:=HIN.out i hil
   have hbs:=HBS.out i hil
   obtain⟨C,hC⟩:∃C,L.getD i []=C:=⟨_,rfl⟩
   rw[hC]at hq2 hln hin hbs
   clear hC hu eu
   obtain⟨qa,qc,eq⟩:=hq2.len
   rw[intsL_len]at eq
   subst eq
   obtain⟨CN,hCN⟩:∃CN,C.length=CN:=⟨_,rfl⟩
   have HI:=hid (And.intro hq2 hb)
   have HIC:=hid hin
   have HCN:=hid hCN
   clear hq2 hb hin
   rw[hCN]at hq1 hln hbs
   by_cases h2:2≤CN
   ·have h2i:¬(CN:Int)<2:=by omega
    rw[if_pos h2]at hbs
    have HBN:=hid hbs
    clear hbs hCN
    obtain⟨W0,hW0⟩:∃W0,W0=wr:=⟨_,rfl⟩
    subst hW0
    go_wp2_with fail
    go_loopw [8,10,28] (fun v8 _ v28 wr=>∃t:Nat,v28= .int .i64 t∧t≤CN∧(∃xs:List Value,Hid (xs=(C.take t).map fun x=>Value.string (str (Lib.decDigits x)))∧Hid (xs.length=t)∧Ow 9 W0.heap.size wr v8 xs)∧Below W0.heap.size W0 wr) (fun _ _ v28 _=>CN-(intOf v28).toNat)
    case atStart=>exact⟨0,rfl,Nat.zero_le _,⟨[],hid rfl,hid rfl,Ow.nil _ _ _⟩,Below.refl _ _⟩
    case round=>
     obtain⟨t,rfl,ht,⟨xs,HXS,HXL,how⟩,hb⟩:=hrel
     by_cases htl:t<CN
     ·have hti:(t:Int)<(CN:Int):=by omega
      have hgt:C.getD t 0∈C:=by
       rw[List.getD_eq_getElem?_getD,List.getElem?_eq_getElem (by rw[HCN.out];exact htl)]
       exact List.getElem_mem _
      have hx12:=HIC.out _ hgt
      have hq:=HI.out.1.below hb
      obtain⟨gq,cq,eq,_,_⟩:=hq.form (by rw[intsL_len,HCN.out];omega)
      rw[intsL_len,HCN.out]at eq
      obtain⟨rfl,rfl⟩:qa=some ⟨gq,0,none⟩∧qc=cq:=by simpa using eq
      have hcx:=hq.cell t (by rw[intsL_len,HCN.out];exact htl)
      rw[show(intsL C).getD t 0=((C.getD t 0:Nat):Int)by simp[intsL,HCN.out,htl]]at hcx
      have HTK:Hid (C.take (t+1)=C.take t++[C.getD t 0]):=hid (by
       rw[List.take_add_one,List.getD_eq_getElem?_getD,List.getElem?_eq_getElem (by rw[HCN.out];exact htl)]
       rfl)
      have hlen:xs.length≤1000000000000:=by rw[HXL.out];omega
      have hsz:=hb.size
      have HX:=hid (And.intro how hb)
      clear how hb hq eq hgt
      generalize C.getD t 0=x at*
      go_wp2_with fail
      refine(itoa_laid x (by omega) wr).mono ?_
      rintro e w6 ⟨rfl,rfl⟩
      go_wp2_with (at_builtin;refine wpList_app w6 _ _ 37 9 (.string ByteArray.empty) 16 rfl rfl Tryz.underlying37 infoStrC rfl (by decide) W0.heap.size _ _ rfl HX.out.1 rfl rfl hlen hsz ?_;intro g9 c9 w9 hown1 hg1 hg2 hg3)
      have hb9:Below W0.heap.size w6 w9:=(Below.refl _ _).grown hg1 hsz (fun b e=>(HX.out.1.lt b e).1)
      have HO9:=hid (And.intro hown1 (HX.out.2.trans hb9))
      clear hown1 hg1 hg2 hg3 hb9
      go_roundw
      case rel=>
       refine⟨t+1,by go_num,by omega,⟨xs++[.string (str (Lib.decDigits x))],hid ?_,hid ?_,HO9.out.1⟩,HO9.out.2⟩
       ·rw[HTK.out,List.map_append,HXS.out];rfl
       ·rw[List.length_append,HXL.out];rfl
      case measure=>simp[intOf]<;>omega
     ·obtain rfl:t=CN:=by omega
      have hti:¬(t:Int)<(t:Int):=by omega
      obtain⟨gw,cw,ew,_,hgw⟩:=how.form (by rw[HXL.out];omega)
      rw[HXL.out]at ew
      subst ew
      have HXC:Hid (∀(j:Nat) x,(C.map fun x=>str (Lib.decDigits x))[j]? =some x→wr.cell? ⟨gw,0+j,none⟩=some (.string x)):=hid (fun j x hj=>by
       have hjl:j<C.length:=by
        have:=(List.getElem?_eq_some_iff.1 hj).1
        simpa using this
       rw[Nat.zero_add,how.cell j (by rw[HXL.out,←HCN.out];exact hjl),HXS.out,List.take_of_length_le (by rw[HCN.out];exact Nat.le_refl _)]
       rw[List.getElem?_map]at hj⊢
       obtain⟨y,hy,rfl⟩:=Option.map_eq_some_iff.1 hj
       rw[hy]
       rfl)
      have hcap:=how.cap.1
      have HJ:Hid (Lib.join ((C.map fun x=>str (Lib.decDigits x)).map (·.data.toList)) (str [32]).data.toList=inT C):=hid (by
       unfold inT
       rw[List.map_map]
       rfl)
      have hil32:=in_len (c:=C) fun x hx=>by have:=HIC.out x hx;omega
      have HJL:=hid (join_laid gw 0 cw (C.map fun x=>str (Lib.decDigits x)) (str [32]) wr HXC.out hgw (by rw[List.length_map,HCN.out];omega) (by rw[List.length_map,HCN.out];exact hcap) (by rw[HJ.out];rw[HCN.out]at hil32;omega))
      rw[List.length_map,HCN.out,HJ.out]at HJL
      have HB:=hid hb
      rw[HCN.out]at hil32
      have hbt:(str (BT i)).size≤1200:=by
       have:=HBL.out i hi
       rw[str_size]
       omega
      have HCY:Hid (str (BT i)++((⟨#[40]⟩:ByteArray)++⟨(inT C).toArray⟩++⟨#[41]⟩)=str (BT (i+1))):=hid (by
       rw[HBN.out]
       unfold cycT
       rw[←str_app]
       have e1:((⟨#[40]⟩:ByteArray)++⟨(inT C).toArray⟩++⟨#[41]⟩)=(str [40]++str (inT C))++str [41]:=rfl
       rw[e1,str_app,str_app]
       rfl)
      clear how hb HXC HJ
      go_wp2_with fail
      refine HJL.out.mono ?_
      rintro e w6 ⟨rfl,hb6⟩
      have HB6:=hid (HB.out.trans (hb6.mono HB.out.size))
      clear hb6
      go_wp2
      go_roundw
      case rel=>exact⟨i+1,by go_num,by omega,by rw[HCY.out],HI.out.2.trans (HB6.out.mono HI.out.2.size)⟩
      case measure=>simp[intOf]<;>omega
   ·have h2i:(CN:Int)<2:=by omega
    rw[if_neg h2,List.append_nil]at hbs
    have HBN:=hid hbs
    clear hbs hCN
    go_wp2
    go_roundw
    case rel=>exact⟨i+1,by go_num,by omega,by rw[HBN.out],HI.out.2⟩
    case measure=>simp[intOf]<;>omega
  ·obtain rfl:i=Z:=by omega
   have hii:¬(i:Int)<(i:Int):=by omega
   have HB2:=hid (H2.out.2.trans (hb.mono H2.out.2.size))
   clear hb
   by_cases h0:BT i=[]
   ·rw[h0,if_pos rfl]at HW
    rw[h0,show str []=(⟨#[]⟩:ByteArray)from rfl]
    go_wp2
    go_ret2
    exact⟨by rw[HW.out];rfl,HB2.out⟩
   ·rw[if_neg h0]at HW
    have hne:(str (BT i)).toList.isEmpty=false:=by rw[str_empty];cases h:BT i with|nil=>exact absurd h h0|cons _ _=>rfl
    generalize BT i=bt at*
    go_wp2
    go_ret2
    exact⟨by rw[HW.out];rfl,HB2.out⟩
end Go.Proofs.YtnnaadmegeeinaaGreatDoor
