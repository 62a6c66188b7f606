/-
  Part 37 of a proof: what it proves stands in the last text.
-/
import Derived.Test.YtnnaadmegeeinaaGreatDoorZs
import Derived.Test.YtnnaadmegeeinaaGreatDoorZi
import Derived.Test.YtnnaadmegeeinaaGreatDoorZo
import Derived.Test.YtnnaadmegeeinaaGreatDoorZb
import Derived.Test.YtnnaadmegeeinaaGreatDoorZc
import Derived.Lib.SmallJoins
import Derived.Lib.AtoiErrMem
import Derived.Test.YtnnaadmegeeinaaGreatDoorZac
import Derived.Test.YtnnaadmegeeinaaGreatDoorZai
import Derived.Test.YtnnaadmegeeinaaGreatDoorZh
import Derived.Deep.MidRow
import Derived.Test.YtnnaadmegeeinaaGreatDoorZj
import Derived.Lib.AppendIntMem
set_option linter.unusedVariables false
set_option maxHeartbeats 8000000
set_option maxRecDepth 100000
namespace Go.Proofs.YtnnaadmegeeinaaGreatDoor
open Go.RowKit
def ErrV (v:Value):Prop:=v= .nilIface∨∃te pe,v= .iface te pe
structure LibW (w:World):Prop where
 max:∃m,w.cell? ⟨0,0,none⟩=some (.int .i64 m)
 syn:∃v,w.cell? ⟨4,0,none⟩=some v∧ErrV v
 rng:∃v,w.cell? ⟨5,0,none⟩=some v∧ErrV v
theorem cell_lasts {w w':World} {p:Addr} {v:Value} (hb:Below w.heap.size w w') (h:w.cell? p=some v):w'.cell? p=some v:=(hb.cell (World.block_lt_of_cell? w _ h)).trans h
theorem LibW.below {w w':World} (h:LibW w) (hb:Below w.heap.size w w'):LibW w':=by
 obtain⟨⟨m,h1⟩,⟨v,h2,h3⟩,⟨u,h4,h5⟩⟩:=h
 exact⟨⟨m,cell_lasts hb h1⟩,⟨v,cell_lasts hb h2,h3⟩,⟨u,cell_lasts hb h4,h5⟩⟩
theorem cut_at_w (T:List UInt8) (w:World) (hs:T.length≤1000000000) (hL:LibW w) (c:UInt8):
 Calls Tryz.prog 7 #[.string (str T),.string ⟨#[c]⟩] w fun e w'=>e= .returned (.tuple #[.string (str (Lib.cut T [c]).1),.string (str (Lib.cut T [c]).2.1),.bool (Lib.cut T [c]).2.2])∧Below w.heap.size w w':=by
 obtain⟨m,hm⟩:=hL.max
 refine(cut_laid (str T) ⟨#[c]⟩ m w (by rw[str_size];omega) hm).mono ?_
 rintro e w' ⟨rfl,n,rfl⟩
 exact⟨rfl,below_drewN (Below.refl _ _) n⟩
def spl (c:UInt8) (T:List UInt8):List (List UInt8):=Lib.splitK [c] 0 (Lib.count T [c]) T
theorem spl_B (c:UInt8) (T:List UInt8):Lib.splitB ⟨#[c]⟩ 0 (Lib.countB (str T) ⟨#[c]⟩) (str T)=(spl c T).map str:=by
 refine map_str ?_
 rw[Lib.splitB_data]
 rfl
theorem spl_len (c:UInt8) (T:List UInt8):(spl c T).length=Lib.countB (str T) ⟨#[c]⟩+1:=by
 have h1:=Lib.splitB_all ⟨#[c]⟩ (Nat.le_refl 1) 0 _ (str T) rfl
 rw[spl_B,List.length_map]at h1
 exact h1
theorem spl_le (c:UInt8) (T:List UInt8):(spl c T).length≤T.length+1:=by
 rw[spl_len]
 have h:=Lib.countB_le ⟨#[c]⟩ (Nat.le_refl 1) _ (str T) (Nat.le_refl _)
 rw[str_size]at h
 omega
theorem spl_piece (c:UInt8) (T:List UInt8):∀x∈spl c T,x.length≤T.length:=fun x hx=>by
 have h:=piece_le ⟨#[c]⟩ (Lib.countB (str T) ⟨#[c]⟩) (str T) (str x) (by rw[spl_B];exact List.mem_map_of_mem hx)
 rwa [str_size,str_size]at h
theorem split_w (T:List UInt8) (w:World) (hs:T.length≤1000000000) (hL:LibW w) (c:UInt8):
 Calls Tryz.prog 15 #[.string (str T),.string ⟨#[c]⟩] w fun e w'=>∃g,e= .returned (.slice (some ⟨g,0,none⟩) (spl c T).length (spl c T).length)∧Ow 9 w.heap.size w' (.slice (some ⟨g,0,none⟩) (spl c T).length (spl c T).length) ((spl c T).map fun x=> .string (str x))∧Below w.heap.size w w':=by
 obtain⟨m,hm⟩:=hL.max
 refine(split_laid (str T) ⟨#[c]⟩ m w (by rw[str_size];omega) hm (Nat.le_refl 1)).mono ?_
 rintro e w' ⟨rfl,rfl⟩
 rw[spl_B,←spl_len,List.map_map]
 refine⟨w.heap.size,rfl,?_,(Below.refl _ _).alloc (Nat.le_refl _) _⟩
 exact Ow.lit 9 w.heap.size w _ _ (Nat.le_refl _) (by simp) (by have:=spl_le c T;omega)
theorem atoi_w (T:List UInt8) (w:World) (hs:T.length≤1000000000) (hL:LibW w):
 Calls Tryz.prog 107 #[.string (str T)] w fun e w'=>((∃v,Lib.atoiAll T= .ok v∧e= .returned (.tuple #[.int .i64 v,.nilIface]))∨((∀v,Lib.atoiAll T≠ .ok v)∧∃v q,e= .returned (.tuple #[.int .i64 v,.iface 219 q])))∧Below w.heap.size w w':=by
 have hz:=str_size T
 by_cases hok:∃v,Lib.atoiAll T= .ok v
 ·obtain⟨v,h⟩:=hok
  refine(atoi_ok_laid (str T) (by omega) v h w).mono ?_
  rintro e w' ⟨rfl,h2⟩
  refine⟨.inl ⟨v,h,rfl⟩,?_⟩
  rcases h2 with rfl|⟨t,rfl⟩
  ·exact Below.refl _ _
  ·exact Lib.bytesWorld_below w _ _
 ·obtain⟨ev,hv,hev⟩:=hL.syn
  obtain⟨eu,hu,heu⟩:=hL.rng
  have hno:∀v,Lib.atoiAll T≠ .ok v:=fun v h=>hok ⟨v,h⟩
  refine(atoi_no_laid (str T) (by omega) hno ev eu w hv hev hu heu).mono ?_
  rintro e w' ⟨⟨z,q,rfl⟩,h2⟩
  exact⟨.inr ⟨hno,z,q,rfl⟩,h2⟩
theorem cut_lt {T:List UInt8} (hT:T≠[]) (c:UInt8):(Lib.cut T [c]).1.length≤T.length∧((Lib.cut T [c]).2.2=true→(Lib.cut T [c]).2.1.length<T.length):=by
 have h0:0<T.length:=List.length_pos_iff.2 hT
 unfold Lib.cut
 split
 ·refine⟨?_,fun _=> ?_⟩
  ·simp only[List.length_take];omega
  ·simp only[List.length_drop,List.length_singleton];omega
 ·exact⟨Nat.le_refl _,fun h=>by cases h⟩
theorem insc_nil (a:Option Addr) (c:Nat) (f:Value) (w:World):
 Calls Tryz.prog 312 #[.slice a 0 c,.int .i64 0,.int .i64 0,f] w fun e w'=>e= .returned (.tuple #[])∧w=w':=by
 go_enter Tryz.func312,Tryz.ntmps312
 go_wp2
 go_loopw [8] (fun x wr=>x= .int .i64 1∧wr=w) (fun _ _=>0)
 case atStart=>exact⟨rfl,rfl⟩
 case round=>
  obtain⟨rfl,rfl⟩:=hrel
  go_wp2
  first|go_end0|refine bodyPost_ret (results_none rfl _ _ _) rfl ?_
  exact⟨rfl,rfl⟩
theorem pdqc_nil (a:Option Addr) (c n:Nat) (f:Value) (w:World) (hn:n≤64):
 Calls Tryz.prog 285 #[.slice a 0 c,.int .i64 0,.int .i64 0,.int .i64 n,f] w fun e w'=>e= .returned (.tuple #[])∧w=w':=by
 have HS:=hid (insc_nil a c f w)
 go_enter Tryz.func285,Tryz.ntmps285
 go_wp2
 go_loopw [1,2] (fun x y wr=>x= .int .i64 0∧y= .int .i64 0∧wr=w) (fun _ _ _=>0)
 case atStart=>exact⟨rfl,rfl,rfl⟩
 case round=>
  obtain⟨rfl,rfl,rfl⟩:=hrel
  go_wp2_with fail
  refine HS.out.mono ?_
  rintro e w2 ⟨rfl,rfl⟩
  go_wp2
  first|go_end0|refine bodyPost_ret (results_none rfl _ _ _) rfl ?_
  exact⟨rfl,rfl⟩
theorem sortf_nil (a:Option Addr) (c:Nat) (f:Value) (w:World):
 Calls Tryz.prog 256 #[.slice a 0 c,f] w fun e w'=>e= .returned (.tuple #[])∧w=w':=by
 have HB:=hid (bitsLenQ_any 0 w (by omega))
 have HP:=hid (fun n (hn:n≤64)=>pdqc_nil a c n f w hn)
 rw[show((0:Nat):Int)=0 from rfl]at HB
 go_enter Tryz.func256,Tryz.ntmps256
 go_wp2_with fail
 refine HB.out.mono ?_
 rintro e w1 ⟨⟨n,hn,rfl⟩,rfl⟩
 go_wp2_with fail
 refine(HP.out n hn).mono ?_
 rintro e w2 ⟨rfl,rfl⟩
 go_wp2
 go_end0
 exact⟨rfl,rfl⟩
def fT (t:Nat×Nat×Nat) (i:Nat):Nat:=((blT t).getD i 0).toNat
theorem blT_mem {t:Nat×Nat×Nat} {x:Int} (h:x∈blT t):x=t.1∨x=t.2.1∨x=t.2.2:=by
 unfold blT at h
 rw[List.mem_mergeSort]at h
 simpa using h
theorem elT (t:Nat×Nat×Nat):elL 3 (fT t)=blT t:=by
 have h3:=blT_len t
 refine List.ext_getElem? fun i=> ?_
 by_cases hi:i<3
 ·have hm:=blT_mem (List.getElem_mem (show i<(blT t).length by omega))
  have h0:0≤(blT t)[i]'(by omega):=by omega
  rw[List.getElem?_eq_getElem (show i<(blT t).length by omega),elL,List.getElem?_map,List.getElem?_range hi]
  have e1:(blT t).getD i 0=(blT t)[i]'(by omega):=by rw[List.getD_eq_getElem?_getD,List.getElem?_eq_getElem (show i<(blT t).length by omega),Option.getD_some]
  show some (((((blT t).getD i 0).toNat:Nat)):Int)=_
  rw[e1]
  exact congrArg some (Int.toNat_of_nonneg h0)
 ·rw[List.getElem?_eq_none (by rw[elL_len];omega),List.getElem?_eq_none (by omega)]
theorem elTs (L:List (Nat×Nat×Nat)):(L.map fT).map (elL 3)=L.map blT:=by
 rw[List.map_map]
 exact List.map_congr_left fun t _=>elT t
def SrtF (fs:List (Nat→Nat)):Prop:=fs.Pairwise fun a b=>¬LexF 3 b a
def keyL (l:List Int) (i:Nat):Nat:=(l.getD i 0).toNat
theorem keyL_el (x:Nat→Nat) {i:Nat} (h:i<3):keyL (elL 3 x) i=x i:=by
 unfold keyL elL
 rw[List.getD_eq_getElem?_getD,List.getElem?_map,List.getElem?_range h]
 simp
theorem lex_el (x y:Nat→Nat):LexF 3 (keyL (elL 3 x)) (keyL (elL 3 y))↔LexF 3 x y:=
 (lex_congr (fun i hi=>keyL_el x hi)).1.trans (lex_congr (fun i hi=>keyL_el y hi)).2
theorem srt_one {fs1 fs2:List (Nat→Nat)} (hp:fs1.Perm fs2) (h1:SrtF fs1) (h2:SrtF fs2):fs1.map (elL 3)=fs2.map (elL 3):=by
 refine List.Perm.eq_of_pairwise (le:=fun a b=>¬LexF 3 (keyL b) (keyL a)) ?_ ?_ ?_ (hp.map _)
 ·intro a b ha hb h3 h4
  obtain⟨x,_,rfl⟩:=List.mem_map.1 ha
  obtain⟨y,_,rfl⟩:=List.mem_map.1 hb
  rw[lex_el]at h3 h4
  rcases lex_tot (N:=3) x y with h|h|h
  ·unfold elL
   exact List.map_congr_left fun i hi=>by rw[h i (List.mem_range.1 hi)]
  ·exact absurd h h4
  ·exact absurd h h3
 ·rw[List.pairwise_map]
  exact h1.imp fun h=>by rw[lex_el];exact h
 ·rw[List.pairwise_map]
  exact h2.imp fun h=>by rw[lex_el];exact h
def LOk (L:List (Nat×Nat×Nat)):Prop:=L.length≤1000∧∀t∈L,t.1≤1000∧t.2.1≤1000∧t.2.2≤1000
def TriC (L:List (Nat×Nat×Nat)) (R:List (List Int)):Prop:=((∀m∈R,(∀x∈m,I64 x)∧m.length≤1000)∧R.length≤1000)∧(LOk L→∀fs,fs.Perm (L.map fT)→SrtF fs→fs.map (elL 3)=R)
theorem triC_ex (L:List (Nat×Nat×Nat)):∃R,TriC L R:=by
 by_cases h:LOk L∧∃fs,fs.Perm (L.map fT)∧SrtF fs
 ·obtain⟨hL,fs,h1,h2⟩:=h
  refine⟨fs.map (elL 3),⟨fun m hm=> ?_,?_⟩,fun _ fs' h3 h4=>srt_one (h3.trans h1.symm) h4 h2⟩
  ·obtain⟨x,hx,rfl⟩:=List.mem_map.1 hm
   obtain⟨t,ht,rfl⟩:=List.mem_map.1 (h1.mem_iff.1 hx)
   rw[elT]
   refine⟨fun y hy=> ?_,by rw[blT_len];omega⟩
   have:=hL.2 t ht
   have:=blT_mem hy
   unfold I64
   omega
  ·rw[List.length_map,h1.length_eq,List.length_map]
   exact hL.1
 ·exact⟨[],⟨by simp,by simp⟩,fun hL fs h3 h4=>absurd ⟨hL,fs,h3,h4⟩ h⟩
noncomputable def triL (L:List (Nat×Nat×Nat)):List (List Int):=Classical.choose (triC_ex L)
theorem triL_ok (L:List (Nat×Nat×Nat)):TriC L (triL L):=Classical.choose_spec (triC_ex L)
theorem triL_nil:triL []=[]:=((triL_ok []).2 ⟨by simp,by simp⟩ [] (List.Perm.refl _) List.Pairwise.nil).symm
theorem design_any (W0:World) (b:Nat) (v:Int) (L:List (Nat×Nat×Nat)) (w:World) (hL:LOk L) (hb0:W0.heap.size≤b) (h:TS W0 b v L w):
 Calls Tryz.prog 207 #[.pointer (some ⟨b,0,none⟩)] w fun e w'=>(∃(pa:Option Addr) (pn pc:Nat),e= .returned (.agg #[.int .i64 v,.slice pa pn pc])∧∃U,OL (b+1) U w' (.slice pa pn pc) (triL L))∧Below b W0 w':=by
 obtain⟨a,c,hA,hO,hbl⟩:=h
 have hbw:=hA.lt
 have i9:(Tryz.prog.info? 103).map (·.size)=some 2:=by kernel_rfl
 rcases Nat.eq_zero_or_pos L.length with h0|h0
 ·obtain rfl:=List.eq_nil_of_length_eq_zero h0
  have hAr:=Arr.new w 103 [.int .i64 0,.slice none 0 0]
  have hbr:Below w.heap.size w (w.alloc (.cells #[.int .i64 0,.slice none 0 0] 103)):=(Below.refl _ _).alloc (Nat.le_refl _) _
  have hA1:=hA.below hbr
  have hO1:=hO.below hbr
  have HS:=hid (sortf_nil a c (.func (.func 257) #[] #[]) (w.alloc (.cells #[.int .i64 0,.slice none 0 0] 103)))
  have hcl:=hA1.cell 0
  have HA1:=hid (And.intro hA1 hAr)
  have HO1:=hid hO1
  have HB1:=hid (hbl.alloc (Nat.le_of_lt hbw) (.cells #[.int .i64 0,.slice none 0 0] 103))
  clear hA hO hbl hbr hA1 hO1 hAr
  go_enter Tryz.func207,Tryz.ntmps207
  go_wp2_with fail
  refine HS.out.mono ?_
  rintro e w2 ⟨rfl,hw2⟩
  have hA2:=HA1.out.1
  have hR2:=HA1.out.2
  have hB2:=HB1.out
  have hO2:=HO1.out
  rw[hw2]at hA2 hR2 hB2 hO2
  have hA2:Arr w2 b 194 [.slice a 0 c,.int .i64 v]:=hA2
  have hO2:OL (b+1) w.heap.size w2 (.slice a 0 c) (triL []):=by rw[triL_nil];exact hO2
  clear hw2 hcl HS HA1 HB1 HO1
  have hbr2:w.heap.size<w2.heap.size:=hR2.lt
  have ca0:w2.cell? ⟨b,0,none⟩=some (.slice a 0 c):=hA2.cell 0
  have ca1:w2.cell? ⟨b,1,none⟩=some (.int .i64 v):=hA2.cell 1
  have cr0:w2.cell? ⟨w.heap.size,0,none⟩=some (.int .i64 0):=hR2.cell 0
  have cr1:w2.cell? ⟨w.heap.size,1,none⟩=some (.slice none 0 0):=hR2.cell 1
  have fr0:=hR2.frozen 0
  have fr1:=hR2.frozen 1
  have ca0d:w2.drew.cell? ⟨b,0,none⟩=_:=ca0
  have ca1d:w2.drew.cell? ⟨b,1,none⟩=_:=ca1
  have cr0d:w2.drew.cell? ⟨w.heap.size,0,none⟩=_:=cr0
  have cr1d:w2.drew.cell? ⟨w.heap.size,1,none⟩=_:=cr1
  have fr0d:w2.drew.frozen? ⟨w.heap.size,0,none⟩=_:=fr0
  have fr1d:w2.drew.frozen? ⟨w.heap.size,1,none⟩=_:=fr1
  have HX:=hid (And.intro hR2 (And.intro hO2 hB2))
  clear hA2 hR2 hB2 hO2
  go_wp2
  go_region
  go_wp2
  have hst1:=HX.out.1.stored 0 (.int .i64 v)
  have hst2:=hst1.1.stored 1 (.slice a 0 c)
  have hF:Arr (((w2.setCell ⟨w.heap.size,0,none⟩ (.int .i64 v)).setCell ⟨w.heap.size,1,none⟩ (.slice a 0 c)).drew) w.heap.size 103 [.int .i64 v,.slice a 0 c]:=hst2.1
  have hO9:=((HX.out.2.1.kept hst1.2 (fun k e=>by cases e;exact .inr (Nat.le_refl _))).kept hst2.2 (fun k e=>by cases e;exact .inr (Nat.le_refl _)))
  have hb9:=((HX.out.2.2.grown hst1.2 (by omega) (fun k e=>by cases e;omega)).grown hst2.2 (by have:=hst1.2.size;omega) (fun k e=>by cases e;omega)).drew
  have hld:=run_loadVar_mid (P:=Tryz.prog) _ _ _ 103 _ _ hF.range Tryz.underlying103 rfl i9
  refine⟨rfl,.agg #[.int .i64 v,.slice a 0 c],?_,⟨_,_,_,rfl,_,hO9⟩,hb9⟩
  show((results _ _).run _ _)=_
  simp[results,Tryz.f207,asAddr,hld]
 ·obtain⟨g,c2,e,hg1,hg2⟩:=hO.form (by rw[List.length_map];exact h0)
  rw[List.length_map]at e
  simp only[Value.slice.injEq,true_and]at e
  obtain⟨rfl,rfl⟩:=e
  have hAr:=Arr.new w 103 [.int .i64 0,.slice none 0 0]
  have hbr:Below w.heap.size w (w.alloc (.cells #[.int .i64 0,.slice none 0 0] 103)):=(Below.refl _ _).alloc (Nat.le_refl _) _
  have hA1:=hA.below hbr
  have hO1:=hO.below hbr
  rw[←elTs]at hO1
  have HS:=hid (tsort_ok 3 (L.map fT) (b+1) w.heap.size g c (w.alloc (.cells #[.int .i64 0,.slice none 0 0] 103)) (by decide) (by decide) (by rw[List.length_map];exact h0) (by rw[List.length_map];have:=hL.1;omega) (by rw[List.length_map];exact hO1))
  rw[List.length_map]at HS
  have hcl:=hA1.cell 0
  have HA1:=hid (And.intro hA1 hAr)
  have HB1:=hid (hbl.alloc (Nat.le_of_lt hbw) (.cells #[.int .i64 0,.slice none 0 0] 103))
  clear hA hO hbl hbr hA1 hO1 hAr
  go_enter Tryz.func207,Tryz.ntmps207
  go_wp2_with fail
  refine HS.out.mono ?_
  rintro e w2 ⟨rfl,fs,hp,hsrt,hO2,hgr⟩
  have hne1:some b≠some g:=fun e=>by cases e;omega
  have hne2:some w.heap.size≠some g:=fun e=>by cases e;omega
  have hA2:=HA1.out.1.kept hgr hne1
  have hR2:=HA1.out.2.kept hgr hne2
  have hB2:=HB1.out.grown hgr (by simp;omega) (fun k e=>by cases e;omega)
  have hTR:=((triL_ok L).2 hL fs hp hsrt)
  rw[hTR]at hO2
  clear hgr hp hsrt hTR hcl HS HA1 HB1
  have hbr2:w.heap.size<w2.heap.size:=hR2.lt
  have ca0:w2.cell? ⟨b,0,none⟩=some (.slice (some ⟨g,0,none⟩) L.length c):=hA2.cell 0
  have ca1:w2.cell? ⟨b,1,none⟩=some (.int .i64 v):=hA2.cell 1
  have cr0:w2.cell? ⟨w.heap.size,0,none⟩=some (.int .i64 0):=hR2.cell 0
  have cr1:w2.cell? ⟨w.heap.size,1,none⟩=some (.slice none 0 0):=hR2.cell 1
  have fr0:=hR2.frozen 0
  have fr1:=hR2.frozen 1
  have ca0d:w2.drew.cell? ⟨b,0,none⟩=_:=ca0
  have ca1d:w2.drew.cell? ⟨b,1,none⟩=_:=ca1
  have cr0d:w2.drew.cell? ⟨w.heap.size,0,none⟩=_:=cr0
  have cr1d:w2.drew.cell? ⟨w.heap.size,1,none⟩=_:=cr1
  have fr0d:w2.drew.frozen? ⟨w.heap.size,0,none⟩=_:=fr0
  have fr1d:w2.drew.frozen? ⟨w.heap.size,1,none⟩=_:=fr1
  have HX:=hid (And.intro hR2 (And.intro hO2 hB2))
  clear hA2 hR2 hB2 hO2
  go_wp2
  go_region
  go_wp2
  have hst1:=HX.out.1.stored 0 (.int .i64 v)
  have hst2:=hst1.1.stored 1 (.slice (some ⟨g,0,none⟩) L.length c)
  have hF:Arr (((w2.setCell ⟨w.heap.size,0,none⟩ (.int .i64 v)).setCell ⟨w.heap.size,1,none⟩ (.slice (some ⟨g,0,none⟩) L.length c)).drew) w.heap.size 103 [.int .i64 v,.slice (some ⟨g,0,none⟩) L.length c]:=hst2.1
  have hO9:=((HX.out.2.1.kept hst1.2 (fun k e=>by cases e;exact .inr (Nat.le_refl _))).kept hst2.2 (fun k e=>by cases e;exact .inr (Nat.le_refl _)))
  have hb9:=((HX.out.2.2.grown hst1.2 (by omega) (fun k e=>by cases e;omega)).grown hst2.2 (by have:=hst1.2.size;omega) (fun k e=>by cases e;omega)).drew
  have hld:=run_loadVar_mid (P:=Tryz.prog) _ _ _ 103 _ _ hF.range Tryz.underlying103 rfl i9
  refine⟨rfl,.agg #[.int .i64 v,.slice (some ⟨g,0,none⟩) L.length c],?_,⟨_,_,_,rfl,_,hO9⟩,hb9⟩
  show((results _ _).run _ _)=_
  simp[results,Tryz.f207,asAddr,hld]
def lokB (L:List (Nat×Nat×Nat)):Bool:=decide (L.length≤1000)&&L.all fun t=>decide (t.1≤1000)&&decide (t.2.1≤1000)&&decide (t.2.2≤1000)
theorem lokB_ok {L:List (Nat×Nat×Nat)} (h:lokB L=true):LOk L:=by
 unfold lokB at h
 simp only[Bool.and_eq_true,decide_eq_true_eq,List.all_eq_true]at h
 exact⟨h.1,fun t ht=>⟨(h.2 t ht).1.1,(h.2 t ht).1.2,(h.2 t ht).2⟩⟩
theorem lok_all:∀t,t<6→lokB (boX t (2*t+1) (2*t+1))=true∧lokB (skY t (2*t) (2*t))=true:=by decide+kernel
def triE (v:Nat):Int:=if v<1∨33<v then 1 else if v%6=3∨v%6=1 then 0 else 4
noncomputable def triX (v:Nat):List (List Int):=if v%6=3 then triL (boX (v/6) (2*(v/6)+1) (2*(v/6)+1))else triL (skY (v/6) (2*(v/6)) (2*(v/6)))
def MakeR (v:Nat) (en:Ending) (w':World):Prop:=∃(P:Int) (pa:Option Addr) (pn pc:Nat),en= .returned (.tuple #[.agg #[.int .i64 P,.slice pa pn pc],.int .i64 (triE v)])∧(triE v=0→RL w' (.slice pa pn pc) (triX v))
theorem Make_bad (v:Nat) (w:World) (h:v<1∨33<v):
 Calls Tryz.prog 120 #[.int .i64 v] w fun en w'=>MakeR v en w'∧Below w.heap.size w w':=by
 have hE:triE v=1:=if_pos h
 have i9:(Tryz.prog.info? 103).map (·.size)=some 2:=by kernel_rfl
 have HE:=hid hE
 have hR:=Arr.new w 103 [.int .i64 0,.slice none 0 0]
 have hb0:Below w.heap.size w (w.alloc (.cells #[.int .i64 0,.slice none 0 0] 103)):=(Below.refl _ _).alloc (Nat.le_refl _) _
 have HR:=hid (And.intro hR hb0)
 clear hR hb0 hE
 by_cases h1:v<1
 ·have h1i:(v:Int)<1:=by omega
  clear h
  go_enter Tryz.func120,Tryz.ntmps120
  go_wp2
  have hld:=run_loadVar_mid (P:=Tryz.prog) _ _ _ 103 _ _ HR.out.1.range Tryz.underlying103 rfl i9
  refine⟨rfl,.tuple #[.agg #[.int .i64 0,.slice none 0 0],.int .i64 1],?_,⟨0,none,0,0,by rw[HE.out],fun h=>absurd (HE.out.symm.trans h) (by decide)⟩,HR.out.2⟩
  show((results _ _).run _ _)=_
  simp[results,Tryz.f120,asAddr,hld]
 ·have h1i:¬(v:Int)<1:=by omega
  have h2i:(33:Int)<(v:Int):=by omega
  clear h
  go_enter Tryz.func120,Tryz.ntmps120
  go_wp2
  have hld:=run_loadVar_mid (P:=Tryz.prog) _ _ _ 103 _ _ HR.out.1.range Tryz.underlying103 rfl i9
  refine⟨rfl,.tuple #[.agg #[.int .i64 0,.slice none 0 0],.int .i64 1],?_,⟨0,none,0,0,by rw[HE.out],fun h=>absurd (HE.out.symm.trans h) (by decide)⟩,HR.out.2⟩
  show((results _ _).run _ _)=_
  simp[results,Tryz.f120,asAddr,hld]
theorem Make_none (v:Nat) (w:World) (h1:1≤v) (h2:v≤33) (h3:v%6≠3) (h4:v%6≠1):
 Calls Tryz.prog 120 #[.int .i64 v] w fun en w'=>MakeR v en w'∧Below w.heap.size w w':=by
 have hE:triE v=4:=by unfold triE;rw[if_neg (by omega),if_neg (by omega)]
 have i9:(Tryz.prog.info? 103).map (·.size)=some 2:=by kernel_rfl
 have HE:=hid hE
 have hm:(v:Int).tmod 6=((v%6:Nat):Int):=(Int.ofNat_tmod _ _).symm
 have e3:(((v%6:Nat):Int)==3)=false:=by rw[beq_eq_false_iff_ne];omega
 have e1:(((v%6:Nat):Int)==1)=false:=by rw[beq_eq_false_iff_ne];omega
 have h1i:¬(v:Int)<1:=by omega
 have h2i:¬(33:Int)<(v:Int):=by omega
 clear h3 h4 hE
 generalize v%6=q at*
 go_enter Tryz.func120,Tryz.ntmps120
 have hR:=(Arr.new w 103 [.int .i64 0,.slice none 0 0]).alloc (.cells #[.slice none 0 0,.int .i64 v] 194)
 have hb0:Below w.heap.size w ((w.alloc (.cells #[.int .i64 0,.slice none 0 0] 103)).alloc (.cells #[.slice none 0 0,.int .i64 v] 194)):=((Below.refl _ _).alloc (Nat.le_refl _) _).alloc (by simp) _
 have HR:=hid (And.intro hR hb0)
 clear hR hb0
 go_wp2
 have hld:=run_loadVar_mid (P:=Tryz.prog) _ _ _ 103 _ _ HR.out.1.range Tryz.underlying103 rfl i9
 refine⟨rfl,.tuple #[.agg #[.int .i64 0,.slice none 0 0],.int .i64 4],?_,⟨0,none,0,0,by rw[HE.out],fun h=>absurd (HE.out.symm.trans h) (by decide)⟩,HR.out.2⟩
 show((results _ _).run _ _)=_
 simp[results,Tryz.f120,asAddr,hld]
theorem Make_ok (v:Nat) (w:World) (h1:1≤v) (h2:v≤33) (h3:v%6=3∨v%6=1):
 Calls Tryz.prog 120 #[.int .i64 v] w fun en w'=>MakeR v en w'∧Below w.heap.size w w':=by
 have hE:triE v=0:=by unfold triE;rw[if_neg (by omega),if_pos (by omega)]
 have HE:=hid hE
 have i9:(Tryz.prog.info? 103).map (·.size)=some 2:=by kernel_rfl
 have hm:(v:Int).tmod 6=((v%6:Nat):Int):=(Int.ofNat_tmod _ _).symm
 have hd:(v:Int).tdiv 6=((v/6:Nat):Int):=by rw[Int.tdiv_eq_ediv_of_nonneg (by omega)];rfl
 have ht5:v/6≤5:=by omega
 have hlk:=lok_all (v/6) (by omega)
 have h1i:¬(v:Int)<1:=by omega
 have h2i:¬(33:Int)<(v:Int):=by omega
 have HX:Hid (triX v=if v%6=3 then triL (boX (v/6) (2*(v/6)+1) (2*(v/6)+1))else triL (skY (v/6) (2*(v/6)) (2*(v/6)))):=hid rfl
 obtain⟨W0,hW0⟩:∃W0,w.alloc (.cells #[.int .i64 0,.slice none 0 0] 103)=W0:=⟨_,rfl⟩
 have hWs:W0.heap.size=w.heap.size+1:=by rw[←hW0];simp
 have hAR:Arr W0 w.heap.size 103 [.int .i64 0,.slice none 0 0]:=by rw[←hW0];exact Arr.new w _ _
 have hbW:Below w.heap.size w W0:=by rw[←hW0];exact(Below.refl _ _).alloc (Nat.le_refl _) _
 have hTS:TS W0 (w.heap.size+1) v [] (W0.alloc (.cells #[.slice none 0 0,.int .i64 v] 194)):=by
  rw[←hWs]
  exact⟨none,0,Arr.new W0 _ _,OL.nil _ _ _,(Below.refl _ _).alloc (Nat.le_refl _) _⟩
 have HW:=hid (And.intro hAR (And.intro hbW hWs))
 have HW0:=hid hW0
 rcases h3 with h3|h3
 ·have e3:(((v%6:Nat):Int)==3)=true:=by rw[beq_iff_eq];omega
  have hx:=HX.out
  rw[if_pos h3]at hx
  have hLK:=lokB_ok hlk.1
  have HC:=hid (bose_any W0 (w.heap.size+1) (v/6) v _ ht5 (by omega) hTS)
  clear hTS hW0 hAR hbW hlk h3 HX
  generalize boX (v/6) (2*(v/6)+1) (2*(v/6)+1)=L at*
  have HDS:=hid (fun w1 h=>design_any W0 (w.heap.size+1) v L w1 hLK (by omega) h)
  have HXX:=hid hx
  clear hLK hx
  generalize v%6=q at*
  generalize v/6=t at*
  rw[←HW0.out]at HC
  go_enter Tryz.func120,Tryz.ntmps120
  go_wp2_with fail
  refine HC.out.mono ?_
  rintro e w1 ⟨⟨r,rfl⟩,hts⟩
  rw[HW0.out]at hts
  have HDD:=hid (HDS.out w1 hts)
  clear hts HDS HC HW0
  go_wp2_with fail
  refine HDD.out.mono ?_
  rintro e w2 ⟨⟨pa,pn,pc,rfl,U,hO2⟩,hb2⟩
  have hR2:Arr w2 w.heap.size 103 [.int .i64 0,.slice none 0 0]:=(hb2.block w.heap.size (by omega)).trans HW.out.1
  have cr0:w2.cell? ⟨w.heap.size,0,none⟩=some (.int .i64 0):=hR2.cell 0
  have cr1:w2.cell? ⟨w.heap.size,1,none⟩=some (.slice none 0 0):=hR2.cell 1
  have fr0:=hR2.frozen 0
  have fr1:=hR2.frozen 1
  have hb3:=HW.out.2.1.trans (hb2.mono (by omega))
  have HY:=hid (And.intro hR2 (And.intro hO2 hb3))
  clear hR2 hO2 hb2 hb3 HDD
  go_wp2
  have hst1:=HY.out.1.stored 0 (.int .i64 v)
  have hst2:=hst1.1.stored 1 (.slice pa pn pc)
  have hF:Arr ((w2.setCell ⟨w.heap.size,0,none⟩ (.int .i64 v)).setCell ⟨w.heap.size,1,none⟩ (.slice pa pn pc)) w.heap.size 103 [.int .i64 v,.slice pa pn pc]:=hst2.1
  have hO9:=((HY.out.2.1.kept hst1.2 (fun k e=>by cases e;exact .inl (by omega))).kept hst2.2 (fun k e=>by cases e;exact .inl (by omega)))
  have hb9:=((HY.out.2.2.grown hst1.2 HY.out.2.2.size (fun k e=>by cases e;exact Nat.le_refl _)).grown hst2.2 (Nat.le_trans HY.out.2.2.size hst1.2.size) (fun k e=>by cases e;exact Nat.le_refl _))
  have htb:=(triL_ok L).1
  have hR9:=hO9.rl (by omega) (fun i hi=>by
   rw[List.getD_eq_getElem?_getD,List.getElem?_eq_getElem hi,Option.getD_some]
   have:=(htb.1 _ (List.getElem_mem hi)).2
   omega)
  have hld:=run_loadVar_mid (P:=Tryz.prog) _ _ _ 103 _ _ hF.range Tryz.underlying103 rfl i9
  refine⟨rfl,.tuple #[.agg #[.int .i64 v,.slice pa pn pc],.int .i64 0],?_,⟨v,pa,pn,pc,by rw[HE.out],fun _=>by rw[HXX.out];exact hR9⟩,hb9⟩
  show((results _ _).run _ _)=_
  simp[results,Tryz.f120,asAddr,hld]
 ·have e3:(((v%6:Nat):Int)==3)=false:=by rw[beq_eq_false_iff_ne];omega
  have e1:(((v%6:Nat):Int)==1)=true:=by rw[beq_iff_eq];omega
  have hx:=HX.out
  rw[if_neg (by omega)]at hx
  have hLK:=lokB_ok hlk.2
  have HC:=hid (skolem_any W0 (w.heap.size+1) (v/6) v _ ht5 (by omega) hTS)
  clear hTS hW0 hAR hbW hlk h3 HX
  generalize skY (v/6) (2*(v/6)) (2*(v/6))=L at*
  have HDS:=hid (fun w1 h=>design_any W0 (w.heap.size+1) v L w1 hLK (by omega) h)
  have HXX:=hid hx
  clear hLK hx
  generalize v%6=q at*
  generalize v/6=t at*
  rw[←HW0.out]at HC
  go_enter Tryz.func120,Tryz.ntmps120
  go_wp2_with fail
  refine HC.out.mono ?_
  rintro e w1 ⟨⟨r,rfl⟩,hts⟩
  rw[HW0.out]at hts
  have HDD:=hid (HDS.out w1 hts)
  clear hts HDS HC HW0
  go_wp2_with fail
  refine HDD.out.mono ?_
  rintro e w2 ⟨⟨pa,pn,pc,rfl,U,hO2⟩,hb2⟩
  have hR2:Arr w2 w.heap.size 103 [.int .i64 0,.slice none 0 0]:=(hb2.block w.heap.size (by omega)).trans HW.out.1
  have cr0:w2.cell? ⟨w.heap.size,0,none⟩=some (.int .i64 0):=hR2.cell 0
  have cr1:w2.cell? ⟨w.heap.size,1,none⟩=some (.slice none 0 0):=hR2.cell 1
  have fr0:=hR2.frozen 0
  have fr1:=hR2.frozen 1
  have hb3:=HW.out.2.1.trans (hb2.mono (by omega))
  have HY:=hid (And.intro hR2 (And.intro hO2 hb3))
  clear hR2 hO2 hb2 hb3 HDD
  go_wp2
  have hst1:=HY.out.1.stored 0 (.int .i64 v)
  have hst2:=hst1.1.stored 1 (.slice pa pn pc)
  have hF:Arr ((w2.setCell ⟨w.heap.size,0,none⟩ (.int .i64 v)).setCell ⟨w.heap.size,1,none⟩ (.slice pa pn pc)) w.heap.size 103 [.int .i64 v,.slice pa pn pc]:=hst2.1
  have hO9:=((HY.out.2.1.kept hst1.2 (fun k e=>by cases e;exact .inl (by omega))).kept hst2.2 (fun k e=>by cases e;exact .inl (by omega)))
  have hb9:=((HY.out.2.2.grown hst1.2 HY.out.2.2.size (fun k e=>by cases e;exact Nat.le_refl _)).grown hst2.2 (Nat.le_trans HY.out.2.2.size hst1.2.size) (fun k e=>by cases e;exact Nat.le_refl _))
  have htb:=(triL_ok L).1
  have hR9:=hO9.rl (by omega) (fun i hi=>by
   rw[List.getD_eq_getElem?_getD,List.getElem?_eq_getElem hi,Option.getD_some]
   have:=(htb.1 _ (List.getElem_mem hi)).2
   omega)
  have hld:=run_loadVar_mid (P:=Tryz.prog) _ _ _ 103 _ _ hF.range Tryz.underlying103 rfl i9
  refine⟨rfl,.tuple #[.agg #[.int .i64 v,.slice pa pn pc],.int .i64 0],?_,⟨v,pa,pn,pc,by rw[HE.out],fun _=>by rw[HXX.out];exact hR9⟩,hb9⟩
  show((results _ _).run _ _)=_
  simp[results,Tryz.f120,asAddr,hld]
theorem var_lasts {P:Program} {w w':World} {n:String} {cs:Array Value} (hb:Below w.heap.size w w') (h:w.var? P n=some cs):w'.var? P n=some cs:=by
 unfold World.var? at h⊢
 cases hg:P.globalNamed n with
 |none=>simp[hg]at h
 |some g=>
  simp only[hg,Option.bind_some]at h⊢
  have hlt:g<w.heap.size:=by
   rcases Nat.lt_or_ge g w.heap.size with h'|h'
   ·exact h'
   ·simp[Array.getElem?_eq_none h']at h
  rw[hb.block g hlt]
  exact h
structure RunW (w:World):Prop where
 lib:LibW w
 tab:Lib.TabIs Tryz.prog w "internal/strconv.uint64pow10" .u64 Lib.pow10Tab
 prs:Prs w
theorem RunW.below {w w':World} (h:RunW w) (hb:Below w.heap.size w w'):RunW w':=⟨h.lib.below hb,var_lasts hb h.tab,h.prs.below hb⟩
theorem itoa_w (n:Int) (w:World) (hn:I64 n) (h:RunW w):
 Calls Tryz.prog 99 #[.int .i64 n] w fun e w'=>e= .returned (.string (str (Lib.itoa n)))∧Below w.heap.size w w':=
 (itoa_any_laid n hn.1 hn.2 w h.tab).mono fun e w' ⟨h1,k,os,h2⟩=>⟨h1,by subst h2;exact Lib.below_grow _ _ (Nat.le_refl _) k os⟩
end Go.Proofs.YtnnaadmegeeinaaGreatDoor
