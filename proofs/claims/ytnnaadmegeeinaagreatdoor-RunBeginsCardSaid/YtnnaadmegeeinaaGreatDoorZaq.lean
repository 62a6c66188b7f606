/-
  Part 43 of a proof: what it proves stands in the last text.
-/
import Derived.Test.YtnnaadmegeeinaaGreatDoorZao
import Derived.Test.YtnnaadmegeeinaaGreatDoorZj
set_option linter.unusedVariables false
set_option maxHeartbeats 8000000
set_option maxRecDepth 100000
namespace Go.Proofs.YtnnaadmegeeinaaGreatDoor
open Go.RowKit
def PkLst (E:Nat→Nat→Int) (Lo:Nat→Nat→List Int):Prop:=∀(a0 a1:Nat) (w1:World),RunW w1→a0<1000000000→a1<1000000000→Calls Tryz.prog 102 #[.int .i64 a0,.int .i64 a1] w1 fun e w'=>∃(P K:Int) (pa:Option Addr) (pn pc:Nat),e= .returned (.tuple #[.agg #[.int .i64 P,.int .i64 K,.slice pa pn pc],.int .i64 (E a0 a1)])∧(0≤E a0 a1∧E a0 a1≤6)∧(E a0 a1=0→P=a0∧K=a1∧OI w1.heap.size w' (.slice pa pn pc) (Lo a0 a1)∧(∀x∈Lo a0 a1,I64 x)∧(Lo a0 a1).length≤10000)∧Below w1.heap.size w1 w'
def LE (E:Nat→Nat→Int) (Lo:Nat→Nat→List Int) (s0 s1:List UInt8) (w:World) (e:Ending) (w':World):Prop:=
 ((∃(a0 a1:Nat) (pa:Option Addr) (pn pc:Nat),numP s0=some a0∧numP s1=some a1∧E a0 a1=0∧e= .returned (.agg #[.int .i64 a0,.int .i64 a1,.slice pa pn pc])∧Sl w' (.slice pa pn pc) (Lo a0 a1)∧(∀x∈Lo a0 a1,I64 x)∧(Lo a0 a1).length≤10000)∨
 (numP s0=none∧e=badE badT)∨(numP s1=none∧e=badE badT)∨(∃a0 a1:Nat,numP s0=some a0∧numP s1=some a1∧E a0 a1≠0∧e=badE (errT (E a0 a1))))∧Below w.heap.size w w'
theorem fld_one3 (p k:Int) (a:Option Addr) (n c:Nat):(#[Value.int .i64 p,Value.int .i64 k,Value.slice a n c]:Array Value).all (·.oneCell')=true:=by simp[Value.oneCell']
theorem least_any (E:Nat→Nat→Int) (Lo:Nat→Nat→List Int) (HP0:PkLst E Lo) (ts:List (List UInt8)) (hts:2≤ts.length) (v:Value) (w:World) (hW:RunW w) (hv:SS w v ts) (hl:∀t∈ts,t.length≤10000):
 Calls Tryz.prog 28 #[v] w (LE E Lo (ts.getD 0 []) (ts.getD 1 []) w):=by
 have HP:=hid HP0
 have hW0:=hid hW
 obtain⟨g,o,c,rfl,hg,hc⟩:=hv
 have hb0:Below w.heap.size w (w.alloc (.cells #[.int .i64 0,.int .i64 0,.slice none 0 0] 60)):=(Below.refl _ _).alloc (Nat.le_refl _) _
 have HW0:=hid (fun(w1:World) (hb:Below (w.alloc (.cells #[.int .i64 0,.int .i64 0,.slice none 0 0] 60)).heap.size (w.alloc (.cells #[.int .i64 0,.int .i64 0,.slice none 0 0] 60)) w1)=>hb0.trans (hb.mono hb0.size))
 have HWW:=hid (fun(w1:World) (hb:Below (w.alloc (.cells #[.int .i64 0,.int .i64 0,.slice none 0 0] 60)).heap.size (w.alloc (.cells #[.int .i64 0,.int .i64 0,.slice none 0 0] 60)) w1)=>hW.below (hb0.trans (hb.mono hb0.size)))
 have hA0:Arr (w.alloc (.cells #[.int .i64 0,.int .i64 0,.slice none 0 0] 60)) w.heap.size 60 [.int .i64 0,.int .i64 0,.slice none 0 0]:=Arr.new w _ _
 have HA0:=hid hA0
 have i3:(Tryz.prog.info? 60).map (·.size)=some 3:=by kernel_rfl
 have HC0:Hid (∀w1:World,Below (w.alloc (.cells #[.int .i64 0,.int .i64 0,.slice none 0 0] 60)).heap.size (w.alloc (.cells #[.int .i64 0,.int .i64 0,.slice none 0 0] 60)) w1→w1.cell? ⟨g,o,none⟩=some (.string (str (ts.getD 0 [])))):=hid (fun w1 hb=>((hb0.trans (hb.mono hb0.size)).cell (p:=⟨g,o+0,none⟩) hg).trans (hc 0 (by omega)))
 have HN0:=hid (fun(w1:World) (hb:Below (w.alloc (.cells #[.int .i64 0,.int .i64 0,.slice none 0 0] 60)).heap.size (w.alloc (.cells #[.int .i64 0,.int .i64 0,.slice none 0 0] 60)) w1)=>number_any (ts.getD 0 []) w1 (getD_len hl 0) (hW.below (hb0.trans (hb.mono hb0.size))))
 have HC1:Hid (∀w1:World,Below (w.alloc (.cells #[.int .i64 0,.int .i64 0,.slice none 0 0] 60)).heap.size (w.alloc (.cells #[.int .i64 0,.int .i64 0,.slice none 0 0] 60)) w1→w1.cell? ⟨g,o+1,none⟩=some (.string (str (ts.getD 1 [])))):=hid (fun w1 hb=>((hb0.trans (hb.mono hb0.size)).cell (p:=⟨g,o+1,none⟩) hg).trans (hc 1 (by omega)))
 have HN1:=hid (fun(w1:World) (hb:Below (w.alloc (.cells #[.int .i64 0,.int .i64 0,.slice none 0 0] 60)).heap.size (w.alloc (.cells #[.int .i64 0,.int .i64 0,.slice none 0 0] 60)) w1)=>number_any (ts.getD 1 []) w1 (getD_len hl 1) (hW.below (hb0.trans (hb.mono hb0.size))))
 have hm0:(0:Nat)<ts.length:=by omega
 have hm1:(1:Int)<(ts.length:Int):=by omega
 have hsz:w.heap.size<(w.alloc (.cells #[.int .i64 0,.int .i64 0,.slice none 0 0] 60)).heap.size:=by simp
 generalize ts.length=m at*
 generalize ts.getD 0 []=s0 at*
 generalize ts.getD 1 []=s1 at*
 clear hc hl hW hb0 hA0
 go_enter Tryz.func28,Tryz.ntmps28
 go_wp2
 generalize w.alloc (.cells #[.int .i64 0,.int .i64 0,.slice none 0 0] 60)=wa at*
 refine region_dagPL [7,8,9,10,11,12,13,14] [fun v _=>v= .slice (some ⟨g,o,none⟩) m c,fun v _=>v= .pointer (some ⟨g,o,none⟩),fun v _=>v= .string (str s0),fun v _=>∃n:Nat,numP s0=some n∧v= .int .i64 n,fun v _=>v= .slice (some ⟨g,o,none⟩) m c,fun v _=>v= .pointer (some ⟨g,o+1,none⟩),fun v _=>v= .string (str s1),fun v _=>∃n:Nat,numP s1=some n∧v= .int .i64 n] (by kernel_rfl) (by kernel_rfl) rfl rfl ⟨Kp_eq _,Kp_eq _,Kp_eq _,fun v w1 w2 h _ hb=>h,Kp_eq _,Kp_eq _,Kp_eq _,fun v w1 w2 h _ hb=>h,trivial⟩ ⟨?_,?_,?_,?_,?_,?_,?_,?_,trivial⟩ ?_
 ·intro a w' K hb hf hdf hd hK
  exact dag_move _ rfl (hK _ _ (hf 0 rfl) (Below.refl _ _))
 ·intro a w' K hb hf hdf hd hK
  have h3:a.tmps[7]?.getD undef= .slice (some ⟨g,o,none⟩) m c:=ev_tmp (hd 0 (by decide) (by kernel_rfl))
  clear hf hd hdf
  refine ?_
  go_simp
  exact hK _ _ rfl (Below.refl _ _)
 ·intro a w' K hb hf hdf hd hK
  have h3:a.tmps[8]?.getD undef= .pointer (some ⟨g,o,none⟩):=ev_tmp (hd 1 (by decide) (by kernel_rfl))
  have hcl:=HC0.out w' hb
  clear hf hd hdf
  refine ?_
  go_simp
  exact hK _ _ rfl (Below.refl _ _)
 ·intro a w' K hb hf hdf hd hK
  have h3:a.eval (.tmp 9)=_:=hd 2 (by decide) (by kernel_rfl)
  refine dag_callp _ _ _ #[_] rfl (by rw[List.map_toArray,List.map_cons,List.map_nil,h3]) _ Tryz.func33 (by kernel_rfl) (by kernel_rfl) ?_
  refine(HN0.out w' hb).mono ?_
  rintro e w2 ⟨h,hb2⟩
  rcases h with⟨x,hn,rfl⟩|⟨hn,rfl⟩
  ·exact .inl ⟨_,rfl,hK _ _ ⟨x,hn,rfl⟩ hb2⟩
  ·exact .inr ⟨_,rfl,hdf,⟨.inr (.inl ⟨hn,rfl⟩),HW0.out w2 (hb.trans (hb2.mono hb.size))⟩⟩
 ·intro a w' K hb hf hdf hd hK
  exact dag_move _ rfl (hK _ _ (hf 0 rfl) (Below.refl _ _))
 ·intro a w' K hb hf hdf hd hK
  have h3:a.tmps[11]?.getD undef= .slice (some ⟨g,o,none⟩) m c:=ev_tmp (hd 4 (by decide) (by kernel_rfl))
  clear hf hd hdf
  refine ?_
  go_simp
  exact hK _ _ rfl (Below.refl _ _)
 ·intro a w' K hb hf hdf hd hK
  have h3:a.tmps[12]?.getD undef= .pointer (some ⟨g,o+1,none⟩):=ev_tmp (hd 5 (by decide) (by kernel_rfl))
  have hcl:=HC1.out w' hb
  clear hf hd hdf
  refine ?_
  go_simp
  exact hK _ _ rfl (Below.refl _ _)
 ·intro a w' K hb hf hdf hd hK
  have h3:a.eval (.tmp 13)=_:=hd 6 (by decide) (by kernel_rfl)
  refine dag_callp _ _ _ #[_] rfl (by rw[List.map_toArray,List.map_cons,List.map_nil,h3]) _ Tryz.func33 (by kernel_rfl) (by kernel_rfl) ?_
  refine(HN1.out w' hb).mono ?_
  rintro e w2 ⟨h,hb2⟩
  rcases h with⟨x,hn,rfl⟩|⟨hn,rfl⟩
  ·exact .inl ⟨_,rfl,hK _ _ ⟨x,hn,rfl⟩ hb2⟩
  ·exact .inr ⟨_,rfl,hdf,⟨.inr (.inr (.inl ⟨hn,rfl⟩)),HW0.out w2 (hb.trans (hb2.mono hb.size))⟩⟩
 rintro vals w8 ⟨hh0,hh1,hh2,hh3,hh4,hh5,hh6,hh7,_⟩ hb8
 clear hh0 hh1 hh2 hh4 hh5 hh6
 simp only[Nat.reduceAdd]at hh3 hh7
 simp only[putAll,Act.put,List.setIfInBounds_toArray,List.set_cons_zero,List.set_cons_succ,List.drop_succ_cons,List.drop_zero,List.length_cons,List.length_nil,Nat.reduceAdd]
 obtain⟨a0,hr0,hv0⟩:=hh3
 rw[hv0]
 clear hv0
 obtain⟨a1,hr1,hv1⟩:=hh7
 rw[hv1]
 clear hv1
 have HQ:=hid (HP.out a0 a1 w8 (HWW.out w8 hb8) (numP_lt hr0) (numP_lt hr1))
 have HB8:=hid hb8
 have HR:=hid (And.intro hr0 hr1)
 clear hb8 hr0 hr1
 go_wp2_with fail
 refine HQ.out.mono ?_
 rintro e w9 ⟨P,K,pa,pn,pc,rfl,⟨he0,he6⟩,hok,hb9⟩
 have hbA:=HB8.out.trans (hb9.mono HB8.out.size)
 have hAr:=HA0.out.below hbA
 have hN:Arr (w9.alloc (.cells #[.int .i64 0,.int .i64 0,.slice none 0 0] 60)) w9.heap.size 60 ([]++[.int .i64 0,.int .i64 0,.slice none 0 0]):=Arr.new w9 _ _
 have t1:(w9.alloc (.cells #[.int .i64 0,.int .i64 0,.slice none 0 0] 60)).there w9.heap.size 0 (#[Value.int .i64 P,.int .i64 K,.slice pa pn pc]).size:=hN.there
 have hr4:Arr ((w9.alloc (.cells #[.int .i64 0,.int .i64 0,.slice none 0 0] 60)).setCells w9.heap.size 0 [.int .i64 P,.int .i64 K,.slice pa pn pc]) w9.heap.size 60 [.int .i64 P,.int .i64 K,.slice pa pn pc]:=Arr.setCells _ [] [.int .i64 0,.int .i64 0,.slice none 0 0] _ hN rfl
 have hg4:=grown_setCells (b:=w9.heap.size) [.int .i64 P,.int .i64 K,.slice pa pn pc] 0 (w9.alloc (.cells #[.int .i64 0,.int .i64 0,.slice none 0 0] 60))
 have hA3:=hAr.alloc (.cells #[.int .i64 0,.int .i64 0,.slice none 0 0] 60)
 have hA4:=hA3.kept hg4 (fun e=>by have:=Option.some.inj e;have:=hAr.lt;omega)
 have hb4:=((Below.refl w9.heap.size w9).alloc (Nat.le_refl _) (.cells #[.int .i64 0,.int .i64 0,.slice none 0 0] 60)).grown hg4 (by simp) (fun k h=>by cases h;omega)
 have H4:=hid (And.intro hr4 (And.intro hA4 hb4))
 have HOK:=hid hok
 have HB9:=hid hb9
 have hone:=fld_one3 P K pa pn pc
 clear hbA hAr hN hr4 hg4 hA3 hA4 hb4 hok hb9 HQ
 go_wp2_with (first
  |(refine wpList_store_mid rfl 60 _ _ rfl w9.heap.size 0 #[Value.int .i64 P,.int .i64 K,.slice pa pn pc] rfl rfl t1 i3 hone ?_;show wpList _ _ _ _ _ ((w9.alloc (.cells #[.int .i64 0,.int .i64 0,.slice none 0 0] 60)).setCells w9.heap.size 0 [.int .i64 P,.int .i64 K,.slice pa pn pc]);generalize ((w9.alloc (.cells #[.int .i64 0,.int .i64 0,.slice none 0 0] 60)).setCells w9.heap.size 0 [.int .i64 P,.int .i64 K,.slice pa pn pc])=w10 at H4⊢;clear t1 hone))
 by_cases hE:E a0 a1=0
 ·rw[hE]
  obtain⟨rfl,rfl,hsl,h64,hlen⟩:=HOK.out hE
  have HC:=hid (check_ok w10)
  have HSL:=hid (And.intro hsl (And.intro h64 hlen))
  have HEE:=hid hE
  clear HOK he0 he6 hsl h64 hlen hE
  go_wp2_with fail
  refine HC.out.mono ?_
  rintro e w11 ⟨rfl,hb11⟩
  have hr11:=H4.out.1.below hb11
  have hA11:=H4.out.2.1.below hb11
  have hb12:=H4.out.2.2.trans (hb11.mono H4.out.2.2.size)
  have r5:=hr11.range
  have t6:w11.there w.heap.size 0 (#[Value.int .i64 a0,.int .i64 a1,.slice pa pn pc]).size:=hA11.there
  have hone:=fld_one3 a0 a1 pa pn pc
  have hr13:Arr (w11.setCells w.heap.size 0 [Value.int .i64 a0,.int .i64 a1,.slice pa pn pc]) w.heap.size 60 [Value.int .i64 a0,.int .i64 a1,.slice pa pn pc]:=Arr.setCells _ [] [.int .i64 0,.int .i64 0,.slice none 0 0] _ hA11 rfl
  have hg13:=grown_setCells (b:=w.heap.size) [Value.int .i64 a0,.int .i64 a1,.slice pa pn pc] 0 w11
  have hb14:Below w.heap.size w w11:=(HW0.out w8 HB8.out).trans ((HB9.out.trans (hb12.mono HB9.out.size)).mono (HW0.out w8 HB8.out).size)
  have hb15:=hb14.grown hg13 hb14.size (fun k h=>by cases h;omega)
  have hsl12:=HSL.out.1.below hb12
  have hle8:=HB8.out.size
  have hne:(Value.slice pa pn pc).ownBlock=none∨(Value.slice pa pn pc).ownBlock≠some w.heap.size:=by
   rcases ho:(Value.slice pa pn pc).ownBlock with _|k
   ·exact .inl rfl
   ·exact .inr (fun e=>by have:=Option.some.inj e;have:=(hsl12.lt k ho).1;omega)
  have hsl15:=(hsl12.kept hg13 hne).sl (by have:=HSL.out.2.2;omega)
  clear hsl12 hle8 hne
  clear hr11 hA11 hb12 hg13 hb14 hb11 HC
  have H15:=hid (And.intro hr13 (And.intro hb15 hsl15))
  clear hr13 hb15 hsl15
  go_wp2_with (first
   |(refine wpList_load_mid rfl 60 _ rfl w9.heap.size 0 rfl [Value.int .i64 a0,.int .i64 a1,.slice pa pn pc] _ r5 Tryz.underlying60 rfl i3 ?_)
   |(refine wpList_store_mid rfl 60 _ _ rfl w.heap.size 0 #[Value.int .i64 a0,.int .i64 a1,.slice pa pn pc] rfl rfl t6 i3 hone ?_;show wpList _ _ _ _ _ (w11.setCells w.heap.size 0 [Value.int .i64 a0,.int .i64 a1,.slice pa pn pc]);generalize (w11.setCells w.heap.size 0 [Value.int .i64 a0,.int .i64 a1,.slice pa pn pc])=w12 at H15⊢;clear t6 r5 hone))
  have hld:=run_loadVar_mid (P:=Tryz.prog) _ _ _ 60 _ _ H15.out.1.range Tryz.underlying60 rfl i3
  refine⟨rfl,.agg #[.int .i64 a0,.int .i64 a1,.slice pa pn pc],?_,.inl ⟨a0,a1,pa,pn,pc,HR.out.1,HR.out.2,HEE.out,rfl,H15.out.2.2,HSL.out.2⟩,H15.out.2.1⟩
  show((results _ _).run _ _)=_
  simp[results,Tryz.f28,asAddr,Act.put,hld]
 ·have HC:=hid (check_bad (E a0 a1) (by omega) he6 w10)
  have HEE:=hid hE
  clear HOK he0 he6 hE
  go_wp2_with fail
  refine HC.out.mono ?_
  rintro e w11 ⟨rfl,hb11⟩
  have hb12:=H4.out.2.2.trans (hb11.mono H4.out.2.2.size)
  have hb14:Below w.heap.size w w11:=(HW0.out w8 HB8.out).trans ((HB9.out.trans (hb12.mono HB9.out.size)).mono (HW0.out w8 HB8.out).size)
  exact⟨rfl,.inr (.inr (.inr ⟨a0,a1,HR.out.1,HR.out.2,HEE.out,rfl⟩)),hb14⟩
def ansFld (E:Nat→Nat→Int) (Lo:Nat→Nat→List Int) (ts:List (List UInt8)):List UInt8:=((numP (ts.getD 0 [])).bind fun a0=>(numP (ts.getD 1 [])).bind fun a1=>some (if E a0 a1=0 then tellI (Lo a0 a1)else errT (E a0 a1))).getD badT
theorem cmdFld (E:Nat→Nat→Int) (Lo:Nat→Nat→List Int) (HP0:PkLst E Lo) (ts:List (List UInt8)) (hts:ts.length=2) (v:Value) (w:World) (hW:RunW w) (hv:SS w v ts) (hl:∀t∈ts,t.length≤10000):
 Calls Tryz.prog 26 #[v] w (TE (ansFld E Lo ts) w):=by
 have HL:=hid (least_any E Lo HP0 ts (by omega) v w hW hv hl)
 have HWW:=hid (fun(w1:World) (hb:Below w.heap.size w w1)=>hW.below hb)
 have HA:Hid (ansFld E Lo ts=((numP (ts.getD 0 [])).bind fun a0=>(numP (ts.getD 1 [])).bind fun a1=>some (if E a0 a1=0 then tellI (Lo a0 a1)else errT (E a0 a1))).getD badT):=hid rfl
 obtain⟨g,o,c,rfl,hg,hc⟩:=hv
 rw[hts]at HL⊢
 generalize ts.getD 0 []=s0 at*
 generalize ts.getD 1 []=s1 at*
 have HB0:Hid (numP s0=none→ansFld E Lo ts=badT):=hid (fun h=>by
  rw[HA.out,h]
  rfl)
 have HB1:Hid (numP s1=none→ansFld E Lo ts=badT):=hid (fun h=>by
  rw[HA.out,h]
  cases numP s0<;>rfl)
 have HAA:Hid (∀(a0 a1:Nat),numP s0=some a0→numP s1=some a1→ansFld E Lo ts=if E a0 a1=0 then tellI (Lo a0 a1)else errT (E a0 a1)):=hid (fun a0 a1 h0 h1=>by rw[HA.out,h0,h1];rfl)
 have HG2:Hid (∀A w',ansFld E Lo ts=A→Below w.heap.size w w'→TE (ansFld E Lo ts) w (badE A) w'):=hid (fun A w' h hb=>by rw[h];exact TE.bad hb)
 have HG3:=hid (fun A e w1 w' (h:ansFld E Lo ts=A) (hb:Below w.heap.size w w1) (ht:TE A w1 e w')=>(show TE (ansFld E Lo ts) w e w' by rw[h];exact ht.pre hb))
 clear hc hl hW HA
 generalize TE (ansFld E Lo ts) w=G at*
 go_enter Tryz.func26,Tryz.ntmps26
 go_wp2_with fail
 refine HL.out.mono ?_
 rintro e w1 ⟨h,hb1⟩
 have HB:=hid hb1
 clear hb1 HL
 rcases h with⟨a0,a1,pa,pn,pc,h0,h1,hE,rfl,hsl,h64,hlen⟩|⟨hn,rfl⟩|⟨hn,rfl⟩|⟨a0,a1,h0,h1,hE,rfl⟩
 ·have hfd:∀w:World,(Instr.field 60 (.agg #[.int .i64 a0,.int .i64 a1,.slice pa pn pc]) 2).run Tryz.prog w= .ok (.slice pa pn pc) w:=fun _=>by kernel_rfl
  have HT:=hid (tell_ints _ (Lo a0 a1) w1 hsl h64 hlen (HWW.out w1 HB.out))
  have HAT:=hid ((HAA.out a0 a1 h0 h1).trans (if_pos hE))
  clear h0 h1 hE hsl h64 hlen
  go_wp2_with fail
  refine HT.out.mono ?_
  rintro e w2 ⟨rfl,hb2⟩
  have HZ:=hid (HG3.out _ _ w1 w2 HAT.out HB.out (TE.ret hb2))
  clear hb2
  go_wp2
  exact HZ.out
 ·have HZ:=hid (HG2.out _ w1 (HB0.out hn) HB.out)
  exact⟨rfl,HZ.out⟩
 ·have HZ:=hid (HG2.out _ w1 (HB1.out hn) HB.out)
  exact⟨rfl,HZ.out⟩
 ·have HZ:=hid (HG2.out _ w1 ((HAA.out a0 a1 h0 h1).trans (if_neg hE)) HB.out)
  exact⟨rfl,HZ.out⟩
def PkMul (E:Nat→Nat→Int) (Lo:Nat→Nat→List Int) (E2 X2:Nat→Nat→Nat→Nat→Int):Prop:=∀(a0 a1 a2 a3:Nat) (u:Value) (w1:World),RunW w1→a0<1000000000→a1<1000000000→a2<1000000000→a3<1000000000→E a0 a1=0→Sl w1 u (Lo a0 a1)→(∀x∈Lo a0 a1,I64 x)→Calls Tryz.prog 104 #[.agg #[.int .i64 a0,.int .i64 a1,u],.int .i64 a2,.int .i64 a3] w1 fun e w'=>e= .returned (.tuple #[.int .i64 (X2 a0 a1 a2 a3),.int .i64 (E2 a0 a1 a2 a3)])∧(0≤E2 a0 a1 a2 a3∧E2 a0 a1 a2 a3≤6)∧I64 (X2 a0 a1 a2 a3)∧Below w1.heap.size w1 w'
def ansTim (E:Nat→Nat→Int) (E2 X2:Nat→Nat→Nat→Nat→Int) (ts:List (List UInt8)):List UInt8:=((numP (ts.getD 2 [])).bind fun a2=>(numP (ts.getD 3 [])).bind fun a3=>(numP (ts.getD 0 [])).bind fun a0=>(numP (ts.getD 1 [])).bind fun a1=>some (if E a0 a1=0 then(if E2 a0 a1 a2 a3=0 then Lib.itoa (X2 a0 a1 a2 a3)else errT (E2 a0 a1 a2 a3))else errT (E a0 a1))).getD badT
theorem cmdTim (E:Nat→Nat→Int) (Lo:Nat→Nat→List Int) (E2 X2:Nat→Nat→Nat→Nat→Int) (HP0:PkLst E Lo) (HM0:PkMul E Lo E2 X2) (ts:List (List UInt8)) (hts:ts.length=4) (v:Value) (w:World) (hW:RunW w) (hv:SS w v ts) (hl:∀t∈ts,t.length≤10000):
 Calls Tryz.prog 29 #[v] w (TE (ansTim E E2 X2 ts) w):=by
 have HL:=hid (fun(w1:World) (hb:Below w.heap.size w w1)=>least_any E Lo HP0 ts (by omega) v w1 (hW.below hb) (hv.below hb) hl)
 have HM:=hid HM0
 have HWW:=hid (fun(w1:World) (hb:Below w.heap.size w w1)=>hW.below hb)
 obtain⟨g,o,c,rfl,hg,hc⟩:=hv
 rw[hts]at HL⊢
 have HA:Hid (ansTim E E2 X2 ts=((numP (ts.getD 2 [])).bind fun a2=>(numP (ts.getD 3 [])).bind fun a3=>(numP (ts.getD 0 [])).bind fun a0=>(numP (ts.getD 1 [])).bind fun a1=>some (if E a0 a1=0 then(if E2 a0 a1 a2 a3=0 then Lib.itoa (X2 a0 a1 a2 a3)else errT (E2 a0 a1 a2 a3))else errT (E a0 a1))).getD badT):=hid rfl
 have HC0:Hid (∀w1:World,Below w.heap.size w w1→w1.cell? ⟨g,o+2,none⟩=some (.string (str (ts.getD 2 [])))):=hid (fun w1 hb=>(hb.cell (p:=⟨g,o+2,none⟩) hg).trans (hc 2 (by omega)))
 have HN0:=hid (fun(w1:World) (hb:Below w.heap.size w w1)=>number_any (ts.getD 2 []) w1 (getD_len hl 2) (hW.below hb))
 have HC1:Hid (∀w1:World,Below w.heap.size w w1→w1.cell? ⟨g,o+3,none⟩=some (.string (str (ts.getD 3 [])))):=hid (fun w1 hb=>(hb.cell (p:=⟨g,o+3,none⟩) hg).trans (hc 3 (by omega)))
 have HN1:=hid (fun(w1:World) (hb:Below w.heap.size w w1)=>number_any (ts.getD 3 []) w1 (getD_len hl 3) (hW.below hb))
 generalize ts.getD 2 []=s0 at*
 generalize ts.getD 3 []=s1 at*
 generalize ts.getD 0 []=s2 at*
 generalize ts.getD 1 []=s3 at*
 have HB0:Hid (numP s0=none→ansTim E E2 X2 ts=badT):=hid (fun h=>by
  rw[HA.out,h]
  rfl)
 have HB1:Hid (numP s1=none→ansTim E E2 X2 ts=badT):=hid (fun h=>by
  rw[HA.out,h]
  cases numP s0<;>rfl)
 have HB2:Hid (numP s2=none→ansTim E E2 X2 ts=badT):=hid (fun h=>by
  rw[HA.out,h]
  cases numP s0<;>cases numP s1<;>rfl)
 have HB3:Hid (numP s3=none→ansTim E E2 X2 ts=badT):=hid (fun h=>by
  rw[HA.out,h]
  cases numP s0<;>cases numP s1<;>cases numP s2<;>rfl)
 have HAA:Hid (∀(a0 a1 a2 a3:Nat),numP s0=some a2→numP s1=some a3→numP s2=some a0→numP s3=some a1→ansTim E E2 X2 ts=if E a0 a1=0 then(if E2 a0 a1 a2 a3=0 then Lib.itoa (X2 a0 a1 a2 a3)else errT (E2 a0 a1 a2 a3))else errT (E a0 a1)):=hid (fun a0 a1 a2 a3 h0 h1 h2 h3=>by rw[HA.out,h0,h1,Option.bind_some,Option.bind_some,h2,h3];rfl)
 have HG2:Hid (∀A w',ansTim E E2 X2 ts=A→Below w.heap.size w w'→TE (ansTim E E2 X2 ts) w (badE A) w'):=hid (fun A w' h hb=>by rw[h];exact TE.bad hb)
 have HG3:=hid (fun A e w1 w' (h:ansTim E E2 X2 ts=A) (hb:Below w.heap.size w w1) (ht:TE A w1 e w')=>(show TE (ansTim E E2 X2 ts) w e w' by rw[h];exact ht.pre hb))
 clear hc hl hW HA
 generalize TE (ansTim E E2 X2 ts) w=G at*
 go_enter Tryz.func29,Tryz.ntmps29
 go_wp2
 refine region_dagPL [5,6,7,8,9,10,11,12] [fun v _=>v= .slice (some ⟨g,o,none⟩) 4 c,fun v _=>v= .pointer (some ⟨g,o+2,none⟩),fun v _=>v= .string (str s0),fun v _=>∃n:Nat,numP s0=some n∧v= .int .i64 n,fun v _=>v= .slice (some ⟨g,o,none⟩) 4 c,fun v _=>v= .pointer (some ⟨g,o+3,none⟩),fun v _=>v= .string (str s1),fun v _=>∃n:Nat,numP s1=some n∧v= .int .i64 n] (by kernel_rfl) (by kernel_rfl) rfl rfl ⟨Kp_eq _,Kp_eq _,Kp_eq _,fun v w1 w2 h _ hb=>h,Kp_eq _,Kp_eq _,Kp_eq _,fun v w1 w2 h _ hb=>h,trivial⟩ ⟨?_,?_,?_,?_,?_,?_,?_,?_,trivial⟩ ?_
 ·intro a w' K hb hf hdf hd hK
  exact dag_move _ rfl (hK _ _ (hf 0 rfl) (Below.refl _ _))
 ·intro a w' K hb hf hdf hd hK
  have h3:a.tmps[5]?.getD undef= .slice (some ⟨g,o,none⟩) 4 c:=ev_tmp (hd 0 (by decide) (by kernel_rfl))
  clear hf hd hdf
  refine ?_
  go_simp
  exact hK _ _ rfl (Below.refl _ _)
 ·intro a w' K hb hf hdf hd hK
  have h3:a.tmps[6]?.getD undef= .pointer (some ⟨g,o+2,none⟩):=ev_tmp (hd 1 (by decide) (by kernel_rfl))
  have hcl:=HC0.out w' hb
  clear hf hd hdf
  refine ?_
  go_simp
  exact hK _ _ rfl (Below.refl _ _)
 ·intro a w' K hb hf hdf hd hK
  have h3:a.eval (.tmp 7)=_:=hd 2 (by decide) (by kernel_rfl)
  refine dag_callp _ _ _ #[_] rfl (by rw[List.map_toArray,List.map_cons,List.map_nil,h3]) _ Tryz.func33 (by kernel_rfl) (by kernel_rfl) ?_
  refine(HN0.out w' hb).mono ?_
  rintro e w2 ⟨h,hb2⟩
  rcases h with⟨x,hn,rfl⟩|⟨hn,rfl⟩
  ·exact .inl ⟨_,rfl,hK _ _ ⟨x,hn,rfl⟩ hb2⟩
  ·exact .inr ⟨_,rfl,hdf,HG2.out _ w2 (HB0.out hn) (hb.trans (hb2.mono hb.size))⟩
 ·intro a w' K hb hf hdf hd hK
  exact dag_move _ rfl (hK _ _ (hf 0 rfl) (Below.refl _ _))
 ·intro a w' K hb hf hdf hd hK
  have h3:a.tmps[9]?.getD undef= .slice (some ⟨g,o,none⟩) 4 c:=ev_tmp (hd 4 (by decide) (by kernel_rfl))
  clear hf hd hdf
  refine ?_
  go_simp
  exact hK _ _ rfl (Below.refl _ _)
 ·intro a w' K hb hf hdf hd hK
  have h3:a.tmps[10]?.getD undef= .pointer (some ⟨g,o+3,none⟩):=ev_tmp (hd 5 (by decide) (by kernel_rfl))
  have hcl:=HC1.out w' hb
  clear hf hd hdf
  refine ?_
  go_simp
  exact hK _ _ rfl (Below.refl _ _)
 ·intro a w' K hb hf hdf hd hK
  have h3:a.eval (.tmp 11)=_:=hd 6 (by decide) (by kernel_rfl)
  refine dag_callp _ _ _ #[_] rfl (by rw[List.map_toArray,List.map_cons,List.map_nil,h3]) _ Tryz.func33 (by kernel_rfl) (by kernel_rfl) ?_
  refine(HN1.out w' hb).mono ?_
  rintro e w2 ⟨h,hb2⟩
  rcases h with⟨x,hn,rfl⟩|⟨hn,rfl⟩
  ·exact .inl ⟨_,rfl,hK _ _ ⟨x,hn,rfl⟩ hb2⟩
  ·exact .inr ⟨_,rfl,hdf,HG2.out _ w2 (HB1.out hn) (hb.trans (hb2.mono hb.size))⟩
 rintro vals w8 ⟨hh0,hh1,hh2,hh3,hh4,hh5,hh6,hh7,_⟩ hb8
 clear hh0 hh1 hh2 hh4 hh5 hh6
 simp only[Nat.reduceAdd]at hh3 hh7
 simp only[putAll,Act.put,List.setIfInBounds_toArray,List.set_cons_zero,List.set_cons_succ,List.drop_succ_cons,List.drop_zero,List.length_cons,List.length_nil,Nat.reduceAdd]
 obtain⟨a0,hr0,hv0⟩:=hh3
 rw[hv0]
 clear hv0
 obtain⟨a1,hr1,hv1⟩:=hh7
 rw[hv1]
 clear hv1
 have HLL:=hid (HL.out w8 hb8)
 have HB8:=hid hb8
 have HR:=hid (And.intro hr0 hr1)
 clear hb8 hr0 hr1 HL
 go_wp2_with fail
 refine HLL.out.mono ?_
 rintro e w9 ⟨h,hb9⟩
 have HB9:=hid (HB8.out.trans (hb9.mono HB8.out.size))
 clear hb9 HLL
 rcases h with⟨b0,b1,pa,pn,pc,h0,h1,hE,rfl,hsl,h64,hlen⟩|⟨hn,rfl⟩|⟨hn,rfl⟩|⟨b0,b1,h0,h1,hE,rfl⟩
 ·have HMM:=hid (HM.out b0 b1 a0 a1 _ w9 (HWW.out w9 HB9.out) (numP_lt h0) (numP_lt h1) (numP_lt HR.out.1) (numP_lt HR.out.2) hE hsl h64)
  have HAT:=hid ((HAA.out b0 b1 a0 a1 HR.out.1 HR.out.2 h0 h1).trans (if_pos hE))
  clear h0 h1 hE hsl h64 hlen
  go_wp2_with fail
  refine HMM.out.mono ?_
  rintro e w10 ⟨rfl,⟨he0,he6⟩,hx,hb10⟩
  have HB10:=hid (HB9.out.trans (hb10.mono HB9.out.size))
  have HT:=hid (told_int (X2 b0 b1 a0 a1) (E2 b0 b1 a0 a1) w10 he0 he6 (fun _=>hx) (HWW.out w10 HB10.out))
  clear he0 he6 hx hb10 HMM
  generalize (if E2 b0 b1 a0 a1=0 then Lib.itoa (X2 b0 b1 a0 a1)else errT (E2 b0 b1 a0 a1))=AT at*
  go_wp2_with fail
  refine HT.out.mono ?_
  intro e w12 h12
  have HZ:=hid (HG3.out _ e w10 w12 HAT.out HB10.out h12)
  rcases h12.1 with rfl|rfl
  ·clear h12
   go_wp2
   exact HZ.out
  ·exact⟨rfl,HZ.out⟩
 ·have HZ:=hid (HG2.out _ w9 (HB2.out hn) HB9.out)
  exact⟨rfl,HZ.out⟩
 ·have HZ:=hid (HG2.out _ w9 (HB3.out hn) HB9.out)
  exact⟨rfl,HZ.out⟩
 ·have HZ:=hid (HG2.out _ w9 ((HAA.out b0 b1 a0 a1 HR.out.1 HR.out.2 h0 h1).trans (if_neg hE)) HB9.out)
  exact⟨rfl,HZ.out⟩
end Go.Proofs.YtnnaadmegeeinaaGreatDoor
