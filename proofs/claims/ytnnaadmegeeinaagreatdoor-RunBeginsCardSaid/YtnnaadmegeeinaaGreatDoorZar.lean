/-
  Part 44 of a proof: what it proves stands in the last text.
-/
import Derived.Test.YtnnaadmegeeinaaGreatDoorZao
import Derived.Test.YtnnaadmegeeinaaGreatDoorZj
import Derived.Test.YtnnaadmegeeinaaGreatDoorZam
set_option linter.unusedVariables false
set_option maxHeartbeats 8000000
set_option maxRecDepth 100000
namespace Go.Proofs.YtnnaadmegeeinaaGreatDoor
open Go.RowKit
theorem dsn_one (p:Int) (a:Option Addr) (n c:Nat):(#[Value.int .i64 p,Value.slice a n c]:Array Value).all (·.oneCell')=true:=by simp[Value.oneCell']
def PkTri (E:Nat→Int) (X:Nat→List (List Int)):Prop:=∀(a:Nat) (w1:World),RunW w1→a<1000000000→Calls Tryz.prog 120 #[.int .i64 a] w1 fun e w'=>∃(P:Int) (pa:Option Addr) (pn pc:Nat),e= .returned (.tuple #[.agg #[.int .i64 P,.slice pa pn pc],.int .i64 (E a)])∧(0≤E a∧E a≤6)∧(E a=0→RL w' (.slice pa pn pc) (X a)∧(∀m∈X a,(∀x∈m,I64 x)∧m.length≤1000)∧(X a).length≤1000)∧Below w1.heap.size w1 w'
def ansTri (E:Nat→Int) (X:Nat→List (List Int)) (ts:List (List UInt8)):List UInt8:=((numP (ts.getD 0 [])).bind fun a=>some (if E a=0 then tellR (X a)else errT (E a))).getD badT
theorem cmdTri (E:Nat→Int) (X:Nat→List (List Int)) (HP0:PkTri E X) (ts:List (List UInt8)) (hts:ts.length=1) (v:Value) (w:World) (hW:RunW w) (hv:SS w v ts) (hl:∀t∈ts,t.length≤10000):
 Calls Tryz.prog 49 #[v] w (TE (ansTri E X ts) w):=by
 have HP:=hid HP0
 have HWW:=hid (fun(w1:World) (hb:Below w.heap.size w w1)=>hW.below hb)
 obtain⟨g,o,c,rfl,hg,hc⟩:=hv
 rw[hts]
 have hcl:w.cell? ⟨g,o,none⟩=some (.string (str (ts.getD 0 []))):=hc 0 (by omega)
 have HN:=hid (number_any (ts.getD 0 []) w (getD_len hl 0) hW)
 have HA:Hid (ansTri E X ts=((numP (ts.getD 0 [])).bind fun a=>some (if E a=0 then tellR (X a)else errT (E a))).getD badT):=hid rfl
 generalize ts.getD 0 []=s0 at*
 have HAA:Hid (∀a,numP s0=some a→ansTri E X ts=if E a=0 then tellR (X a)else errT (E a)):=hid (fun a h=>by rw[HA.out,h];rfl)
 have HG2:Hid (∀w',numP s0=none→Below w.heap.size w w'→TE (ansTri E X ts) w (badE [98,97,100]) w'):=hid (fun w' h hb=>by rw[HA.out,h];exact TE.bad (A:=badT) hb)
 have HG3:=hid (fun A e w1 w' (h:ansTri E X ts=A) (hb:Below w.heap.size w w1) (ht:TE A w1 e w')=>(show TE (ansTri E X ts) w e w' by rw[h];exact ht.pre hb))
 have i3:(Tryz.prog.info? 103).map (·.size)=some 2:=by kernel_rfl
 clear hc hl hW HA
 generalize TE (ansTri E X ts) w=G at*
 go_enter Tryz.func49,Tryz.ntmps49
 go_wp2_with fail
 refine HN.out.mono ?_
 rintro e w1 ⟨hh,hb1⟩
 have HB1:=hid hb1
 clear hb1 HN
 rcases hh with⟨a,hn,rfl⟩|⟨hn,rfl⟩
 ·have HPP:=hid (HP.out a w1 (HWW.out w1 HB1.out) (numP_lt hn))
  have HAT:=hid (HAA.out a hn)
  clear hn
  go_wp2_with fail
  refine HPP.out.mono ?_
  rintro e w9 ⟨P,pa,pn,pc,rfl,⟨he0,he6⟩,hok,hb9⟩
  have hN:Arr (w9.alloc (.cells #[.int .i64 0,.slice none 0 0] 103)) w9.heap.size 103 ([]++[.int .i64 0,.slice none 0 0]):=Arr.new w9 _ _
  have t1:(w9.alloc (.cells #[.int .i64 0,.slice none 0 0] 103)).there w9.heap.size 0 (#[Value.int .i64 P,.slice pa pn pc]).size:=hN.there
  have hr4:Arr ((w9.alloc (.cells #[.int .i64 0,.slice none 0 0] 103)).setCells w9.heap.size 0 [Value.int .i64 P,.slice pa pn pc]) w9.heap.size 103 [Value.int .i64 P,.slice pa pn pc]:=Arr.setCells _ [] [.int .i64 0,.slice none 0 0] _ hN rfl
  have hg4:=grown_setCells (b:=w9.heap.size) [Value.int .i64 P,.slice pa pn pc] 0 (w9.alloc (.cells #[.int .i64 0,.slice none 0 0] 103))
  have hb4:=((Below.refl w9.heap.size w9).alloc (Nat.le_refl _) (.cells #[.int .i64 0,.slice none 0 0] 103)).grown hg4 (by simp) (fun k h=>by cases h;omega)
  have H4:=hid (And.intro hr4 hb4)
  have HOK:=hid hok
  have HB9:=hid (HB1.out.trans (hb9.mono HB1.out.size))
  have HEE:=hid (And.intro he0 he6)
  have hone:=dsn_one P pa pn pc
  clear hN hr4 hg4 hb4 hok hb9 HPP he0 he6
  go_wp2_with (first
   |(refine wpList_store_mid rfl 103 _ _ rfl w9.heap.size 0 #[Value.int .i64 P,.slice pa pn pc] rfl rfl t1 i3 hone ?_;show wpList _ _ _ _ _ ((w9.alloc (.cells #[.int .i64 0,.slice none 0 0] 103)).setCells w9.heap.size 0 [Value.int .i64 P,.slice pa pn pc]);generalize ((w9.alloc (.cells #[.int .i64 0,.slice none 0 0] 103)).setCells w9.heap.size 0 [Value.int .i64 P,.slice pa pn pc])=w10 at H4⊢;have hc1:w10.cell? ⟨w9.heap.size,1,none⟩=some (.slice pa pn pc):=H4.out.1.cell 1;clear t1 hone))
  have HB10:=hid (HB9.out.trans (H4.out.2.mono HB9.out.size))
  have HT:=hid (told_rows (.slice pa pn pc) (X a) (E a) w10 HEE.out.1 HEE.out.2 (fun h0=>⟨(HOK.out h0).1.below H4.out.2,(HOK.out h0).2⟩) (HWW.out w10 HB10.out))
  generalize (if E a=0 then tellR (X a)else errT (E a))=AT at*
  refine HT.out.mono ?_
  intro e w12 h12
  have HZ:=hid (HG3.out _ e w10 w12 HAT.out HB10.out h12)
  rcases h12.1 with rfl|rfl
  ·clear h12
   go_wp2
   exact HZ.out
  ·exact⟨rfl,HZ.out⟩
 ·have HZ:=hid (HG2.out w1 hn HB1.out)
  clear hn
  exact⟨rfl,HZ.out⟩
def ansLev (E X1 X2:Nat→List (List Nat)→Nat→Int) (ts:List (List UInt8)):List UInt8:=((numP (ts.getD 0 [])).bind fun a0=>(rowsP (ts.getD 1 [])).bind fun a1=>(numP (ts.getD 2 [])).bind fun a2=>some (if E a0 a1 a2=0 then Lib.itoa (X1 a0 a1 a2)++32::Lib.itoa (X2 a0 a1 a2)else errT (E a0 a1 a2))).getD badT
def PkLev (E X1 X2:Nat→List (List Nat)→Nat→Int):Prop:=∀(a0:Nat) (a1:List (List Nat)) (a2:Nat) (v1:Value) (w1:World),RunW w1→a0<1000000000→RL w1 v1 (a1.map intsN)∧(∀m∈a1,∀x∈m,x<1000000000)→a2<1000000000→Calls Tryz.prog 119 #[.agg #[.int .i64 a0,v1],.int .i64 a2] w1 fun e w'=>e= .returned (.tuple #[.int .i64 (X1 a0 a1 a2),.int .i64 (X2 a0 a1 a2),.int .i64 (E a0 a1 a2)])∧(0≤E a0 a1 a2∧E a0 a1 a2≤6)∧(E a0 a1 a2=0→I64 (X1 a0 a1 a2)∧I64 (X2 a0 a1 a2))∧Below w1.heap.size w1 w'
def RBLev (s0 s1:List UInt8) (v:Value) (w':World):Prop:=∃(a0:Nat) (a1:List (List Nat)) (pa:Option Addr) (pn pc:Nat),numP s0=some a0∧rowsP s1=some a1∧RT w' (.slice pa pn pc) (a1.map intsN)∧v= .agg #[.int .i64 a0,.slice pa pn pc]
def RCLev (E X1 X2:Nat→List (List Nat)→Nat→Int) (a0:Nat) (a1:List (List Nat)) (s2:List UInt8) (v:Value):Prop:=∃a2:Nat,numP s2=some a2∧v= .tuple #[.int .i64 (X1 a0 a1 a2),.int .i64 (X2 a0 a1 a2),.int .i64 (E a0 a1 a2)]∧(0≤E a0 a1 a2∧E a0 a1 a2≤6)∧(E a0 a1 a2=0→I64 (X1 a0 a1 a2)∧I64 (X2 a0 a1 a2))
def RELev (E X1 X2:Nat→List (List Nat)→Nat→Int) (a0:Nat) (a1:List (List Nat)) (s2:List UInt8) (v:Value):Prop:=∃a2:Nat,numP s2=some a2∧v= .int .i64 (E a0 a1 a2)∧(0≤E a0 a1 a2∧E a0 a1 a2≤6)∧(E a0 a1 a2=0→I64 (X1 a0 a1 a2)∧I64 (X2 a0 a1 a2))
theorem cmdLev (E X1 X2:Nat→List (List Nat)→Nat→Int) (HP0:PkLev E X1 X2) (ts:List (List UInt8)) (hts:ts.length=3) (v:Value) (w:World) (hW:RunW w) (hv:SS w v ts) (hl:∀t∈ts,t.length≤10000):
 Calls Tryz.prog 48 #[v] w (TE (ansLev E X1 X2 ts) w):=by
 have HP:=hid HP0
 have HWW:=hid (fun(w1:World) (hb:Below w.heap.size w w1)=>hW.below hb)
 obtain⟨g,o,c,rfl,hg,hc⟩:=hv
 rw[hts]
 have HC0:Hid (∀w1:World,Below w.heap.size w w1→w1.cell? ⟨g,o,none⟩=some (.string (str (ts.getD 0 [])))):=hid (fun w1 hb=>(hb.cell (p:=⟨g,o+0,none⟩) hg).trans (hc 0 (by omega)))
 have HN0:=hid (fun(w1:World) (hb:Below w.heap.size w w1)=>number_any (ts.getD 0 []) w1 (getD_len hl 0) (hW.below hb))
 have HC1:Hid (∀w1:World,Below w.heap.size w w1→w1.cell? ⟨g,o+1,none⟩=some (.string (str (ts.getD 1 [])))):=hid (fun w1 hb=>(hb.cell (p:=⟨g,o+1,none⟩) hg).trans (hc 1 (by omega)))
 have HN1:=hid (fun(w1:World) (hb:Below w.heap.size w w1)=>rows_own (ts.getD 1 []) w1 (getD_len hl 1) (hW.below hb))
 have HC2:Hid (∀w1:World,Below w.heap.size w w1→w1.cell? ⟨g,o+2,none⟩=some (.string (str (ts.getD 2 [])))):=hid (fun w1 hb=>(hb.cell (p:=⟨g,o+2,none⟩) hg).trans (hc 2 (by omega)))
 have HN2:=hid (fun(w1:World) (hb:Below w.heap.size w w1)=>number_any (ts.getD 2 []) w1 (getD_len hl 2) (hW.below hb))
 have HL1:=hid (getD_len hl 1)
 have HA:Hid (ansLev E X1 X2 ts=((numP (ts.getD 0 [])).bind fun a0=>(rowsP (ts.getD 1 [])).bind fun a1=>(numP (ts.getD 2 [])).bind fun a2=>some (if E a0 a1 a2=0 then Lib.itoa (X1 a0 a1 a2)++32::Lib.itoa (X2 a0 a1 a2)else errT (E a0 a1 a2))).getD badT):=hid rfl
 have i3:(Tryz.prog.info? 103).map (·.size)=some 2:=by kernel_rfl
 generalize ts.getD 0 []=s0 at*
 generalize ts.getD 1 []=s1 at*
 generalize ts.getD 2 []=s2 at*
 have HB0:Hid (numP s0=none→ansLev E X1 X2 ts=badT):=hid (fun h=>by
  rw[HA.out,h]
  rfl)
 have HB1:Hid (rowsP s1=none→ansLev E X1 X2 ts=badT):=hid (fun h=>by
  rw[HA.out,h]
  cases numP s0<;>rfl)
 have HB2:Hid (numP s2=none→ansLev E X1 X2 ts=badT):=hid (fun h=>by
  rw[HA.out,h]
  cases numP s0<;>cases rowsP s1<;>rfl)
 have HAA:Hid (∀(a0:Nat) (a1:List (List Nat)) (a2:Nat),numP s0=some a0→rowsP s1=some a1→numP s2=some a2→ansLev E X1 X2 ts=if E a0 a1 a2=0 then Lib.itoa (X1 a0 a1 a2)++32::Lib.itoa (X2 a0 a1 a2)else errT (E a0 a1 a2)):=hid (fun a0 a1 a2 h0 h1 h2=>by rw[HA.out,h0,h1,h2];rfl)
 have HG2:Hid (∀w',ansLev E X1 X2 ts=badT→Below w.heap.size w w'→TE (ansLev E X1 X2 ts) w (badE [98,97,100]) w'):=hid (fun w' h hb=>by rw[h];exact TE.bad (A:=badT) hb)
 have HG3:=hid (fun A e w1 w' (h:ansLev E X1 X2 ts=A) (hb:Below w.heap.size w w1) (ht:TE A w1 e w')=>(show TE (ansLev E X1 X2 ts) w e w' by rw[h];exact ht.pre hb))
 clear hc hl hW
 generalize TE (ansLev E X1 X2 ts) w=G at*
 go_enter Tryz.func48,Tryz.ntmps48
 go_wp2
 refine region_dagPL [4,5,6,7,8,9,10,11,12,3] [fun v _=>v= .slice (some ⟨g,o,none⟩) 3 c,fun v _=>v= .pointer (some ⟨g,o,none⟩),fun v _=>v= .string (str s0),fun v _=>∃n:Nat,numP s0=some n∧v= .int .i64 n,fun v _=>v= .slice (some ⟨g,o,none⟩) 3 c,fun v _=>v= .pointer (some ⟨g,o+1,none⟩),fun v _=>v= .string (str s1),fun v w'=>∃l,rowsP s1=some l∧RT w' v (l.map intsN),fun v w'=>RBLev s0 s1 v w',fun v w'=>∃b,v= .pointer (some ⟨b,0,none⟩)∧w.heap.size≤b∧Arr w' b 103 [.int .i64 0,.slice none 0 0]] (by kernel_rfl) (by kernel_rfl) rfl rfl ⟨Kp_eq _,Kp_eq _,Kp_eq _,fun v w1 w2 h _ hb=>h,Kp_eq _,Kp_eq _,Kp_eq _,fun v w1 w2 ⟨l,h1,h2⟩ _ hb=>⟨l,h1,h2.below hb⟩,fun v w1 w2 ⟨a0,a1,pa,pn,pc,h0,h1,h2,h3⟩ _ hb=>⟨a0,a1,pa,pn,pc,h0,h1,h2.below hb,h3⟩,fun v w1 w2 ⟨b,h0,h1,h2⟩ _ hb=>⟨b,h0,h1,h2.below hb⟩,trivial⟩ ⟨?_,?_,?_,?_,?_,?_,?_,?_,?_,?_,trivial⟩ ?_
 ·intro a w' K hb hf hdf hd hK
  exact dag_move _ rfl (hK _ _ (hf 0 rfl) (Below.refl _ _))
 ·intro a w' K hb hf hdf hd hK
  have h3:a.tmps[4]?.getD undef= .slice (some ⟨g,o,none⟩) 3 c:=ev_tmp (hd 0 (by decide) (by kernel_rfl))
  clear hf hd hdf
  refine ?_
  go_simp
  exact hK _ _ rfl (Below.refl _ _)
 ·intro a w' K hb hf hdf hd hK
  have h3:a.tmps[5]?.getD undef= .pointer (some ⟨g,o,none⟩):=ev_tmp (hd 1 (by decide) (by kernel_rfl))
  have hcl:=HC0.out w' hb
  clear hf hd hdf
  refine ?_
  go_simp
  exact hK _ _ rfl (Below.refl _ _)
 ·intro a w' K hb hf hdf hd hK
  have h3:a.eval (.tmp 6)=_:=hd 2 (by decide) (by kernel_rfl)
  refine dag_callp _ _ _ #[_] rfl (by rw[List.map_toArray,List.map_cons,List.map_nil,h3]) _ Tryz.func33 (by kernel_rfl) (by kernel_rfl) ?_
  refine(HN0.out w' hb).mono ?_
  rintro e w2 ⟨h,hb2⟩
  rcases h with⟨x,hn,rfl⟩|⟨hn,rfl⟩
  ·exact .inl ⟨_,rfl,hK _ _ ⟨x,hn,rfl⟩ hb2⟩
  ·exact .inr ⟨_,rfl,hdf,HG2.out w2 (HB0.out hn) (hb.trans (hb2.mono hb.size))⟩
 ·intro a w' K hb hf hdf hd hK
  exact dag_move _ rfl (hK _ _ (hf 0 rfl) (Below.refl _ _))
 ·intro a w' K hb hf hdf hd hK
  have h3:a.tmps[8]?.getD undef= .slice (some ⟨g,o,none⟩) 3 c:=ev_tmp (hd 4 (by decide) (by kernel_rfl))
  clear hf hd hdf
  refine ?_
  go_simp
  exact hK _ _ rfl (Below.refl _ _)
 ·intro a w' K hb hf hdf hd hK
  have h3:a.tmps[9]?.getD undef= .pointer (some ⟨g,o+1,none⟩):=ev_tmp (hd 5 (by decide) (by kernel_rfl))
  have hcl:=HC1.out w' hb
  clear hf hd hdf
  refine ?_
  go_simp
  exact hK _ _ rfl (Below.refl _ _)
 ·intro a w' K hb hf hdf hd hK
  have h3:a.eval (.tmp 10)=_:=hd 6 (by decide) (by kernel_rfl)
  refine dag_callp _ _ _ #[_] rfl (by rw[List.map_toArray,List.map_cons,List.map_nil,h3]) _ Tryz.func44 (by kernel_rfl) (by kernel_rfl) ?_
  refine(HN1.out w' hb).mono ?_
  rintro e w2 ⟨h,hb2⟩
  rcases h with⟨x,u,B,U,hn,rfl,hu,hol⟩|⟨hn,rfl⟩
  ·exact .inl ⟨_,rfl,hK _ _ ⟨x,hn,RT.own hol HL1.out hn⟩ hb2⟩
  ·exact .inr ⟨_,rfl,hdf,HG2.out w2 (HB1.out hn) (hb.trans (hb2.mono hb.size))⟩
 ·intro a w' K hb hf hdf hd hK
  obtain⟨a0,hr0,hv0⟩:=(show∃n:Nat,numP s0=some n∧a.tmps.getD 7 undef= .int .i64 n from hd 3 (by decide) (by kernel_rfl))
  obtain⟨a1,hr1,hs1⟩:=(show∃l,rowsP s1=some l∧RT w' (a.tmps.getD 11 undef) (l.map intsN)from hd 7 (by decide) (by kernel_rfl))
  obtain⟨v1,hv1⟩:∃v1,a.tmps.getD 11 undef=v1:=⟨_,rfl⟩
  rw[hv1]at hs1
  obtain⟨pa,pc,pn,rfl,_,_,_⟩:=hs1.1.open
  replace hv0:=ev_tmp hv0
  replace hv1:=ev_tmp hv1
  have HS1:=hid (And.intro hr0 (And.intro hr1 hs1))
  clear hf hd hdf hr0 hr1 hs1
  refine ?_
  go_simp
  exact hK _ _ ⟨a0,a1,pa,pn,pc,HS1.out.1,HS1.out.2.1,HS1.out.2.2,rfl⟩ (Below.refl _ _)
 ·intro a w' K hb hf hdf hd hK
  clear hf hd hdf
  refine ?_
  go_simp
  exact hK _ _ ⟨w'.heap.size,rfl,hb.size,Arr.new w' _ _⟩ ((Below.refl _ _).alloc (Nat.le_refl _) _)
 rintro vals w8 ⟨hh0,hh1,hh2,hh3,hh4,hh5,hh6,hh7,hh8,hh9,_⟩ hb8
 clear hh0 hh1 hh2 hh3 hh4 hh5 hh6 hh7
 simp only[Nat.reduceAdd]at hh8 hh9
 simp only[putAll,Act.put,List.setIfInBounds_toArray,List.set_cons_zero,List.set_cons_succ,List.drop_succ_cons,List.drop_zero,List.length_cons,List.length_nil,Nat.reduceAdd]
 obtain⟨a0,a1,pa,pn,pc,hr0,hr1,hs1,hv8⟩:=hh8
 obtain⟨b,hv9,hb9,hA9⟩:=hh9
 rw[hv8,hv9]
 clear hv8 hv9
 have t1:w8.there b 0 (#[Value.int .i64 a0,.slice pa pn pc]).size:=hA9.there
 have hr4:Arr (w8.setCells b 0 [Value.int .i64 a0,.slice pa pn pc]) b 103 [Value.int .i64 a0,.slice pa pn pc]:=Arr.setCells _ [] [.int .i64 0,.slice none 0 0] _ hA9 rfl
 have hg4:=grown_setCells (b:=b) [Value.int .i64 a0,.slice pa pn pc] 0 w8
 have hb4:=hb8.grown hg4 hb8.size (fun k h=>by cases h;exact hb9)
 have H4:=hid (And.intro hr4 (And.intro hb4 (hs1.2 b _ 103 (by decide) (by decide) hA9 _ hg4)))
 have HR:=hid (And.intro hr0 hr1)
 have hone:=dsn_one a0 pa pn pc
 clear hr4 hg4 hb4 hb8 hs1 hr0 hr1 hA9
 go_wp2_with (first
  |(refine wpList_store_mid rfl 103 _ _ rfl b 0 #[Value.int .i64 a0,.slice pa pn pc] rfl rfl t1 i3 hone ?_;show wpList _ _ _ _ _ (w8.setCells b 0 [Value.int .i64 a0,.slice pa pn pc]);generalize (w8.setCells b 0 [Value.int .i64 a0,.slice pa pn pc])=w9 at H4⊢;clear t1 hone))
 have HH:=hid (fun(w':World) (hb:Below w9.heap.size w9 w')=>H4.out.2.1.trans (hb.mono H4.out.2.1.size))
 refine region_dagPL [13,14,15,16,17,18,19,20,21] [fun v _=>v= .agg #[.int .i64 a0,.slice pa pn pc],fun v _=>v= .slice (some ⟨g,o,none⟩) 3 c,fun v _=>v= .pointer (some ⟨g,o+2,none⟩),fun v _=>v= .string (str s2),fun v _=>∃n:Nat,numP s2=some n∧v= .int .i64 n,fun v _=>RCLev E X1 X2 a0 a1 s2 v,fun v _=>∃a2:Nat,numP s2=some a2∧v= .int .i64 (X1 a0 a1 a2),fun v _=>∃a2:Nat,numP s2=some a2∧v= .int .i64 (X2 a0 a1 a2),fun v _=>RELev E X1 X2 a0 a1 s2 v] (by kernel_rfl) (by kernel_rfl) rfl rfl ⟨Kp_eq _,Kp_eq _,Kp_eq _,Kp_eq _,fun v w1 w2 h _ hb=>h,fun v w1 w2 h _ hb=>h,fun v w1 w2 h _ hb=>h,fun v w1 w2 h _ hb=>h,fun v w1 w2 h _ hb=>h,trivial⟩ ⟨?_,?_,?_,?_,?_,?_,?_,?_,?_,trivial⟩ ?_
 ·intro a w' K hb hf hdf hd hK
  have h3:a.tmps[3]?.getD undef= .pointer (some ⟨b,0,none⟩):=ev_tmp (hf 3 rfl)
  have hc0:w'.cell? ⟨b,0,none⟩=some (.int .i64 a0):=(H4.out.1.below hb).cell 0
  have hc1:w'.cell? ⟨b,1,none⟩=some (.slice pa pn pc):=(H4.out.1.below hb).cell 1
  clear hf hd hdf
  refine ?_
  go_simp
  exact hK _ _ rfl (Below.refl _ _)
 ·intro a w' K hb hf hdf hd hK
  exact dag_move _ rfl (hK _ _ (hf 0 rfl) (Below.refl _ _))
 ·intro a w' K hb hf hdf hd hK
  have h3:a.tmps[14]?.getD undef= .slice (some ⟨g,o,none⟩) 3 c:=ev_tmp (hd 1 (by decide) (by kernel_rfl))
  clear hf hd hdf
  refine ?_
  go_simp
  exact hK _ _ rfl (Below.refl _ _)
 ·intro a w' K hb hf hdf hd hK
  have h3:a.tmps[15]?.getD undef= .pointer (some ⟨g,o+2,none⟩):=ev_tmp (hd 2 (by decide) (by kernel_rfl))
  have hcl:=HC2.out w' (HH.out w' hb)
  clear hf hd hdf
  refine ?_
  go_simp
  exact hK _ _ rfl (Below.refl _ _)
 ·intro a w' K hb hf hdf hd hK
  have h3:a.eval (.tmp 16)=_:=hd 3 (by decide) (by kernel_rfl)
  refine dag_callp _ _ _ #[_] rfl (by rw[List.map_toArray,List.map_cons,List.map_nil,h3]) _ Tryz.func33 (by kernel_rfl) (by kernel_rfl) ?_
  refine(HN2.out w' (HH.out w' hb)).mono ?_
  rintro e w2 ⟨h,hb2⟩
  rcases h with⟨x,hn,rfl⟩|⟨hn,rfl⟩
  ·exact .inl ⟨_,rfl,hK _ _ ⟨x,hn,rfl⟩ hb2⟩
  ·exact .inr ⟨_,rfl,hdf,HG2.out w2 (HB2.out hn) ((HH.out w' hb).trans (hb2.mono (HH.out w' hb).size))⟩
 ·intro a w' K hb hf hdf hd hK
  have hq0:a.eval (.tmp 13)=(.agg #[.int .i64 a0,.slice pa pn pc]):=hd 0 (by decide) (by kernel_rfl)
  obtain⟨a2,hr2,hv2⟩:=(show∃n:Nat,numP s2=some n∧a.tmps.getD 17 undef= .int .i64 n from hd 4 (by decide) (by kernel_rfl))
  have hq1:a.eval (.tmp 17)= .int .i64 a2:=hv2
  refine dag_callp _ _ _ #[_,_] rfl (by rw[List.map_toArray,List.map_cons,List.map_cons,List.map_nil,hq0,hq1]) _ Tryz.func119 (by kernel_rfl) (by kernel_rfl) ?_
  refine(HP.out a0 a1 a2 (.slice pa pn pc) w' (HWW.out w' (HH.out w' hb)) (numP_lt HR.out.1) ⟨H4.out.2.2.below hb,rowsP_lt HR.out.2⟩ (numP_lt hr2)).mono ?_
  rintro e w2 ⟨rfl,hz,hk,hb2⟩
  exact .inl ⟨_,rfl,hK _ _ ⟨a2,hr2,rfl,hz,hk⟩ hb2⟩
 ·intro a w' K hb hf hdf hd hK
  obtain⟨a2,hr2,h3,hz,hk⟩:=(show RCLev E X1 X2 a0 a1 s2 (a.tmps.getD 18 undef)from hd 5 (by decide) (by kernel_rfl))
  replace h3:=ev_tmp h3
  have HKK:=hid (And.intro hz hk)
  have HR2:=hid hr2
  clear hf hd hdf hz hk hr2
  refine ?_
  go_simp
  exact hK _ _ ⟨a2,HR2.out,rfl⟩ (Below.refl _ _)
 ·intro a w' K hb hf hdf hd hK
  obtain⟨a2,hr2,h3,hz,hk⟩:=(show RCLev E X1 X2 a0 a1 s2 (a.tmps.getD 18 undef)from hd 5 (by decide) (by kernel_rfl))
  replace h3:=ev_tmp h3
  have HKK:=hid (And.intro hz hk)
  have HR2:=hid hr2
  clear hf hd hdf hz hk hr2
  refine ?_
  go_simp
  exact hK _ _ ⟨a2,HR2.out,rfl⟩ (Below.refl _ _)
 ·intro a w' K hb hf hdf hd hK
  obtain⟨a2,hr2,h3,hz,hk⟩:=(show RCLev E X1 X2 a0 a1 s2 (a.tmps.getD 18 undef)from hd 5 (by decide) (by kernel_rfl))
  replace h3:=ev_tmp h3
  have HKK:=hid (And.intro hz hk)
  have HR2:=hid hr2
  clear hf hd hdf hz hk hr2
  refine ?_
  go_simp
  exact hK _ _ ⟨a2,HR2.out,rfl,HKK.out.1,HKK.out.2⟩ (Below.refl _ _)
 rintro vals2 w12 ⟨gg0,gg1,gg2,gg3,gg4,gg5,hx1,hx2,hxe,_⟩ hb12
 clear gg0 gg1 gg2 gg3 gg4 gg5
 simp only[Nat.reduceAdd]at hx1 hx2 hxe
 simp only[putAll,Act.put,List.setIfInBounds_toArray,List.set_cons_zero,List.set_cons_succ,List.drop_succ_cons,List.drop_zero,List.length_cons,List.length_nil,Nat.reduceAdd]
 obtain⟨a2,hr2,hve,⟨he0,he6⟩,hki⟩:=hxe
 obtain⟨b1,hb1,hv1⟩:=hx1
 cases hr2.symm.trans hb1
 obtain⟨b2,hb2,hv2⟩:=hx2
 cases hr2.symm.trans hb2
 rw[hv1,hv2,hve]
 have HB12:=hid (HH.out w12 hb12)
 have HT:=hid (both_int_int (X1 a0 a1 a2) (X2 a0 a1 a2) (E a0 a1 a2) w12 he0 he6 hki (HWW.out w12 HB12.out))
 have HAT:=hid (HAA.out a0 a1 a2 HR.out.1 HR.out.2 hr2)
 clear hb1 hb2 hr2 hv1 hv2 hve he0 he6 hki hb12
 generalize (if E a0 a1 a2=0 then Lib.itoa (X1 a0 a1 a2)++32::Lib.itoa (X2 a0 a1 a2)else errT (E a0 a1 a2))=AT at*
 go_wp2_with fail
 refine HT.out.mono ?_
 intro e w13 h13
 have HZ:=hid (HG3.out _ e w12 w13 HAT.out HB12.out h13)
 rcases h13.1 with rfl|rfl
 ·clear h13
  go_wp2
  exact HZ.out
 ·exact⟨rfl,HZ.out⟩
def sqR (n:Nat) (l:List Int):List (List Int):=(List.range n).map fun i=>(l.drop (i*n)).take n
theorem sq_one (p:Int) (a:Option Addr) (n c:Nat):(#[Value.int .i64 p,Value.slice a n c]:Array Value).all (·.oneCell')=true:=by simp[Value.oneCell']
theorem mul_lt_sq {t n:Nat} (h:t<n):t*n+n≤n*n:=by
 have:=Nat.mul_le_mul_right n (show t+1≤n by omega)
 rw[Nat.add_mul,Nat.one_mul]at this
 exact this
def sqV (b off c n:Nat) (m:Nat):List Value:=(List.range m).map fun i=> .slice (some ⟨b,off+i*n,none⟩) n (c-i*n)
theorem sqV_succ (b off c n m:Nat):sqV b off c n (m+1)=sqV b off c n m++[.slice (some ⟨b,off+m*n,none⟩) n (c-m*n)]:=by simp[sqV,List.range_succ]
theorem sqV_rl {w:World} {B:Nat} {v:Value} {b off c n:Nat} {l:List Int} (h:Ow 45 B w v (sqV b off c n n)) (hs:Sl w (.slice (some ⟨b,off,none⟩) (n*n) c) l) (hl:l.length=n*n) (hn:1≤n) (h1000:n≤1000):RL w v (sqR n l):=by
 obtain⟨g,c',rfl,hg1,hg2⟩:=h.form (by simp[sqV];omega)
 have hlen:(sqV b off c n n).length=n:=by simp[sqV]
 have hlen2:(sqR n l).length=n:=by simp[sqR]
 refine⟨some ⟨g,0,none⟩,c',by rw[hlen,hlen2],⟨by omega,by have:=h.cap.1;omega⟩,fun hp=>⟨g,0,rfl,hg2,fun i hi=> ?_⟩⟩
 rw[hlen2]at hi
 refine⟨.slice (some ⟨b,off+i*n,none⟩) n (c-i*n),?_,?_⟩
 ·rw[Nat.zero_add,h.cell i (by omega)]
  simp[sqV,hi]
 ·have hm:=mul_lt_sq hi
  have h9:=hs.mid (i:=i*n) (j:=i*n+n) (by omega) hm
  rw[show i*n+n-i*n=n by omega]at h9
  simpa [sqR,hi]using h9
def PkExt (E:Nat→List (List Nat)→Int) (C:Nat→List (List Nat)→List Int):Prop:=∀(a0:Nat) (a1:List (List Nat)) (v1:Value) (w1:World),RunW w1→a0<1000000000→RL w1 v1 (a1.map intsN)∧(∀m∈a1,∀x∈m,x<1000000000)→Calls Tryz.prog 117 #[.int .i64 a0,v1] w1 fun e w'=>∃(P:Int) (pa:Option Addr) (pn pc:Nat),e= .returned (.tuple #[.agg #[.int .i64 P,.slice pa pn pc],.int .i64 (E a0 a1)])∧(0≤E a0 a1∧E a0 a1≤6)∧(E a0 a1=0→P=a0∧(1≤a0∧a0≤1000)∧Sl w' (.slice pa pn pc) (C a0 a1)∧(∀x∈C a0 a1,I64 x)∧(C a0 a1).length=a0*a0)∧Below w1.heap.size w1 w'
def ansExt (E:Nat→List (List Nat)→Int) (C:Nat→List (List Nat)→List Int) (ts:List (List UInt8)):List UInt8:=((numP (ts.getD 0 [])).bind fun a0=>(rowsP (ts.getD 1 [])).bind fun a1=>some (if E a0 a1=0 then tellR (sqR a0 (C a0 a1))else errT (E a0 a1))).getD badT
theorem cmdExt (E:Nat→List (List Nat)→Int) (C:Nat→List (List Nat)→List Int) (HP0:PkExt E C) (ts:List (List UInt8)) (hts:ts.length=2) (v:Value) (w:World) (hW:RunW w) (hv:SS w v ts) (hl:∀t∈ts,t.length≤10000):
 Calls Tryz.prog 47 #[v] w (TE (ansExt E C ts) w):=by
 have HP:=hid HP0
 have HWW:=hid (fun(w1:World) (hb:Below w.heap.size w w1)=>hW.below hb)
 obtain⟨g,o,c,rfl,hg,hc⟩:=hv
 rw[hts]
 have HC0:Hid (∀w1:World,Below w.heap.size w w1→w1.cell? ⟨g,o,none⟩=some (.string (str (ts.getD 0 [])))):=hid (fun w1 hb=>(hb.cell (p:=⟨g,o+0,none⟩) hg).trans (hc 0 (by omega)))
 have HN0:=hid (fun(w1:World) (hb:Below w.heap.size w w1)=>number_any (ts.getD 0 []) w1 (getD_len hl 0) (hW.below hb))
 have HC1:Hid (∀w1:World,Below w.heap.size w w1→w1.cell? ⟨g,o+1,none⟩=some (.string (str (ts.getD 1 [])))):=hid (fun w1 hb=>(hb.cell (p:=⟨g,o+1,none⟩) hg).trans (hc 1 (by omega)))
 have HN1:=hid (fun(w1:World) (hb:Below w.heap.size w w1)=>rows_any (ts.getD 1 []) w1 (getD_len hl 1) (hW.below hb))
 have HA:Hid (ansExt E C ts=((numP (ts.getD 0 [])).bind fun a0=>(rowsP (ts.getD 1 [])).bind fun a1=>some (if E a0 a1=0 then tellR (sqR a0 (C a0 a1))else errT (E a0 a1))).getD badT):=hid rfl
 have i3:(Tryz.prog.info? 99).map (·.size)=some 2:=by kernel_rfl
 generalize ts.getD 0 []=s0 at*
 generalize ts.getD 1 []=s1 at*
 have HB0:Hid (numP s0=none→ansExt E C ts=badT):=hid (fun h=>by
  rw[HA.out,h]
  rfl)
 have HB1:Hid (rowsP s1=none→ansExt E C ts=badT):=hid (fun h=>by
  rw[HA.out,h]
  cases numP s0<;>rfl)
 have HAA:Hid (∀(a0:Nat) (a1:List (List Nat)),numP s0=some a0→rowsP s1=some a1→ansExt E C ts=if E a0 a1=0 then tellR (sqR a0 (C a0 a1))else errT (E a0 a1)):=hid (fun a0 a1 h0 h1=>by rw[HA.out,h0,h1];rfl)
 have HG2:Hid (∀w',ansExt E C ts=badT→Below w.heap.size w w'→TE (ansExt E C ts) w (badE [98,97,100]) w'):=hid (fun w' h hb=>by rw[h];exact TE.bad (A:=badT) hb)
 have HG3:=hid (fun A e w1 w' (h:ansExt E C ts=A) (hb:Below w.heap.size w w1) (ht:TE A w1 e w')=>(show TE (ansExt E C ts) w e w' by rw[h];exact ht.pre hb))
 clear hc hl hW
 generalize TE (ansExt E C ts) w=G at*
 go_enter Tryz.func47,Tryz.ntmps47
 go_wp2
 refine region_dagPL [9,10,11,12,13,14,15,16] [fun v _=>v= .slice (some ⟨g,o,none⟩) 2 c,fun v _=>v= .pointer (some ⟨g,o,none⟩),fun v _=>v= .string (str s0),fun v _=>∃n:Nat,numP s0=some n∧v= .int .i64 n,fun v _=>v= .slice (some ⟨g,o,none⟩) 2 c,fun v _=>v= .pointer (some ⟨g,o+1,none⟩),fun v _=>v= .string (str s1),fun v w'=>∃l,rowsP s1=some l∧RL w' v (l.map intsN)] (by kernel_rfl) (by kernel_rfl) rfl rfl ⟨Kp_eq _,Kp_eq _,Kp_eq _,fun v w1 w2 h _ hb=>h,Kp_eq _,Kp_eq _,Kp_eq _,fun v w1 w2 ⟨l,h1,h2⟩ _ hb=>⟨l,h1,h2.below hb⟩,trivial⟩ ⟨?_,?_,?_,?_,?_,?_,?_,?_,trivial⟩ ?_
 ·intro a w' K hb hf hdf hd hK
  exact dag_move _ rfl (hK _ _ (hf 0 rfl) (Below.refl _ _))
 ·intro a w' K hb hf hdf hd hK
  have h3:a.tmps[9]?.getD undef= .slice (some ⟨g,o,none⟩) 2 c:=ev_tmp (hd 0 (by decide) (by kernel_rfl))
  clear hf hd hdf
  refine ?_
  go_simp
  exact hK _ _ rfl (Below.refl _ _)
 ·intro a w' K hb hf hdf hd hK
  have h3:a.tmps[10]?.getD undef= .pointer (some ⟨g,o,none⟩):=ev_tmp (hd 1 (by decide) (by kernel_rfl))
  have hcl:=HC0.out w' hb
  clear hf hd hdf
  refine ?_
  go_simp
  exact hK _ _ rfl (Below.refl _ _)
 ·intro a w' K hb hf hdf hd hK
  have h3:a.eval (.tmp 11)=_:=hd 2 (by decide) (by kernel_rfl)
  refine dag_callp _ _ _ #[_] rfl (by rw[List.map_toArray,List.map_cons,List.map_nil,h3]) _ Tryz.func33 (by kernel_rfl) (by kernel_rfl) ?_
  refine(HN0.out w' hb).mono ?_
  rintro e w2 ⟨h,hb2⟩
  rcases h with⟨x,hn,rfl⟩|⟨hn,rfl⟩
  ·exact .inl ⟨_,rfl,hK _ _ ⟨x,hn,rfl⟩ hb2⟩
  ·exact .inr ⟨_,rfl,hdf,HG2.out w2 (HB0.out hn) (hb.trans (hb2.mono hb.size))⟩
 ·intro a w' K hb hf hdf hd hK
  exact dag_move _ rfl (hK _ _ (hf 0 rfl) (Below.refl _ _))
 ·intro a w' K hb hf hdf hd hK
  have h3:a.tmps[13]?.getD undef= .slice (some ⟨g,o,none⟩) 2 c:=ev_tmp (hd 4 (by decide) (by kernel_rfl))
  clear hf hd hdf
  refine ?_
  go_simp
  exact hK _ _ rfl (Below.refl _ _)
 ·intro a w' K hb hf hdf hd hK
  have h3:a.tmps[14]?.getD undef= .pointer (some ⟨g,o+1,none⟩):=ev_tmp (hd 5 (by decide) (by kernel_rfl))
  have hcl:=HC1.out w' hb
  clear hf hd hdf
  refine ?_
  go_simp
  exact hK _ _ rfl (Below.refl _ _)
 ·intro a w' K hb hf hdf hd hK
  have h3:a.eval (.tmp 15)=_:=hd 6 (by decide) (by kernel_rfl)
  refine dag_callp _ _ _ #[_] rfl (by rw[List.map_toArray,List.map_cons,List.map_nil,h3]) _ Tryz.func44 (by kernel_rfl) (by kernel_rfl) ?_
  refine(HN1.out w' hb).mono ?_
  rintro e w2 ⟨h,hb2⟩
  rcases h with⟨x,u,hn,rfl,hu⟩|⟨hn,rfl⟩
  ·exact .inl ⟨_,rfl,hK _ _ ⟨x,hn,hu⟩ hb2⟩
  ·exact .inr ⟨_,rfl,hdf,HG2.out w2 (HB1.out hn) (hb.trans (hb2.mono hb.size))⟩
 rintro vals w8 ⟨hh0,hh1,hh2,hh3,hh4,hh5,hh6,hh7,_⟩ hb8
 clear hh0 hh1 hh2 hh4 hh5 hh6
 simp only[Nat.reduceAdd]at hh3 hh7
 simp only[putAll,Act.put,List.setIfInBounds_toArray,List.set_cons_zero,List.set_cons_succ,List.drop_succ_cons,List.drop_zero,List.length_cons,List.length_nil,Nat.reduceAdd]
 obtain⟨a0,hr0,hv0⟩:=hh3
 rw[hv0]
 clear hv0
 obtain⟨a1,hr1,hs1⟩:=hh7
 obtain⟨v1,hv1⟩:∃v1,vals 7=v1:=⟨_,rfl⟩
 rw[hv1]at hs1⊢
 clear hv1
 have HQ:=hid (HP.out a0 a1 v1 w8 (HWW.out w8 hb8) (numP_lt hr0) ⟨hs1,rowsP_lt hr1⟩)
 have HB8:=hid hb8
 have HAT:=hid (HAA.out a0 a1 hr0 hr1)
 clear hb8 hr0 hr1 hs1
 go_wp2_with fail
 refine HQ.out.mono ?_
 rintro e w9 ⟨P,pa,pn,pc,rfl,⟨he0,he6⟩,hok,hb9⟩
 have hN:Arr (w9.alloc (.cells #[.int .i64 0,.slice none 0 0] 99)) w9.heap.size 99 ([]++[.int .i64 0,.slice none 0 0]):=Arr.new w9 _ _
 have t1:(w9.alloc (.cells #[.int .i64 0,.slice none 0 0] 99)).there w9.heap.size 0 (#[Value.int .i64 P,.slice pa pn pc]).size:=hN.there
 have hr4:Arr ((w9.alloc (.cells #[.int .i64 0,.slice none 0 0] 99)).setCells w9.heap.size 0 [Value.int .i64 P,.slice pa pn pc]) w9.heap.size 99 [Value.int .i64 P,.slice pa pn pc]:=Arr.setCells _ [] [.int .i64 0,.slice none 0 0] _ hN rfl
 have hg4:=grown_setCells (b:=w9.heap.size) [Value.int .i64 P,.slice pa pn pc] 0 (w9.alloc (.cells #[.int .i64 0,.slice none 0 0] 99))
 have hb4:=((Below.refl w9.heap.size w9).alloc (Nat.le_refl _) (.cells #[.int .i64 0,.slice none 0 0] 99)).grown hg4 (by simp) (fun k h=>by cases h;omega)
 have H4:=hid (And.intro hr4 hb4)
 have HOK:=hid hok
 have HB9:=hid (HB8.out.trans (hb9.mono HB8.out.size))
 have hone:=sq_one P pa pn pc
 clear hN hr4 hg4 hb4 hok hb9 HQ
 go_wp2_with (first
  |(refine wpList_store_mid rfl 99 _ _ rfl w9.heap.size 0 #[Value.int .i64 P,.slice pa pn pc] rfl rfl t1 i3 hone ?_;show wpList _ _ _ _ _ ((w9.alloc (.cells #[.int .i64 0,.slice none 0 0] 99)).setCells w9.heap.size 0 [Value.int .i64 P,.slice pa pn pc]);generalize ((w9.alloc (.cells #[.int .i64 0,.slice none 0 0] 99)).setCells w9.heap.size 0 [Value.int .i64 P,.slice pa pn pc])=w10 at H4⊢;clear t1 hone))
 by_cases hE:E a0 a1=0
 ·rw[hE]
  obtain⟨rfl,⟨hn1,hn1000⟩,hsl,h64,hlen⟩:=HOK.out hE
  have HC:=hid (check_ok w10)
  have HAT2:=hid (HAT.out.trans (if_pos hE))
  have hsl10:=hsl.below H4.out.2
  clear HOK HAT he0 he6 hsl hE
  go_wp2_with fail
  refine HC.out.mono ?_
  rintro e w11 ⟨rfl,hb11⟩
  have hsl11:=hsl10.below hb11
  have hA11:=H4.out.1.below hb11
  have hb12:=H4.out.2.trans (hb11.mono H4.out.2.size)
  have HB11:=hid (HB9.out.trans (hb12.mono HB9.out.size))
  clear hb11 hb12 hsl10 HC
  generalize C a0 a1=L at*
  obtain⟨pa',pc',he,⟨hc1,hc2⟩,hcc⟩:=hsl11.out
  simp only[Value.slice.injEq]at he
  obtain⟨rfl,rfl,rfl⟩:=he
  have hpos:0<a0*a0:=Nat.mul_pos hn1 hn1
  obtain⟨b,off,rfl,hbl,hcl⟩:=hcc (by omega)
  rw[hlen]at hsl11 hA11 hc2⊢
  have HL:=hid hlen
  have H64:=hid h64
  have HSL:=hid hsl11
  have HA:=hid hA11
  clear hcl hsl11 hlen h64 hc1
  have q0:w11.cell? ⟨w9.heap.size,0,none⟩=some (.int .i64 a0):=HA.out.cell 0
  obtain⟨N2,hN2⟩:∃N2,a0*a0=N2:=⟨_,rfl⟩
  go_wp2
  go_loopw [7,8,27] (fun lv _ iv wr=>∃t:Nat,iv= .int .i64 t∧t≤a0∧Ow 45 w11.heap.size wr lv (sqV b off pc a0 t)∧Below w11.heap.size w11 wr) (fun _ _ iv _=>a0-(intOf iv).toNat)
  case atStart=>exact⟨0,rfl,Nat.zero_le _,Ow.nil _ _ _,Below.refl _ _⟩
  case round=>
   clear q0
   obtain⟨t,rfl,ht,hown,hb⟩:=hrel
   have hw11:=hb.size
   by_cases htn:t<a0
   ·have hti:(t:Int)<(a0:Int):=by omega
    have hm:=mul_lt_sq htn
    obtain⟨lo,hlo⟩:∃lo,t*a0=lo:=⟨_,rfl⟩
    have m1:(t:Int)*(a0:Int)=(lo:Int):=by rw[←hlo];push_cast;rfl
    have m2:((t:Int)+1)*(a0:Int)=(lo:Int)+(a0:Int):=by rw[Int.add_mul,m1,Int.one_mul]
    rw[hlo]at hm
    have hsq:a0*a0≤1000000:=Nat.mul_le_mul hn1000 hn1000
    have q0:wr.cell? ⟨w9.heap.size,0,none⟩=some (.int .i64 a0):=(HA.out.below hb).cell 0
    have q1:wr.cell? ⟨w9.heap.size,1,none⟩=some (.slice (some ⟨b,off,none⟩) (a0*a0) pc):=(HA.out.below hb).cell 1
    have HLO:=hid hlo
    have HB:=hid hb
    have hvs:(sqV b off pc a0 t).length≤1000000000000:=by simp[sqV];omega
    have hvl:(sqV b off pc a0 t).length=t:=by simp[sqV]
    clear hlo hb
    go_wp2_with (at_builtin;refine wpList_app wr _ _ 46 45 (.slice none 0 0) 24 rfl rfl Tryz.underlying46 Tryz.info45 rfl (by decide) w11.heap.size _ (sqV b off pc a0 t) rfl hown rfl rfl hvs hw11 ?_;intro g3 c3 w13 hown1 hg1 hg2 hg3)
    go_roundw
    case rel=>
     have h9:=hown1
     rw[hvl]at h9
     refine⟨t+1,by go_num,by omega,?_,HB.out.grown hg1 hw11 (fun b e=>(hown.lt b e).1)⟩
     rw[sqV_succ,HLO.out]
     simpa using h9
    case measure=>simp[intOf]<;>omega
   ·obtain rfl:t=a0:=by omega
    have hti:¬(t:Int)<(t:Int):=by omega
    have hrl:=sqV_rl hown (HSL.out.below hb) HL.out hn1 hn1000
    obtain⟨ra,rc,rn,rfl,_,_,_⟩:=hrl.open
    have HT:=hid (fun(w1:World) (hb1:Below wr.heap.size wr w1)=>tell_rows _ (sqR t L) w1 (hrl.below hb1) (fun l hl=>by
     simp only[sqR,List.mem_map,List.mem_range]at hl
     obtain⟨i,hi,rfl⟩:=hl
     refine⟨fun x hx=>H64.out x (List.mem_of_mem_drop (List.mem_of_mem_take hx)),by rw[List.length_take];omega⟩) (by simp[sqR];omega) (HWW.out w1 ((HB11.out.trans (hb.mono HB11.out.size)).trans (hb1.mono (HB11.out.trans (hb.mono HB11.out.size)).size))))
    have HBr:=hid (HB11.out.trans (hb.mono HB11.out.size))
    have HTT:=hid (HT.out wr (Below.refl _ _))
    clear hown hrl hb HT
    go_wp2_with fail
    refine HTT.out.mono ?_
    rintro e w14 ⟨rfl,hb14⟩
    have HZ:=hid (HG3.out _ _ wr w14 HAT2.out HBr.out (TE.ret hb14))
    clear hb14
    go_wp2
    exact HZ.out
 ·have HC:=hid (check_bad (E a0 a1) (by omega) he6 w10)
  have HAT2:=hid (HAT.out.trans (if_neg hE))
  clear HOK HAT he0 he6 hE
  go_wp2_with fail
  refine HC.out.mono ?_
  rintro e w11 ⟨rfl,hb11⟩
  have HB11:=hid (HB9.out.trans ((H4.out.2.trans (hb11.mono H4.out.2.size)).mono HB9.out.size))
  exact⟨rfl,HG3.out _ _ w w11 HAT2.out (Below.refl _ _) (TE.bad HB11.out)⟩
end Go.Proofs.YtnnaadmegeeinaaGreatDoor
