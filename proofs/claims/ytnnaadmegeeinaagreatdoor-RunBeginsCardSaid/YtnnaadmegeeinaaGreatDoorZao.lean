/-
  Part 41 of a proof: what it proves stands in the last text.
-/
import Derived.Test.YtnnaadmegeeinaaGreatDoorZam
import Derived.Test.YtnnaadmegeeinaaGreatDoorZm
set_option linter.unusedVariables false
set_option maxHeartbeats 8000000
set_option maxRecDepth 100000
namespace Go.Proofs.YtnnaadmegeeinaaGreatDoor
open Go.RowKit
def SS (w:World) (v:Value) (ts:List (List UInt8)):Prop:=∃g o c,v= .slice (some ⟨g,o,none⟩) ts.length c∧g<w.heap.size∧∀i,i<ts.length→w.cell? ⟨g,o+i,none⟩=some (.string (str (ts.getD i [])))
theorem SS.below {w w':World} {v:Value} {ts:List (List UInt8)} (h:SS w v ts) (hb:Below w.heap.size w w'):SS w' v ts:=by
 obtain⟨g,o,c,e,hg,hc⟩:=h
 exact⟨g,o,c,e,Nat.lt_of_lt_of_le hg hb.size,fun i hi=>(hb.cell (p:=⟨g,o+i,none⟩) hg).trans (hc i hi)⟩
theorem getD_len {ts:List (List UInt8)} (h:∀t∈ts,t.length≤10000) (i:Nat):(ts.getD i []).length≤10000:=by
 rw[List.getD_eq_getElem?_getD]
 cases e:ts[i]? with
 |none=>simp
 |some t=>exact h t (List.mem_of_getElem? e)
theorem numsP_lt {s:List UInt8} {l:List Nat} (h:numsP s=some l):∀x∈l,x<1000000000:=fun x hx=>by
 unfold numsP at h
 split at h
 ·cases h;cases hx
 ·obtain⟨y,_,e⟩:=mapM_mem h x hx
  exact numP_lt e
theorem rowsP_lt {s:List UInt8} {l:List (List Nat)} (h:rowsP s=some l):∀m∈l,∀x∈m,x<1000000000:=fun m hm x hx=>by
 unfold rowsP at h
 split at h
 ·cases h;cases hm
 ·obtain⟨y,_,e⟩:=mapM_mem h m hm
  split at e
  ·cases e
  ·exact numsP_lt e x hx
def badT:List UInt8:=[98,97,100]
def ansRow (E:Nat→List Nat→List Nat→Nat→Int) (X0:Nat→List Nat→List Nat→Nat→List Int) (ts:List (List UInt8)):List UInt8:=((numP (ts.getD 0 [])).bind fun a0=>(numsP (ts.getD 1 [])).bind fun a1=>(numsP (ts.getD 2 [])).bind fun a2=>(numP (ts.getD 3 [])).bind fun a3=>some (if E a0 a1 a2 a3=0 then tellI (X0 a0 a1 a2 a3)else errT (E a0 a1 a2 a3))).getD badT
def PkRow (E:Nat→List Nat→List Nat→Nat→Int) (X0:Nat→List Nat→List Nat→Nat→List Int):Prop:=∀(a0:Nat) (a1:List Nat) (a2:List Nat) (a3:Nat) (v1:Value) (v2:Value) (w1:World),RunW w1→a0<1000000000→Sl w1 v1 (intsN a1)∧(∀x∈a1,x<1000000000)∧a1.length≤10001→Sl w1 v2 (intsN a2)∧(∀x∈a2,x<1000000000)∧a2.length≤10001→a3<1000000000→Calls Tryz.prog 32 #[.int .i64 a0,v1,v2,.int .i64 a3] w1 fun e w'=>∃u0:Value,e= .returned (.tuple #[u0,.int .i64 (E a0 a1 a2 a3)])∧(0≤E a0 a1 a2 a3∧E a0 a1 a2 a3≤6)∧(E a0 a1 a2 a3=0→(Sl w' u0 (X0 a0 a1 a2 a3)∧(∀x∈X0 a0 a1 a2 a3,I64 x)∧(X0 a0 a1 a2 a3).length≤10000))∧(∃pa pn pc,u0= .slice pa pn pc)∧Below w1.heap.size w1 w'
def RCRow (E:Nat→List Nat→List Nat→Nat→Int) (X0:Nat→List Nat→List Nat→Nat→List Int) (s0 s1 s2 s3:List UInt8) (v:Value) (w':World):Prop:=∃(a0:Nat) (a1:List Nat) (a2:List Nat) (a3:Nat),∃u0:Value,numP s0=some a0∧numsP s1=some a1∧numsP s2=some a2∧numP s3=some a3∧v= .tuple #[u0,.int .i64 (E a0 a1 a2 a3)]∧(0≤E a0 a1 a2 a3∧E a0 a1 a2 a3≤6)∧(E a0 a1 a2 a3=0→(Sl w' u0 (X0 a0 a1 a2 a3)∧(∀x∈X0 a0 a1 a2 a3,I64 x)∧(X0 a0 a1 a2 a3).length≤10000))∧(∃pa pn pc,u0= .slice pa pn pc)
def RXRow0 (E:Nat→List Nat→List Nat→Nat→Int) (X0:Nat→List Nat→List Nat→Nat→List Int) (s0 s1 s2 s3:List UInt8) (v:Value) (w':World):Prop:=∃(a0:Nat) (a1:List Nat) (a2:List Nat) (a3:Nat),numP s0=some a0∧numsP s1=some a1∧numsP s2=some a2∧numP s3=some a3∧(∃pa pn pc,v= .slice pa pn pc)∧(E a0 a1 a2 a3=0→(Sl w' v (X0 a0 a1 a2 a3)∧(∀x∈X0 a0 a1 a2 a3,I64 x)∧(X0 a0 a1 a2 a3).length≤10000))
def RERow (E:Nat→List Nat→List Nat→Nat→Int) (X0:Nat→List Nat→List Nat→Nat→List Int) (s0 s1 s2 s3:List UInt8) (v:Value):Prop:=∃(a0:Nat) (a1:List Nat) (a2:List Nat) (a3:Nat),numP s0=some a0∧numsP s1=some a1∧numsP s2=some a2∧numP s3=some a3∧v= .int .i64 (E a0 a1 a2 a3)∧(0≤E a0 a1 a2 a3∧E a0 a1 a2 a3≤6)∧(E a0 a1 a2 a3=0→True)
theorem cmdRow (E:Nat→List Nat→List Nat→Nat→Int) (X0:Nat→List Nat→List Nat→Nat→List Int) (HP0:PkRow E X0) (ts:List (List UInt8)) (hts:ts.length=4) (v:Value) (w:World) (hW:RunW w) (hv:SS w v ts) (hl:∀t∈ts,t.length≤10000):
 Calls Tryz.prog 30 #[v] w (TE (ansRow E X0 ts) w):=by
 have HP:=hid HP0
 have HWW:=hid (fun(w1:World) (hb:Below w.heap.size w w1)=>hW.below hb)
 obtain⟨g,o,c,rfl,hg,hc⟩:=hv
 rw[hts]
 have HC0:Hid (∀w1:World,Below w.heap.size w w1→w1.cell? ⟨g,o,none⟩=some (.string (str (ts.getD 0 [])))):=hid (fun w1 hb=>(hb.cell (p:=⟨g,o+0,none⟩) hg).trans (hc 0 (by omega)))
 have HN0:=hid (fun(w1:World) (hb:Below w.heap.size w w1)=>number_any (ts.getD 0 []) w1 (getD_len hl 0) (hW.below hb))
 have HC1:Hid (∀w1:World,Below w.heap.size w w1→w1.cell? ⟨g,o+1,none⟩=some (.string (str (ts.getD 1 [])))):=hid (fun w1 hb=>(hb.cell (p:=⟨g,o+1,none⟩) hg).trans (hc 1 (by omega)))
 have HN1:=hid (fun(w1:World) (hb:Below w.heap.size w w1)=>numbers_any (ts.getD 1 []) w1 (getD_len hl 1) (hW.below hb))
 have HLS1:=hid (getD_len hl 1)
 have HC2:Hid (∀w1:World,Below w.heap.size w w1→w1.cell? ⟨g,o+2,none⟩=some (.string (str (ts.getD 2 [])))):=hid (fun w1 hb=>(hb.cell (p:=⟨g,o+2,none⟩) hg).trans (hc 2 (by omega)))
 have HN2:=hid (fun(w1:World) (hb:Below w.heap.size w w1)=>numbers_any (ts.getD 2 []) w1 (getD_len hl 2) (hW.below hb))
 have HLS2:=hid (getD_len hl 2)
 have HC3:Hid (∀w1:World,Below w.heap.size w w1→w1.cell? ⟨g,o+3,none⟩=some (.string (str (ts.getD 3 [])))):=hid (fun w1 hb=>(hb.cell (p:=⟨g,o+3,none⟩) hg).trans (hc 3 (by omega)))
 have HN3:=hid (fun(w1:World) (hb:Below w.heap.size w w1)=>number_any (ts.getD 3 []) w1 (getD_len hl 3) (hW.below hb))
 have HA:Hid (ansRow E X0 ts=((numP (ts.getD 0 [])).bind fun a0=>(numsP (ts.getD 1 [])).bind fun a1=>(numsP (ts.getD 2 [])).bind fun a2=>(numP (ts.getD 3 [])).bind fun a3=>some (if E a0 a1 a2 a3=0 then tellI (X0 a0 a1 a2 a3)else errT (E a0 a1 a2 a3))).getD badT):=hid rfl
 generalize ts.getD 0 []=s0 at*
 generalize ts.getD 1 []=s1 at*
 generalize ts.getD 2 []=s2 at*
 generalize ts.getD 3 []=s3 at*
 have HB0:Hid (numP s0=none→ansRow E X0 ts=badT):=hid (fun h=>by
  rw[HA.out,h]
  rfl)
 have HB1:Hid (numsP s1=none→ansRow E X0 ts=badT):=hid (fun h=>by
  rw[HA.out,h]
  cases numP s0<;>rfl)
 have HB2:Hid (numsP s2=none→ansRow E X0 ts=badT):=hid (fun h=>by
  rw[HA.out,h]
  cases numP s0<;>cases numsP s1<;>rfl)
 have HB3:Hid (numP s3=none→ansRow E X0 ts=badT):=hid (fun h=>by
  rw[HA.out,h]
  cases numP s0<;>cases numsP s1<;>cases numsP s2<;>rfl)
 have HAA:Hid (∀(a0:Nat) (a1:List Nat) (a2:List Nat) (a3:Nat),numP s0=some a0→numsP s1=some a1→numsP s2=some a2→numP s3=some a3→ansRow E X0 ts=if E a0 a1 a2 a3=0 then tellI (X0 a0 a1 a2 a3)else errT (E a0 a1 a2 a3)):=hid (fun a0 a1 a2 a3 h0 h1 h2 h3=>by rw[HA.out,h0,h1,h2,h3];rfl)
 have HG2:Hid (∀w',ansRow E X0 ts=badT→Below w.heap.size w w'→TE (ansRow E X0 ts) w (badE [98,97,100]) w'):=hid (fun w' h hb=>by rw[h];exact TE.bad (A:=badT) hb)
 have HG3:=hid (fun A e w1 w' (h:ansRow E X0 ts=A) (hb:Below w.heap.size w w1) (ht:TE A w1 e w')=>(show TE (ansRow E X0 ts) w e w' by rw[h];exact ht.pre hb))
 clear hc hl hW
 generalize TE (ansRow E X0 ts) w=G at*
 go_enter Tryz.func30,Tryz.ntmps30
 go_wp2
 refine region_dagPL [3,4,5,6,7,8,9,10,11,12,13,14,15,16,17,18,19,20,21] [fun v _=>v= .slice (some ⟨g,o,none⟩) 4 c,fun v _=>v= .pointer (some ⟨g,o,none⟩),fun v _=>v= .string (str s0),fun v _=>∃n:Nat,numP s0=some n∧v= .int .i64 n,fun v _=>v= .slice (some ⟨g,o,none⟩) 4 c,fun v _=>v= .pointer (some ⟨g,o+1,none⟩),fun v _=>v= .string (str s1),fun v w'=>∃l,numsP s1=some l∧Sl w' v (intsN l),fun v _=>v= .slice (some ⟨g,o,none⟩) 4 c,fun v _=>v= .pointer (some ⟨g,o+2,none⟩),fun v _=>v= .string (str s2),fun v w'=>∃l,numsP s2=some l∧Sl w' v (intsN l),fun v _=>v= .slice (some ⟨g,o,none⟩) 4 c,fun v _=>v= .pointer (some ⟨g,o+3,none⟩),fun v _=>v= .string (str s3),fun v _=>∃n:Nat,numP s3=some n∧v= .int .i64 n,fun v w'=>RCRow E X0 s0 s1 s2 s3 v w',fun v w'=>RXRow0 E X0 s0 s1 s2 s3 v w',fun v _=>RERow E X0 s0 s1 s2 s3 v] (by kernel_rfl) (by kernel_rfl) rfl rfl ⟨Kp_eq _,Kp_eq _,Kp_eq _,fun v w1 w2 h _ hb=>h,Kp_eq _,Kp_eq _,Kp_eq _,fun v w1 w2 ⟨l,h1,h2⟩ _ hb=>⟨l,h1,h2.below hb⟩,Kp_eq _,Kp_eq _,Kp_eq _,fun v w1 w2 ⟨l,h1,h2⟩ _ hb=>⟨l,h1,h2.below hb⟩,Kp_eq _,Kp_eq _,Kp_eq _,fun v w1 w2 h _ hb=>h,fun v w1 w2 ⟨a0,a1,a2,a3,u0,hr0,hr1,hr2,hr3,he,hz,hk,hs⟩ _ hb=>⟨a0,a1,a2,a3,u0,hr0,hr1,hr2,hr3,he,hz,fun h0=>(let j0:=hk h0;⟨j0.1.below hb,j0.2⟩),hs⟩,fun v w1 w2 ⟨a0,a1,a2,a3,hr0,hr1,hr2,hr3,hs,hk⟩ _ hb=>⟨a0,a1,a2,a3,hr0,hr1,hr2,hr3,hs,fun h0=>⟨(hk h0).1.below hb,(hk h0).2⟩⟩,fun v w1 w2 h _ hb=>h,trivial⟩ ⟨?_,?_,?_,?_,?_,?_,?_,?_,?_,?_,?_,?_,?_,?_,?_,?_,?_,?_,?_,trivial⟩ ?_
 ·intro a w' K hb hf hdf hd hK
  exact dag_move _ rfl (hK _ _ (hf 0 rfl) (Below.refl _ _))
 ·intro a w' K hb hf hdf hd hK
  have h3:a.tmps[3]?.getD undef= .slice (some ⟨g,o,none⟩) 4 c:=ev_tmp (hd 0 (by decide) (by kernel_rfl))
  clear hf hd hdf
  refine ?_
  go_simp
  exact hK _ _ rfl (Below.refl _ _)
 ·intro a w' K hb hf hdf hd hK
  have h3:a.tmps[4]?.getD undef= .pointer (some ⟨g,o,none⟩):=ev_tmp (hd 1 (by decide) (by kernel_rfl))
  have hcl:=HC0.out w' hb
  clear hf hd hdf
  refine ?_
  go_simp
  exact hK _ _ rfl (Below.refl _ _)
 ·intro a w' K hb hf hdf hd hK
  have h3:a.eval (.tmp 5)=_:=hd 2 (by decide) (by kernel_rfl)
  refine dag_callp _ _ _ #[_] rfl (by rw[List.map_toArray,List.map_cons,List.map_nil,h3]) _ Tryz.func33 (by kernel_rfl) (by kernel_rfl) ?_
  refine(HN0.out w' hb).mono ?_
  rintro e w2 ⟨h,hb2⟩
  rcases h with⟨x,hn,rfl⟩|⟨hn,rfl⟩
  ·exact .inl ⟨_,rfl,hK _ _ ⟨x,hn,rfl⟩ hb2⟩
  ·exact .inr ⟨_,rfl,hdf,HG2.out w2 (HB0.out hn) (hb.trans (hb2.mono hb.size))⟩
 ·intro a w' K hb hf hdf hd hK
  exact dag_move _ rfl (hK _ _ (hf 0 rfl) (Below.refl _ _))
 ·intro a w' K hb hf hdf hd hK
  have h3:a.tmps[7]?.getD undef= .slice (some ⟨g,o,none⟩) 4 c:=ev_tmp (hd 4 (by decide) (by kernel_rfl))
  clear hf hd hdf
  refine ?_
  go_simp
  exact hK _ _ rfl (Below.refl _ _)
 ·intro a w' K hb hf hdf hd hK
  have h3:a.tmps[8]?.getD undef= .pointer (some ⟨g,o+1,none⟩):=ev_tmp (hd 5 (by decide) (by kernel_rfl))
  have hcl:=HC1.out w' hb
  clear hf hd hdf
  refine ?_
  go_simp
  exact hK _ _ rfl (Below.refl _ _)
 ·intro a w' K hb hf hdf hd hK
  have h3:a.eval (.tmp 9)=_:=hd 6 (by decide) (by kernel_rfl)
  refine dag_callp _ _ _ #[_] rfl (by rw[List.map_toArray,List.map_cons,List.map_nil,h3]) _ Tryz.func34 (by kernel_rfl) (by kernel_rfl) ?_
  refine(HN1.out w' hb).mono ?_
  rintro e w2 ⟨h,hb2⟩
  rcases h with⟨x,u,hn,rfl,hu⟩|⟨hn,rfl⟩
  ·exact .inl ⟨_,rfl,hK _ _ ⟨x,hn,hu.sl (by rw[List.length_map];have:=numsP_len hn;have:=HLS1.out;omega)⟩ hb2⟩
  ·exact .inr ⟨_,rfl,hdf,HG2.out w2 (HB1.out hn) (hb.trans (hb2.mono hb.size))⟩
 ·intro a w' K hb hf hdf hd hK
  exact dag_move _ rfl (hK _ _ (hf 0 rfl) (Below.refl _ _))
 ·intro a w' K hb hf hdf hd hK
  have h3:a.tmps[11]?.getD undef= .slice (some ⟨g,o,none⟩) 4 c:=ev_tmp (hd 8 (by decide) (by kernel_rfl))
  clear hf hd hdf
  refine ?_
  go_simp
  exact hK _ _ rfl (Below.refl _ _)
 ·intro a w' K hb hf hdf hd hK
  have h3:a.tmps[12]?.getD undef= .pointer (some ⟨g,o+2,none⟩):=ev_tmp (hd 9 (by decide) (by kernel_rfl))
  have hcl:=HC2.out w' hb
  clear hf hd hdf
  refine ?_
  go_simp
  exact hK _ _ rfl (Below.refl _ _)
 ·intro a w' K hb hf hdf hd hK
  have h3:a.eval (.tmp 13)=_:=hd 10 (by decide) (by kernel_rfl)
  refine dag_callp _ _ _ #[_] rfl (by rw[List.map_toArray,List.map_cons,List.map_nil,h3]) _ Tryz.func34 (by kernel_rfl) (by kernel_rfl) ?_
  refine(HN2.out w' hb).mono ?_
  rintro e w2 ⟨h,hb2⟩
  rcases h with⟨x,u,hn,rfl,hu⟩|⟨hn,rfl⟩
  ·exact .inl ⟨_,rfl,hK _ _ ⟨x,hn,hu.sl (by rw[List.length_map];have:=numsP_len hn;have:=HLS2.out;omega)⟩ hb2⟩
  ·exact .inr ⟨_,rfl,hdf,HG2.out w2 (HB2.out hn) (hb.trans (hb2.mono hb.size))⟩
 ·intro a w' K hb hf hdf hd hK
  exact dag_move _ rfl (hK _ _ (hf 0 rfl) (Below.refl _ _))
 ·intro a w' K hb hf hdf hd hK
  have h3:a.tmps[15]?.getD undef= .slice (some ⟨g,o,none⟩) 4 c:=ev_tmp (hd 12 (by decide) (by kernel_rfl))
  clear hf hd hdf
  refine ?_
  go_simp
  exact hK _ _ rfl (Below.refl _ _)
 ·intro a w' K hb hf hdf hd hK
  have h3:a.tmps[16]?.getD undef= .pointer (some ⟨g,o+3,none⟩):=ev_tmp (hd 13 (by decide) (by kernel_rfl))
  have hcl:=HC3.out w' hb
  clear hf hd hdf
  refine ?_
  go_simp
  exact hK _ _ rfl (Below.refl _ _)
 ·intro a w' K hb hf hdf hd hK
  have h3:a.eval (.tmp 17)=_:=hd 14 (by decide) (by kernel_rfl)
  refine dag_callp _ _ _ #[_] rfl (by rw[List.map_toArray,List.map_cons,List.map_nil,h3]) _ Tryz.func33 (by kernel_rfl) (by kernel_rfl) ?_
  refine(HN3.out w' hb).mono ?_
  rintro e w2 ⟨h,hb2⟩
  rcases h with⟨x,hn,rfl⟩|⟨hn,rfl⟩
  ·exact .inl ⟨_,rfl,hK _ _ ⟨x,hn,rfl⟩ hb2⟩
  ·exact .inr ⟨_,rfl,hdf,HG2.out w2 (HB3.out hn) (hb.trans (hb2.mono hb.size))⟩
 ·intro a w' K hb hf hdf hd hK
  obtain⟨a0,hr0,hv0⟩:=(show∃n:Nat,numP s0=some n∧a.tmps.getD 6 undef= .int .i64 n from hd 3 (by decide) (by kernel_rfl))
  have hq0:a.eval (.tmp 6)= .int .i64 a0:=hv0
  obtain⟨a1,hr1,hs1⟩:=(show∃l,numsP s1=some l∧Sl w' (a.tmps.getD 10 undef) (intsN l)from hd 7 (by decide) (by kernel_rfl))
  obtain⟨v1,hv1⟩:∃v1,a.tmps.getD 10 undef=v1:=⟨_,rfl⟩
  rw[hv1]at hs1
  have hq1:a.eval (.tmp 10)=v1:=hv1
  obtain⟨a2,hr2,hs2⟩:=(show∃l,numsP s2=some l∧Sl w' (a.tmps.getD 14 undef) (intsN l)from hd 11 (by decide) (by kernel_rfl))
  obtain⟨v2,hv2⟩:∃v2,a.tmps.getD 14 undef=v2:=⟨_,rfl⟩
  rw[hv2]at hs2
  have hq2:a.eval (.tmp 14)=v2:=hv2
  obtain⟨a3,hr3,hv3⟩:=(show∃n:Nat,numP s3=some n∧a.tmps.getD 18 undef= .int .i64 n from hd 15 (by decide) (by kernel_rfl))
  have hq3:a.eval (.tmp 18)= .int .i64 a3:=hv3
  refine dag_callp _ _ _ #[_,_,_,_] rfl (by rw[List.map_toArray,List.map_cons,List.map_cons,List.map_cons,List.map_cons,List.map_nil,hq0,hq1,hq2,hq3]) _ Tryz.func32 (by kernel_rfl) (by kernel_rfl) ?_
  refine(HP.out a0 a1 a2 a3 v1 v2 w' (HWW.out w' hb) (numP_lt hr0) ⟨hs1,numsP_lt hr1,by have:=numsP_len hr1;have:=HLS1.out;omega⟩ ⟨hs2,numsP_lt hr2,by have:=numsP_len hr2;have:=HLS2.out;omega⟩ (numP_lt hr3)).mono ?_
  rintro e w2 ⟨u0,rfl,hz,hk,hs,hb2⟩
  exact .inl ⟨_,rfl,hK _ _ ⟨a0,a1,a2,a3,u0,hr0,hr1,hr2,hr3,rfl,hz,hk,hs⟩ hb2⟩
 ·intro a w' K hb hf hdf hd hK
  obtain⟨a0,a1,a2,a3,u0,hr0,hr1,hr2,hr3,h3,hz,hk,hs⟩:=(show RCRow E X0 s0 s1 s2 s3 (a.tmps.getD 19 undef) w' from hd 16 (by decide) (by kernel_rfl))
  replace h3:=ev_tmp h3
  have HKK:=hid (And.intro hz hk)
  clear hf hd hdf hz hk
  refine ?_
  go_simp
  exact hK _ _ ⟨a0,a1,a2,a3,hr0,hr1,hr2,hr3,hs,fun h0=>HKK.out.2 h0⟩ (Below.refl _ _)
 ·intro a w' K hb hf hdf hd hK
  obtain⟨a0,a1,a2,a3,u0,hr0,hr1,hr2,hr3,h3,hz,hk,hs⟩:=(show RCRow E X0 s0 s1 s2 s3 (a.tmps.getD 19 undef) w' from hd 16 (by decide) (by kernel_rfl))
  replace h3:=ev_tmp h3
  have HKK:=hid (And.intro hz hk)
  clear hf hd hdf hz hk
  refine ?_
  go_simp
  exact hK _ _ ⟨a0,a1,a2,a3,hr0,hr1,hr2,hr3,rfl,HKK.out.1,fun h0=>trivial⟩ (Below.refl _ _)
 ·rintro vals w8 ⟨hh0,hh1,hh2,hh3,hh4,hh5,hh6,hh7,hh8,hh9,hh10,hh11,hh12,hh13,hh14,hh15,hh16,hx0,hxe,_⟩ hb8
  clear hh0 hh1 hh2 hh3 hh4 hh5 hh6 hh7 hh8 hh9 hh10 hh11 hh12 hh13 hh14 hh15 hh16
  simp only[Nat.reduceAdd]at hx0 hxe
  simp only[putAll,Act.put,List.setIfInBounds_toArray,List.set_cons_zero,List.set_cons_succ,List.drop_succ_cons,List.drop_zero,List.length_cons,List.length_nil,Nat.reduceAdd]
  obtain⟨a0,a1,a2,a3,hr0,hr1,hr2,hr3,hve,⟨he0,he6⟩,hki⟩:=hxe
  obtain⟨b0,b1,b2,b3,hb0,hb1,hb2,hb3,⟨pa0,pn0,pc0,hv0⟩,hk0⟩:=hx0
  cases hr0.symm.trans hb0
  cases hr1.symm.trans hb1
  cases hr2.symm.trans hb2
  cases hr3.symm.trans hb3
  clear hb0 hb1 hb2 hb3
  rw[hv0,hve]
  rw[hv0]at hk0
  have HT:=hid (told_ints _ (X0 a0 a1 a2 a3) (E a0 a1 a2 a3) w8 he0 he6 (fun h0=>(hk0 h0)) (HWW.out w8 hb8))
  have HAT:=hid (HAA.out a0 a1 a2 a3 hr0 hr1 hr2 hr3)
  have HB8:=hid hb8
  clear hb8 he0 he6 hki hr0 hr1 hr2 hr3 hk0
  clear hve hv0
  generalize (if E a0 a1 a2 a3=0 then tellI (X0 a0 a1 a2 a3)else errT (E a0 a1 a2 a3))=AT at*
  go_wp2_with fail
  refine HT.out.mono ?_
  intro e w10 h10
  have HZ:=hid (HG3.out _ e w8 w10 HAT.out HB8.out h10)
  rcases h10.1 with rfl|rfl
  ·clear h10
   go_wp2
   exact HZ.out
  ·exact⟨rfl,HZ.out⟩
def ansLea (E:Nat→List Nat→Int) (X0:Nat→List Nat→Int) (X1:Nat→List Nat→List Int) (ts:List (List UInt8)):List UInt8:=((numP (ts.getD 0 [])).bind fun a0=>(numsP (ts.getD 1 [])).bind fun a1=>some (if E a0 a1=0 then Lib.itoa (X0 a0 a1)++32::tellI (X1 a0 a1)else errT (E a0 a1))).getD badT
def PkLea (E:Nat→List Nat→Int) (X0:Nat→List Nat→Int) (X1:Nat→List Nat→List Int):Prop:=∀(a0:Nat) (a1:List Nat) (v1:Value) (w1:World),RunW w1→a0<1000000000→Sl w1 v1 (intsN a1)∧(∀x∈a1,x<1000000000)∧a1.length≤10001→Calls Tryz.prog 37 #[.int .i64 a0,v1] w1 fun e w'=>∃u1:Value,e= .returned (.tuple #[.int .i64 (X0 a0 a1),u1,.int .i64 (E a0 a1)])∧(0≤E a0 a1∧E a0 a1≤6)∧(E a0 a1=0→I64 (X0 a0 a1)∧(Sl w' u1 (X1 a0 a1)∧(∀x∈X1 a0 a1,I64 x)∧(X1 a0 a1).length≤10000))∧(∃pa pn pc,u1= .slice pa pn pc)∧Below w1.heap.size w1 w'
def RCLea (E:Nat→List Nat→Int) (X0:Nat→List Nat→Int) (X1:Nat→List Nat→List Int) (s0 s1:List UInt8) (v:Value) (w':World):Prop:=∃(a0:Nat) (a1:List Nat),∃u1:Value,numP s0=some a0∧numsP s1=some a1∧v= .tuple #[.int .i64 (X0 a0 a1),u1,.int .i64 (E a0 a1)]∧(0≤E a0 a1∧E a0 a1≤6)∧(E a0 a1=0→I64 (X0 a0 a1)∧(Sl w' u1 (X1 a0 a1)∧(∀x∈X1 a0 a1,I64 x)∧(X1 a0 a1).length≤10000))∧(∃pa pn pc,u1= .slice pa pn pc)
def RXLea0 (E:Nat→List Nat→Int) (X0:Nat→List Nat→Int) (X1:Nat→List Nat→List Int) (s0 s1:List UInt8) (v:Value):Prop:=∃(a0:Nat) (a1:List Nat),numP s0=some a0∧numsP s1=some a1∧v= .int .i64 (X0 a0 a1)
def RXLea1 (E:Nat→List Nat→Int) (X0:Nat→List Nat→Int) (X1:Nat→List Nat→List Int) (s0 s1:List UInt8) (v:Value) (w':World):Prop:=∃(a0:Nat) (a1:List Nat),numP s0=some a0∧numsP s1=some a1∧(∃pa pn pc,v= .slice pa pn pc)∧(E a0 a1=0→(Sl w' v (X1 a0 a1)∧(∀x∈X1 a0 a1,I64 x)∧(X1 a0 a1).length≤10000))
def RELea (E:Nat→List Nat→Int) (X0:Nat→List Nat→Int) (X1:Nat→List Nat→List Int) (s0 s1:List UInt8) (v:Value):Prop:=∃(a0:Nat) (a1:List Nat),numP s0=some a0∧numsP s1=some a1∧v= .int .i64 (E a0 a1)∧(0≤E a0 a1∧E a0 a1≤6)∧(E a0 a1=0→I64 (X0 a0 a1))
theorem cmdLea (E:Nat→List Nat→Int) (X0:Nat→List Nat→Int) (X1:Nat→List Nat→List Int) (HP0:PkLea E X0 X1) (ts:List (List UInt8)) (hts:ts.length=2) (v:Value) (w:World) (hW:RunW w) (hv:SS w v ts) (hl:∀t∈ts,t.length≤10000):
 Calls Tryz.prog 35 #[v] w (TE (ansLea E X0 X1 ts) w):=by
 have HP:=hid HP0
 have HWW:=hid (fun(w1:World) (hb:Below w.heap.size w w1)=>hW.below hb)
 obtain⟨g,o,c,rfl,hg,hc⟩:=hv
 rw[hts]
 have HC0:Hid (∀w1:World,Below w.heap.size w w1→w1.cell? ⟨g,o,none⟩=some (.string (str (ts.getD 0 [])))):=hid (fun w1 hb=>(hb.cell (p:=⟨g,o+0,none⟩) hg).trans (hc 0 (by omega)))
 have HN0:=hid (fun(w1:World) (hb:Below w.heap.size w w1)=>number_any (ts.getD 0 []) w1 (getD_len hl 0) (hW.below hb))
 have HC1:Hid (∀w1:World,Below w.heap.size w w1→w1.cell? ⟨g,o+1,none⟩=some (.string (str (ts.getD 1 [])))):=hid (fun w1 hb=>(hb.cell (p:=⟨g,o+1,none⟩) hg).trans (hc 1 (by omega)))
 have HN1:=hid (fun(w1:World) (hb:Below w.heap.size w w1)=>numbers_any (ts.getD 1 []) w1 (getD_len hl 1) (hW.below hb))
 have HLS1:=hid (getD_len hl 1)
 have HA:Hid (ansLea E X0 X1 ts=((numP (ts.getD 0 [])).bind fun a0=>(numsP (ts.getD 1 [])).bind fun a1=>some (if E a0 a1=0 then Lib.itoa (X0 a0 a1)++32::tellI (X1 a0 a1)else errT (E a0 a1))).getD badT):=hid rfl
 generalize ts.getD 0 []=s0 at*
 generalize ts.getD 1 []=s1 at*
 have HB0:Hid (numP s0=none→ansLea E X0 X1 ts=badT):=hid (fun h=>by
  rw[HA.out,h]
  rfl)
 have HB1:Hid (numsP s1=none→ansLea E X0 X1 ts=badT):=hid (fun h=>by
  rw[HA.out,h]
  cases numP s0<;>rfl)
 have HAA:Hid (∀(a0:Nat) (a1:List Nat),numP s0=some a0→numsP s1=some a1→ansLea E X0 X1 ts=if E a0 a1=0 then Lib.itoa (X0 a0 a1)++32::tellI (X1 a0 a1)else errT (E a0 a1)):=hid (fun a0 a1 h0 h1=>by rw[HA.out,h0,h1];rfl)
 have HG2:Hid (∀w',ansLea E X0 X1 ts=badT→Below w.heap.size w w'→TE (ansLea E X0 X1 ts) w (badE [98,97,100]) w'):=hid (fun w' h hb=>by rw[h];exact TE.bad (A:=badT) hb)
 have HG3:=hid (fun A e w1 w' (h:ansLea E X0 X1 ts=A) (hb:Below w.heap.size w w1) (ht:TE A w1 e w')=>(show TE (ansLea E X0 X1 ts) w e w' by rw[h];exact ht.pre hb))
 clear hc hl hW
 generalize TE (ansLea E X0 X1 ts) w=G at*
 go_enter Tryz.func35,Tryz.ntmps35
 go_wp2
 refine region_dagPL [3,4,5,6,7,8,9,10,11,12,13,14] [fun v _=>v= .slice (some ⟨g,o,none⟩) 2 c,fun v _=>v= .pointer (some ⟨g,o,none⟩),fun v _=>v= .string (str s0),fun v _=>∃n:Nat,numP s0=some n∧v= .int .i64 n,fun v _=>v= .slice (some ⟨g,o,none⟩) 2 c,fun v _=>v= .pointer (some ⟨g,o+1,none⟩),fun v _=>v= .string (str s1),fun v w'=>∃l,numsP s1=some l∧Sl w' v (intsN l),fun v w'=>RCLea E X0 X1 s0 s1 v w',fun v _=>RXLea0 E X0 X1 s0 s1 v,fun v w'=>RXLea1 E X0 X1 s0 s1 v w',fun v _=>RELea E X0 X1 s0 s1 v] (by kernel_rfl) (by kernel_rfl) rfl rfl ⟨Kp_eq _,Kp_eq _,Kp_eq _,fun v w1 w2 h _ hb=>h,Kp_eq _,Kp_eq _,Kp_eq _,fun v w1 w2 ⟨l,h1,h2⟩ _ hb=>⟨l,h1,h2.below hb⟩,fun v w1 w2 ⟨a0,a1,u1,hr0,hr1,he,hz,hk,hs⟩ _ hb=>⟨a0,a1,u1,hr0,hr1,he,hz,fun h0=>(let⟨j0,j1⟩:=hk h0;⟨j0,⟨j1.1.below hb,j1.2⟩⟩),hs⟩,fun v w1 w2 h _ hb=>h,fun v w1 w2 ⟨a0,a1,hr0,hr1,hs,hk⟩ _ hb=>⟨a0,a1,hr0,hr1,hs,fun h0=>⟨(hk h0).1.below hb,(hk h0).2⟩⟩,fun v w1 w2 h _ hb=>h,trivial⟩ ⟨?_,?_,?_,?_,?_,?_,?_,?_,?_,?_,?_,?_,trivial⟩ ?_
 ·intro a w' K hb hf hdf hd hK
  exact dag_move _ rfl (hK _ _ (hf 0 rfl) (Below.refl _ _))
 ·intro a w' K hb hf hdf hd hK
  have h3:a.tmps[3]?.getD undef= .slice (some ⟨g,o,none⟩) 2 c:=ev_tmp (hd 0 (by decide) (by kernel_rfl))
  clear hf hd hdf
  refine ?_
  go_simp
  exact hK _ _ rfl (Below.refl _ _)
 ·intro a w' K hb hf hdf hd hK
  have h3:a.tmps[4]?.getD undef= .pointer (some ⟨g,o,none⟩):=ev_tmp (hd 1 (by decide) (by kernel_rfl))
  have hcl:=HC0.out w' hb
  clear hf hd hdf
  refine ?_
  go_simp
  exact hK _ _ rfl (Below.refl _ _)
 ·intro a w' K hb hf hdf hd hK
  have h3:a.eval (.tmp 5)=_:=hd 2 (by decide) (by kernel_rfl)
  refine dag_callp _ _ _ #[_] rfl (by rw[List.map_toArray,List.map_cons,List.map_nil,h3]) _ Tryz.func33 (by kernel_rfl) (by kernel_rfl) ?_
  refine(HN0.out w' hb).mono ?_
  rintro e w2 ⟨h,hb2⟩
  rcases h with⟨x,hn,rfl⟩|⟨hn,rfl⟩
  ·exact .inl ⟨_,rfl,hK _ _ ⟨x,hn,rfl⟩ hb2⟩
  ·exact .inr ⟨_,rfl,hdf,HG2.out w2 (HB0.out hn) (hb.trans (hb2.mono hb.size))⟩
 ·intro a w' K hb hf hdf hd hK
  exact dag_move _ rfl (hK _ _ (hf 0 rfl) (Below.refl _ _))
 ·intro a w' K hb hf hdf hd hK
  have h3:a.tmps[7]?.getD undef= .slice (some ⟨g,o,none⟩) 2 c:=ev_tmp (hd 4 (by decide) (by kernel_rfl))
  clear hf hd hdf
  refine ?_
  go_simp
  exact hK _ _ rfl (Below.refl _ _)
 ·intro a w' K hb hf hdf hd hK
  have h3:a.tmps[8]?.getD undef= .pointer (some ⟨g,o+1,none⟩):=ev_tmp (hd 5 (by decide) (by kernel_rfl))
  have hcl:=HC1.out w' hb
  clear hf hd hdf
  refine ?_
  go_simp
  exact hK _ _ rfl (Below.refl _ _)
 ·intro a w' K hb hf hdf hd hK
  have h3:a.eval (.tmp 9)=_:=hd 6 (by decide) (by kernel_rfl)
  refine dag_callp _ _ _ #[_] rfl (by rw[List.map_toArray,List.map_cons,List.map_nil,h3]) _ Tryz.func34 (by kernel_rfl) (by kernel_rfl) ?_
  refine(HN1.out w' hb).mono ?_
  rintro e w2 ⟨h,hb2⟩
  rcases h with⟨x,u,hn,rfl,hu⟩|⟨hn,rfl⟩
  ·exact .inl ⟨_,rfl,hK _ _ ⟨x,hn,hu.sl (by rw[List.length_map];have:=numsP_len hn;have:=HLS1.out;omega)⟩ hb2⟩
  ·exact .inr ⟨_,rfl,hdf,HG2.out w2 (HB1.out hn) (hb.trans (hb2.mono hb.size))⟩
 ·intro a w' K hb hf hdf hd hK
  obtain⟨a0,hr0,hv0⟩:=(show∃n:Nat,numP s0=some n∧a.tmps.getD 6 undef= .int .i64 n from hd 3 (by decide) (by kernel_rfl))
  have hq0:a.eval (.tmp 6)= .int .i64 a0:=hv0
  obtain⟨a1,hr1,hs1⟩:=(show∃l,numsP s1=some l∧Sl w' (a.tmps.getD 10 undef) (intsN l)from hd 7 (by decide) (by kernel_rfl))
  obtain⟨v1,hv1⟩:∃v1,a.tmps.getD 10 undef=v1:=⟨_,rfl⟩
  rw[hv1]at hs1
  have hq1:a.eval (.tmp 10)=v1:=hv1
  refine dag_callp _ _ _ #[_,_] rfl (by rw[List.map_toArray,List.map_cons,List.map_cons,List.map_nil,hq0,hq1]) _ Tryz.func37 (by kernel_rfl) (by kernel_rfl) ?_
  refine(HP.out a0 a1 v1 w' (HWW.out w' hb) (numP_lt hr0) ⟨hs1,numsP_lt hr1,by have:=numsP_len hr1;have:=HLS1.out;omega⟩).mono ?_
  rintro e w2 ⟨u1,rfl,hz,hk,hs,hb2⟩
  exact .inl ⟨_,rfl,hK _ _ ⟨a0,a1,u1,hr0,hr1,rfl,hz,hk,hs⟩ hb2⟩
 ·intro a w' K hb hf hdf hd hK
  obtain⟨a0,a1,u1,hr0,hr1,h3,hz,hk,hs⟩:=(show RCLea E X0 X1 s0 s1 (a.tmps.getD 11 undef) w' from hd 8 (by decide) (by kernel_rfl))
  replace h3:=ev_tmp h3
  have HKK:=hid (And.intro hz hk)
  clear hf hd hdf hz hk
  refine ?_
  go_simp
  exact hK _ _ ⟨a0,a1,hr0,hr1,rfl⟩ (Below.refl _ _)
 ·intro a w' K hb hf hdf hd hK
  obtain⟨a0,a1,u1,hr0,hr1,h3,hz,hk,hs⟩:=(show RCLea E X0 X1 s0 s1 (a.tmps.getD 11 undef) w' from hd 8 (by decide) (by kernel_rfl))
  replace h3:=ev_tmp h3
  have HKK:=hid (And.intro hz hk)
  clear hf hd hdf hz hk
  refine ?_
  go_simp
  exact hK _ _ ⟨a0,a1,hr0,hr1,hs,fun h0=>(HKK.out.2 h0).2⟩ (Below.refl _ _)
 ·intro a w' K hb hf hdf hd hK
  obtain⟨a0,a1,u1,hr0,hr1,h3,hz,hk,hs⟩:=(show RCLea E X0 X1 s0 s1 (a.tmps.getD 11 undef) w' from hd 8 (by decide) (by kernel_rfl))
  replace h3:=ev_tmp h3
  have HKK:=hid (And.intro hz hk)
  clear hf hd hdf hz hk
  refine ?_
  go_simp
  exact hK _ _ ⟨a0,a1,hr0,hr1,rfl,HKK.out.1,fun h0=>(HKK.out.2 h0).1⟩ (Below.refl _ _)
 ·rintro vals w8 ⟨hh0,hh1,hh2,hh3,hh4,hh5,hh6,hh7,hh8,hx0,hx1,hxe,_⟩ hb8
  clear hh0 hh1 hh2 hh3 hh4 hh5 hh6 hh7 hh8
  simp only[Nat.reduceAdd]at hx0 hx1 hxe
  simp only[putAll,Act.put,List.setIfInBounds_toArray,List.set_cons_zero,List.set_cons_succ,List.drop_succ_cons,List.drop_zero,List.length_cons,List.length_nil,Nat.reduceAdd]
  obtain⟨a0,a1,hr0,hr1,hve,⟨he0,he6⟩,hki⟩:=hxe
  obtain⟨b0,b1,hb0,hb1,hv0⟩:=hx0
  cases hr0.symm.trans hb0
  cases hr1.symm.trans hb1
  clear hb0 hb1
  obtain⟨b0,b1,hb0,hb1,⟨pa1,pn1,pc1,hv1⟩,hk1⟩:=hx1
  cases hr0.symm.trans hb0
  cases hr1.symm.trans hb1
  clear hb0 hb1
  rw[hv0,hv1,hve]
  rw[hv1]at hk1
  have HT:=hid (both_int_ints (X0 a0 a1) _ (X1 a0 a1) (E a0 a1) w8 he0 he6 (fun h0=>⟨(hki h0),(hk1 h0)⟩) (HWW.out w8 hb8))
  have HAT:=hid (HAA.out a0 a1 hr0 hr1)
  have HB8:=hid hb8
  clear hb8 he0 he6 hki hr0 hr1 hk1
  clear hve hv0 hv1
  generalize (if E a0 a1=0 then Lib.itoa (X0 a0 a1)++32::tellI (X1 a0 a1)else errT (E a0 a1))=AT at*
  go_wp2_with fail
  refine HT.out.mono ?_
  intro e w10 h10
  have HZ:=hid (HG3.out _ e w8 w10 HAT.out HB8.out h10)
  rcases h10.1 with rfl|rfl
  ·clear h10
   go_wp2
   exact HZ.out
  ·exact⟨rfl,HZ.out⟩
def ansOrd (E:Nat→List (List Nat)→Int) (X0:Nat→List (List Nat)→Int) (ts:List (List UInt8)):List UInt8:=((numP (ts.getD 0 [])).bind fun a0=>(rowsP (ts.getD 1 [])).bind fun a1=>some (if E a0 a1=0 then Lib.itoa (X0 a0 a1)else errT (E a0 a1))).getD badT
def PkOrd (E:Nat→List (List Nat)→Int) (X0:Nat→List (List Nat)→Int):Prop:=∀(a0:Nat) (a1:List (List Nat)) (v1:Value) (w1:World),RunW w1→a0<1000000000→RL w1 v1 (a1.map intsN)∧(∀m∈a1,∀x∈m,x<1000000000)→Calls Tryz.prog 43 #[.int .i64 a0,v1] w1 fun e w'=>e= .returned (.tuple #[.int .i64 (X0 a0 a1),.int .i64 (E a0 a1)])∧(0≤E a0 a1∧E a0 a1≤6)∧(E a0 a1=0→I64 (X0 a0 a1))∧Below w1.heap.size w1 w'
def RCOrd (E:Nat→List (List Nat)→Int) (X0:Nat→List (List Nat)→Int) (s0 s1:List UInt8) (v:Value) (w':World):Prop:=∃(a0:Nat) (a1:List (List Nat)),numP s0=some a0∧rowsP s1=some a1∧v= .tuple #[.int .i64 (X0 a0 a1),.int .i64 (E a0 a1)]∧(0≤E a0 a1∧E a0 a1≤6)∧(E a0 a1=0→I64 (X0 a0 a1))
def RXOrd0 (E:Nat→List (List Nat)→Int) (X0:Nat→List (List Nat)→Int) (s0 s1:List UInt8) (v:Value):Prop:=∃(a0:Nat) (a1:List (List Nat)),numP s0=some a0∧rowsP s1=some a1∧v= .int .i64 (X0 a0 a1)
def REOrd (E:Nat→List (List Nat)→Int) (X0:Nat→List (List Nat)→Int) (s0 s1:List UInt8) (v:Value):Prop:=∃(a0:Nat) (a1:List (List Nat)),numP s0=some a0∧rowsP s1=some a1∧v= .int .i64 (E a0 a1)∧(0≤E a0 a1∧E a0 a1≤6)∧(E a0 a1=0→I64 (X0 a0 a1))
theorem cmdOrd (E:Nat→List (List Nat)→Int) (X0:Nat→List (List Nat)→Int) (HP0:PkOrd E X0) (ts:List (List UInt8)) (hts:ts.length=2) (v:Value) (w:World) (hW:RunW w) (hv:SS w v ts) (hl:∀t∈ts,t.length≤10000):
 Calls Tryz.prog 41 #[v] w (TE (ansOrd E X0 ts) w):=by
 have HP:=hid HP0
 have HWW:=hid (fun(w1:World) (hb:Below w.heap.size w w1)=>hW.below hb)
 obtain⟨g,o,c,rfl,hg,hc⟩:=hv
 rw[hts]
 have HC0:Hid (∀w1:World,Below w.heap.size w w1→w1.cell? ⟨g,o,none⟩=some (.string (str (ts.getD 0 [])))):=hid (fun w1 hb=>(hb.cell (p:=⟨g,o+0,none⟩) hg).trans (hc 0 (by omega)))
 have HN0:=hid (fun(w1:World) (hb:Below w.heap.size w w1)=>number_any (ts.getD 0 []) w1 (getD_len hl 0) (hW.below hb))
 have HC1:Hid (∀w1:World,Below w.heap.size w w1→w1.cell? ⟨g,o+1,none⟩=some (.string (str (ts.getD 1 [])))):=hid (fun w1 hb=>(hb.cell (p:=⟨g,o+1,none⟩) hg).trans (hc 1 (by omega)))
 have HN1:=hid (fun(w1:World) (hb:Below w.heap.size w w1)=>rows_any (ts.getD 1 []) w1 (getD_len hl 1) (hW.below hb))
 have HA:Hid (ansOrd E X0 ts=((numP (ts.getD 0 [])).bind fun a0=>(rowsP (ts.getD 1 [])).bind fun a1=>some (if E a0 a1=0 then Lib.itoa (X0 a0 a1)else errT (E a0 a1))).getD badT):=hid rfl
 generalize ts.getD 0 []=s0 at*
 generalize ts.getD 1 []=s1 at*
 have HB0:Hid (numP s0=none→ansOrd E X0 ts=badT):=hid (fun h=>by
  rw[HA.out,h]
  rfl)
 have HB1:Hid (rowsP s1=none→ansOrd E X0 ts=badT):=hid (fun h=>by
  rw[HA.out,h]
  cases numP s0<;>rfl)
 have HAA:Hid (∀(a0:Nat) (a1:List (List Nat)),numP s0=some a0→rowsP s1=some a1→ansOrd E X0 ts=if E a0 a1=0 then Lib.itoa (X0 a0 a1)else errT (E a0 a1)):=hid (fun a0 a1 h0 h1=>by rw[HA.out,h0,h1];rfl)
 have HG2:Hid (∀w',ansOrd E X0 ts=badT→Below w.heap.size w w'→TE (ansOrd E X0 ts) w (badE [98,97,100]) w'):=hid (fun w' h hb=>by rw[h];exact TE.bad (A:=badT) hb)
 have HG3:=hid (fun A e w1 w' (h:ansOrd E X0 ts=A) (hb:Below w.heap.size w w1) (ht:TE A w1 e w')=>(show TE (ansOrd E X0 ts) w e w' by rw[h];exact ht.pre hb))
 clear hc hl hW
 generalize TE (ansOrd E X0 ts) w=G at*
 go_enter Tryz.func41,Tryz.ntmps41
 go_wp2
 refine region_dagPL [3,4,5,6,7,8,9,10,11,12,13] [fun v _=>v= .slice (some ⟨g,o,none⟩) 2 c,fun v _=>v= .pointer (some ⟨g,o,none⟩),fun v _=>v= .string (str s0),fun v _=>∃n:Nat,numP s0=some n∧v= .int .i64 n,fun v _=>v= .slice (some ⟨g,o,none⟩) 2 c,fun v _=>v= .pointer (some ⟨g,o+1,none⟩),fun v _=>v= .string (str s1),fun v w'=>∃l,rowsP s1=some l∧RL w' v (l.map intsN),fun v w'=>RCOrd E X0 s0 s1 v w',fun v _=>RXOrd0 E X0 s0 s1 v,fun v _=>REOrd E X0 s0 s1 v] (by kernel_rfl) (by kernel_rfl) rfl rfl ⟨Kp_eq _,Kp_eq _,Kp_eq _,fun v w1 w2 h _ hb=>h,Kp_eq _,Kp_eq _,Kp_eq _,fun v w1 w2 ⟨l,h1,h2⟩ _ hb=>⟨l,h1,h2.below hb⟩,fun v w1 w2 ⟨a0,a1,hr0,hr1,he,hz,hk⟩ _ hb=>⟨a0,a1,hr0,hr1,he,hz,fun h0=>(let j0:=hk h0;j0)⟩,fun v w1 w2 h _ hb=>h,fun v w1 w2 h _ hb=>h,trivial⟩ ⟨?_,?_,?_,?_,?_,?_,?_,?_,?_,?_,?_,trivial⟩ ?_
 ·intro a w' K hb hf hdf hd hK
  exact dag_move _ rfl (hK _ _ (hf 0 rfl) (Below.refl _ _))
 ·intro a w' K hb hf hdf hd hK
  have h3:a.tmps[3]?.getD undef= .slice (some ⟨g,o,none⟩) 2 c:=ev_tmp (hd 0 (by decide) (by kernel_rfl))
  clear hf hd hdf
  refine ?_
  go_simp
  exact hK _ _ rfl (Below.refl _ _)
 ·intro a w' K hb hf hdf hd hK
  have h3:a.tmps[4]?.getD undef= .pointer (some ⟨g,o,none⟩):=ev_tmp (hd 1 (by decide) (by kernel_rfl))
  have hcl:=HC0.out w' hb
  clear hf hd hdf
  refine ?_
  go_simp
  exact hK _ _ rfl (Below.refl _ _)
 ·intro a w' K hb hf hdf hd hK
  have h3:a.eval (.tmp 5)=_:=hd 2 (by decide) (by kernel_rfl)
  refine dag_callp _ _ _ #[_] rfl (by rw[List.map_toArray,List.map_cons,List.map_nil,h3]) _ Tryz.func33 (by kernel_rfl) (by kernel_rfl) ?_
  refine(HN0.out w' hb).mono ?_
  rintro e w2 ⟨h,hb2⟩
  rcases h with⟨x,hn,rfl⟩|⟨hn,rfl⟩
  ·exact .inl ⟨_,rfl,hK _ _ ⟨x,hn,rfl⟩ hb2⟩
  ·exact .inr ⟨_,rfl,hdf,HG2.out w2 (HB0.out hn) (hb.trans (hb2.mono hb.size))⟩
 ·intro a w' K hb hf hdf hd hK
  exact dag_move _ rfl (hK _ _ (hf 0 rfl) (Below.refl _ _))
 ·intro a w' K hb hf hdf hd hK
  have h3:a.tmps[7]?.getD undef= .slice (some ⟨g,o,none⟩) 2 c:=ev_tmp (hd 4 (by decide) (by kernel_rfl))
  clear hf hd hdf
  refine ?_
  go_simp
  exact hK _ _ rfl (Below.refl _ _)
 ·intro a w' K hb hf hdf hd hK
  have h3:a.tmps[8]?.getD undef= .pointer (some ⟨g,o+1,none⟩):=ev_tmp (hd 5 (by decide) (by kernel_rfl))
  have hcl:=HC1.out w' hb
  clear hf hd hdf
  refine ?_
  go_simp
  exact hK _ _ rfl (Below.refl _ _)
 ·intro a w' K hb hf hdf hd hK
  have h3:a.eval (.tmp 9)=_:=hd 6 (by decide) (by kernel_rfl)
  refine dag_callp _ _ _ #[_] rfl (by rw[List.map_toArray,List.map_cons,List.map_nil,h3]) _ Tryz.func44 (by kernel_rfl) (by kernel_rfl) ?_
  refine(HN1.out w' hb).mono ?_
  rintro e w2 ⟨h,hb2⟩
  rcases h with⟨x,u,hn,rfl,hu⟩|⟨hn,rfl⟩
  ·exact .inl ⟨_,rfl,hK _ _ ⟨x,hn,hu⟩ hb2⟩
  ·exact .inr ⟨_,rfl,hdf,HG2.out w2 (HB1.out hn) (hb.trans (hb2.mono hb.size))⟩
 ·intro a w' K hb hf hdf hd hK
  obtain⟨a0,hr0,hv0⟩:=(show∃n:Nat,numP s0=some n∧a.tmps.getD 6 undef= .int .i64 n from hd 3 (by decide) (by kernel_rfl))
  have hq0:a.eval (.tmp 6)= .int .i64 a0:=hv0
  obtain⟨a1,hr1,hs1⟩:=(show∃l,rowsP s1=some l∧RL w' (a.tmps.getD 10 undef) (l.map intsN)from hd 7 (by decide) (by kernel_rfl))
  obtain⟨v1,hv1⟩:∃v1,a.tmps.getD 10 undef=v1:=⟨_,rfl⟩
  rw[hv1]at hs1
  have hq1:a.eval (.tmp 10)=v1:=hv1
  refine dag_callp _ _ _ #[_,_] rfl (by rw[List.map_toArray,List.map_cons,List.map_cons,List.map_nil,hq0,hq1]) _ Tryz.func43 (by kernel_rfl) (by kernel_rfl) ?_
  refine(HP.out a0 a1 v1 w' (HWW.out w' hb) (numP_lt hr0) ⟨hs1,rowsP_lt hr1⟩).mono ?_
  rintro e w2 ⟨rfl,hz,hk,hb2⟩
  exact .inl ⟨_,rfl,hK _ _ ⟨a0,a1,hr0,hr1,rfl,hz,hk⟩ hb2⟩
 ·intro a w' K hb hf hdf hd hK
  obtain⟨a0,a1,hr0,hr1,h3,hz,hk⟩:=(show RCOrd E X0 s0 s1 (a.tmps.getD 11 undef) w' from hd 8 (by decide) (by kernel_rfl))
  replace h3:=ev_tmp h3
  have HKK:=hid (And.intro hz hk)
  clear hf hd hdf hz hk
  refine ?_
  go_simp
  exact hK _ _ ⟨a0,a1,hr0,hr1,rfl⟩ (Below.refl _ _)
 ·intro a w' K hb hf hdf hd hK
  obtain⟨a0,a1,hr0,hr1,h3,hz,hk⟩:=(show RCOrd E X0 s0 s1 (a.tmps.getD 11 undef) w' from hd 8 (by decide) (by kernel_rfl))
  replace h3:=ev_tmp h3
  have HKK:=hid (And.intro hz hk)
  clear hf hd hdf hz hk
  refine ?_
  go_simp
  exact hK _ _ ⟨a0,a1,hr0,hr1,rfl,HKK.out.1,fun h0=>HKK.out.2 h0⟩ (Below.refl _ _)
 ·rintro vals w8 ⟨hh0,hh1,hh2,hh3,hh4,hh5,hh6,hh7,hh8,hx0,hxe,_⟩ hb8
  clear hh0 hh1 hh2 hh3 hh4 hh5 hh6 hh7 hh8
  simp only[Nat.reduceAdd]at hx0 hxe
  simp only[putAll,Act.put,List.setIfInBounds_toArray,List.set_cons_zero,List.set_cons_succ,List.drop_succ_cons,List.drop_zero,List.length_cons,List.length_nil,Nat.reduceAdd]
  obtain⟨a0,a1,hr0,hr1,hve,⟨he0,he6⟩,hki⟩:=hxe
  obtain⟨b0,b1,hb0,hb1,hv0⟩:=hx0
  cases hr0.symm.trans hb0
  cases hr1.symm.trans hb1
  clear hb0 hb1
  rw[hv0,hve]
  have HT:=hid (told_int (X0 a0 a1) (E a0 a1) w8 he0 he6 (fun h0=>(hki h0)) (HWW.out w8 hb8))
  have HAT:=hid (HAA.out a0 a1 hr0 hr1)
  have HB8:=hid hb8
  clear hb8 he0 he6 hki hr0 hr1
  clear hve hv0
  generalize (if E a0 a1=0 then Lib.itoa (X0 a0 a1)else errT (E a0 a1))=AT at*
  go_wp2_with fail
  refine HT.out.mono ?_
  intro e w10 h10
  have HZ:=hid (HG3.out _ e w8 w10 HAT.out HB8.out h10)
  rcases h10.1 with rfl|rfl
  ·clear h10
   go_wp2
   exact HZ.out
  ·exact⟨rfl,HZ.out⟩
def ansBea (E:Nat→Nat→Int) (X0:Nat→Nat→Int) (ts:List (List UInt8)):List UInt8:=((numP (ts.getD 0 [])).bind fun a0=>(numP (ts.getD 1 [])).bind fun a1=>some (if E a0 a1=0 then Lib.itoa (X0 a0 a1)else errT (E a0 a1))).getD badT
def PkBea (E:Nat→Nat→Int) (X0:Nat→Nat→Int):Prop:=∀(a0:Nat) (a1:Nat) (w1:World),RunW w1→a0<1000000000→a1<1000000000→Calls Tryz.prog 46 #[.int .i64 a0,.int .i64 a1] w1 fun e w'=>e= .returned (.tuple #[.int .i64 (X0 a0 a1),.int .i64 (E a0 a1)])∧(0≤E a0 a1∧E a0 a1≤6)∧(E a0 a1=0→I64 (X0 a0 a1))∧Below w1.heap.size w1 w'
def RCBea (E:Nat→Nat→Int) (X0:Nat→Nat→Int) (s0 s1:List UInt8) (v:Value) (w':World):Prop:=∃(a0:Nat) (a1:Nat),numP s0=some a0∧numP s1=some a1∧v= .tuple #[.int .i64 (X0 a0 a1),.int .i64 (E a0 a1)]∧(0≤E a0 a1∧E a0 a1≤6)∧(E a0 a1=0→I64 (X0 a0 a1))
def RXBea0 (E:Nat→Nat→Int) (X0:Nat→Nat→Int) (s0 s1:List UInt8) (v:Value):Prop:=∃(a0:Nat) (a1:Nat),numP s0=some a0∧numP s1=some a1∧v= .int .i64 (X0 a0 a1)
def REBea (E:Nat→Nat→Int) (X0:Nat→Nat→Int) (s0 s1:List UInt8) (v:Value):Prop:=∃(a0:Nat) (a1:Nat),numP s0=some a0∧numP s1=some a1∧v= .int .i64 (E a0 a1)∧(0≤E a0 a1∧E a0 a1≤6)∧(E a0 a1=0→I64 (X0 a0 a1))
theorem cmdBea (E:Nat→Nat→Int) (X0:Nat→Nat→Int) (HP0:PkBea E X0) (ts:List (List UInt8)) (hts:ts.length=2) (v:Value) (w:World) (hW:RunW w) (hv:SS w v ts) (hl:∀t∈ts,t.length≤10000):
 Calls Tryz.prog 45 #[v] w (TE (ansBea E X0 ts) w):=by
 have HP:=hid HP0
 have HWW:=hid (fun(w1:World) (hb:Below w.heap.size w w1)=>hW.below hb)
 obtain⟨g,o,c,rfl,hg,hc⟩:=hv
 rw[hts]
 have HC0:Hid (∀w1:World,Below w.heap.size w w1→w1.cell? ⟨g,o,none⟩=some (.string (str (ts.getD 0 [])))):=hid (fun w1 hb=>(hb.cell (p:=⟨g,o+0,none⟩) hg).trans (hc 0 (by omega)))
 have HN0:=hid (fun(w1:World) (hb:Below w.heap.size w w1)=>number_any (ts.getD 0 []) w1 (getD_len hl 0) (hW.below hb))
 have HC1:Hid (∀w1:World,Below w.heap.size w w1→w1.cell? ⟨g,o+1,none⟩=some (.string (str (ts.getD 1 [])))):=hid (fun w1 hb=>(hb.cell (p:=⟨g,o+1,none⟩) hg).trans (hc 1 (by omega)))
 have HN1:=hid (fun(w1:World) (hb:Below w.heap.size w w1)=>number_any (ts.getD 1 []) w1 (getD_len hl 1) (hW.below hb))
 have HA:Hid (ansBea E X0 ts=((numP (ts.getD 0 [])).bind fun a0=>(numP (ts.getD 1 [])).bind fun a1=>some (if E a0 a1=0 then Lib.itoa (X0 a0 a1)else errT (E a0 a1))).getD badT):=hid rfl
 generalize ts.getD 0 []=s0 at*
 generalize ts.getD 1 []=s1 at*
 have HB0:Hid (numP s0=none→ansBea E X0 ts=badT):=hid (fun h=>by
  rw[HA.out,h]
  rfl)
 have HB1:Hid (numP s1=none→ansBea E X0 ts=badT):=hid (fun h=>by
  rw[HA.out,h]
  cases numP s0<;>rfl)
 have HAA:Hid (∀(a0:Nat) (a1:Nat),numP s0=some a0→numP s1=some a1→ansBea E X0 ts=if E a0 a1=0 then Lib.itoa (X0 a0 a1)else errT (E a0 a1)):=hid (fun a0 a1 h0 h1=>by rw[HA.out,h0,h1];rfl)
 have HG2:Hid (∀w',ansBea E X0 ts=badT→Below w.heap.size w w'→TE (ansBea E X0 ts) w (badE [98,97,100]) w'):=hid (fun w' h hb=>by rw[h];exact TE.bad (A:=badT) hb)
 have HG3:=hid (fun A e w1 w' (h:ansBea E X0 ts=A) (hb:Below w.heap.size w w1) (ht:TE A w1 e w')=>(show TE (ansBea E X0 ts) w e w' by rw[h];exact ht.pre hb))
 clear hc hl hW
 generalize TE (ansBea E X0 ts) w=G at*
 go_enter Tryz.func45,Tryz.ntmps45
 go_wp2
 refine region_dagPL [3,4,5,6,7,8,9,10,11,12,13] [fun v _=>v= .slice (some ⟨g,o,none⟩) 2 c,fun v _=>v= .pointer (some ⟨g,o,none⟩),fun v _=>v= .string (str s0),fun v _=>∃n:Nat,numP s0=some n∧v= .int .i64 n,fun v _=>v= .slice (some ⟨g,o,none⟩) 2 c,fun v _=>v= .pointer (some ⟨g,o+1,none⟩),fun v _=>v= .string (str s1),fun v _=>∃n:Nat,numP s1=some n∧v= .int .i64 n,fun v w'=>RCBea E X0 s0 s1 v w',fun v _=>RXBea0 E X0 s0 s1 v,fun v _=>REBea E X0 s0 s1 v] (by kernel_rfl) (by kernel_rfl) rfl rfl ⟨Kp_eq _,Kp_eq _,Kp_eq _,fun v w1 w2 h _ hb=>h,Kp_eq _,Kp_eq _,Kp_eq _,fun v w1 w2 h _ hb=>h,fun v w1 w2 ⟨a0,a1,hr0,hr1,he,hz,hk⟩ _ hb=>⟨a0,a1,hr0,hr1,he,hz,fun h0=>(let j0:=hk h0;j0)⟩,fun v w1 w2 h _ hb=>h,fun v w1 w2 h _ hb=>h,trivial⟩ ⟨?_,?_,?_,?_,?_,?_,?_,?_,?_,?_,?_,trivial⟩ ?_
 ·intro a w' K hb hf hdf hd hK
  exact dag_move _ rfl (hK _ _ (hf 0 rfl) (Below.refl _ _))
 ·intro a w' K hb hf hdf hd hK
  have h3:a.tmps[3]?.getD undef= .slice (some ⟨g,o,none⟩) 2 c:=ev_tmp (hd 0 (by decide) (by kernel_rfl))
  clear hf hd hdf
  refine ?_
  go_simp
  exact hK _ _ rfl (Below.refl _ _)
 ·intro a w' K hb hf hdf hd hK
  have h3:a.tmps[4]?.getD undef= .pointer (some ⟨g,o,none⟩):=ev_tmp (hd 1 (by decide) (by kernel_rfl))
  have hcl:=HC0.out w' hb
  clear hf hd hdf
  refine ?_
  go_simp
  exact hK _ _ rfl (Below.refl _ _)
 ·intro a w' K hb hf hdf hd hK
  have h3:a.eval (.tmp 5)=_:=hd 2 (by decide) (by kernel_rfl)
  refine dag_callp _ _ _ #[_] rfl (by rw[List.map_toArray,List.map_cons,List.map_nil,h3]) _ Tryz.func33 (by kernel_rfl) (by kernel_rfl) ?_
  refine(HN0.out w' hb).mono ?_
  rintro e w2 ⟨h,hb2⟩
  rcases h with⟨x,hn,rfl⟩|⟨hn,rfl⟩
  ·exact .inl ⟨_,rfl,hK _ _ ⟨x,hn,rfl⟩ hb2⟩
  ·exact .inr ⟨_,rfl,hdf,HG2.out w2 (HB0.out hn) (hb.trans (hb2.mono hb.size))⟩
 ·intro a w' K hb hf hdf hd hK
  exact dag_move _ rfl (hK _ _ (hf 0 rfl) (Below.refl _ _))
 ·intro a w' K hb hf hdf hd hK
  have h3:a.tmps[7]?.getD undef= .slice (some ⟨g,o,none⟩) 2 c:=ev_tmp (hd 4 (by decide) (by kernel_rfl))
  clear hf hd hdf
  refine ?_
  go_simp
  exact hK _ _ rfl (Below.refl _ _)
 ·intro a w' K hb hf hdf hd hK
  have h3:a.tmps[8]?.getD undef= .pointer (some ⟨g,o+1,none⟩):=ev_tmp (hd 5 (by decide) (by kernel_rfl))
  have hcl:=HC1.out w' hb
  clear hf hd hdf
  refine ?_
  go_simp
  exact hK _ _ rfl (Below.refl _ _)
 ·intro a w' K hb hf hdf hd hK
  have h3:a.eval (.tmp 9)=_:=hd 6 (by decide) (by kernel_rfl)
  refine dag_callp _ _ _ #[_] rfl (by rw[List.map_toArray,List.map_cons,List.map_nil,h3]) _ Tryz.func33 (by kernel_rfl) (by kernel_rfl) ?_
  refine(HN1.out w' hb).mono ?_
  rintro e w2 ⟨h,hb2⟩
  rcases h with⟨x,hn,rfl⟩|⟨hn,rfl⟩
  ·exact .inl ⟨_,rfl,hK _ _ ⟨x,hn,rfl⟩ hb2⟩
  ·exact .inr ⟨_,rfl,hdf,HG2.out w2 (HB1.out hn) (hb.trans (hb2.mono hb.size))⟩
 ·intro a w' K hb hf hdf hd hK
  obtain⟨a0,hr0,hv0⟩:=(show∃n:Nat,numP s0=some n∧a.tmps.getD 6 undef= .int .i64 n from hd 3 (by decide) (by kernel_rfl))
  have hq0:a.eval (.tmp 6)= .int .i64 a0:=hv0
  obtain⟨a1,hr1,hv1⟩:=(show∃n:Nat,numP s1=some n∧a.tmps.getD 10 undef= .int .i64 n from hd 7 (by decide) (by kernel_rfl))
  have hq1:a.eval (.tmp 10)= .int .i64 a1:=hv1
  refine dag_callp _ _ _ #[_,_] rfl (by rw[List.map_toArray,List.map_cons,List.map_cons,List.map_nil,hq0,hq1]) _ Tryz.func46 (by kernel_rfl) (by kernel_rfl) ?_
  refine(HP.out a0 a1 w' (HWW.out w' hb) (numP_lt hr0) (numP_lt hr1)).mono ?_
  rintro e w2 ⟨rfl,hz,hk,hb2⟩
  exact .inl ⟨_,rfl,hK _ _ ⟨a0,a1,hr0,hr1,rfl,hz,hk⟩ hb2⟩
 ·intro a w' K hb hf hdf hd hK
  obtain⟨a0,a1,hr0,hr1,h3,hz,hk⟩:=(show RCBea E X0 s0 s1 (a.tmps.getD 11 undef) w' from hd 8 (by decide) (by kernel_rfl))
  replace h3:=ev_tmp h3
  have HKK:=hid (And.intro hz hk)
  clear hf hd hdf hz hk
  refine ?_
  go_simp
  exact hK _ _ ⟨a0,a1,hr0,hr1,rfl⟩ (Below.refl _ _)
 ·intro a w' K hb hf hdf hd hK
  obtain⟨a0,a1,hr0,hr1,h3,hz,hk⟩:=(show RCBea E X0 s0 s1 (a.tmps.getD 11 undef) w' from hd 8 (by decide) (by kernel_rfl))
  replace h3:=ev_tmp h3
  have HKK:=hid (And.intro hz hk)
  clear hf hd hdf hz hk
  refine ?_
  go_simp
  exact hK _ _ ⟨a0,a1,hr0,hr1,rfl,HKK.out.1,fun h0=>HKK.out.2 h0⟩ (Below.refl _ _)
 ·rintro vals w8 ⟨hh0,hh1,hh2,hh3,hh4,hh5,hh6,hh7,hh8,hx0,hxe,_⟩ hb8
  clear hh0 hh1 hh2 hh3 hh4 hh5 hh6 hh7 hh8
  simp only[Nat.reduceAdd]at hx0 hxe
  simp only[putAll,Act.put,List.setIfInBounds_toArray,List.set_cons_zero,List.set_cons_succ,List.drop_succ_cons,List.drop_zero,List.length_cons,List.length_nil,Nat.reduceAdd]
  obtain⟨a0,a1,hr0,hr1,hve,⟨he0,he6⟩,hki⟩:=hxe
  obtain⟨b0,b1,hb0,hb1,hv0⟩:=hx0
  cases hr0.symm.trans hb0
  cases hr1.symm.trans hb1
  clear hb0 hb1
  rw[hv0,hve]
  have HT:=hid (told_int (X0 a0 a1) (E a0 a1) w8 he0 he6 (fun h0=>(hki h0)) (HWW.out w8 hb8))
  have HAT:=hid (HAA.out a0 a1 hr0 hr1)
  have HB8:=hid hb8
  clear hb8 he0 he6 hki hr0 hr1
  clear hve hv0
  generalize (if E a0 a1=0 then Lib.itoa (X0 a0 a1)else errT (E a0 a1))=AT at*
  go_wp2_with fail
  refine HT.out.mono ?_
  intro e w10 h10
  have HZ:=hid (HG3.out _ e w8 w10 HAT.out HB8.out h10)
  rcases h10.1 with rfl|rfl
  ·clear h10
   go_wp2
   exact HZ.out
  ·exact⟨rfl,HZ.out⟩
def ansGau (E:Nat→Nat→Nat→Int) (X0:Nat→Nat→Nat→Int) (ts:List (List UInt8)):List UInt8:=((numP (ts.getD 0 [])).bind fun a0=>(numP (ts.getD 1 [])).bind fun a1=>(numP (ts.getD 2 [])).bind fun a2=>some (if E a0 a1 a2=0 then Lib.itoa (X0 a0 a1 a2)else errT (E a0 a1 a2))).getD badT
def PkGau (E:Nat→Nat→Nat→Int) (X0:Nat→Nat→Nat→Int):Prop:=∀(a0:Nat) (a1:Nat) (a2:Nat) (w1:World),RunW w1→a0<1000000000→a1<1000000000→a2<1000000000→Calls Tryz.prog 126 #[.int .i64 a0,.int .i64 a1,.int .i64 a2] w1 fun e w'=>e= .returned (.tuple #[.int .i64 (X0 a0 a1 a2),.int .i64 (E a0 a1 a2)])∧(0≤E a0 a1 a2∧E a0 a1 a2≤6)∧(E a0 a1 a2=0→I64 (X0 a0 a1 a2))∧Below w1.heap.size w1 w'
def RCGau (E:Nat→Nat→Nat→Int) (X0:Nat→Nat→Nat→Int) (s0 s1 s2:List UInt8) (v:Value) (w':World):Prop:=∃(a0:Nat) (a1:Nat) (a2:Nat),numP s0=some a0∧numP s1=some a1∧numP s2=some a2∧v= .tuple #[.int .i64 (X0 a0 a1 a2),.int .i64 (E a0 a1 a2)]∧(0≤E a0 a1 a2∧E a0 a1 a2≤6)∧(E a0 a1 a2=0→I64 (X0 a0 a1 a2))
def RXGau0 (E:Nat→Nat→Nat→Int) (X0:Nat→Nat→Nat→Int) (s0 s1 s2:List UInt8) (v:Value):Prop:=∃(a0:Nat) (a1:Nat) (a2:Nat),numP s0=some a0∧numP s1=some a1∧numP s2=some a2∧v= .int .i64 (X0 a0 a1 a2)
def REGau (E:Nat→Nat→Nat→Int) (X0:Nat→Nat→Nat→Int) (s0 s1 s2:List UInt8) (v:Value):Prop:=∃(a0:Nat) (a1:Nat) (a2:Nat),numP s0=some a0∧numP s1=some a1∧numP s2=some a2∧v= .int .i64 (E a0 a1 a2)∧(0≤E a0 a1 a2∧E a0 a1 a2≤6)∧(E a0 a1 a2=0→I64 (X0 a0 a1 a2))
theorem cmdGau (E:Nat→Nat→Nat→Int) (X0:Nat→Nat→Nat→Int) (HP0:PkGau E X0) (ts:List (List UInt8)) (hts:ts.length=3) (v:Value) (w:World) (hW:RunW w) (hv:SS w v ts) (hl:∀t∈ts,t.length≤10000):
 Calls Tryz.prog 125 #[v] w (TE (ansGau E X0 ts) w):=by
 have HP:=hid HP0
 have HWW:=hid (fun(w1:World) (hb:Below w.heap.size w w1)=>hW.below hb)
 obtain⟨g,o,c,rfl,hg,hc⟩:=hv
 rw[hts]
 have HC0:Hid (∀w1:World,Below w.heap.size w w1→w1.cell? ⟨g,o,none⟩=some (.string (str (ts.getD 0 [])))):=hid (fun w1 hb=>(hb.cell (p:=⟨g,o+0,none⟩) hg).trans (hc 0 (by omega)))
 have HN0:=hid (fun(w1:World) (hb:Below w.heap.size w w1)=>number_any (ts.getD 0 []) w1 (getD_len hl 0) (hW.below hb))
 have HC1:Hid (∀w1:World,Below w.heap.size w w1→w1.cell? ⟨g,o+1,none⟩=some (.string (str (ts.getD 1 [])))):=hid (fun w1 hb=>(hb.cell (p:=⟨g,o+1,none⟩) hg).trans (hc 1 (by omega)))
 have HN1:=hid (fun(w1:World) (hb:Below w.heap.size w w1)=>number_any (ts.getD 1 []) w1 (getD_len hl 1) (hW.below hb))
 have HC2:Hid (∀w1:World,Below w.heap.size w w1→w1.cell? ⟨g,o+2,none⟩=some (.string (str (ts.getD 2 [])))):=hid (fun w1 hb=>(hb.cell (p:=⟨g,o+2,none⟩) hg).trans (hc 2 (by omega)))
 have HN2:=hid (fun(w1:World) (hb:Below w.heap.size w w1)=>number_any (ts.getD 2 []) w1 (getD_len hl 2) (hW.below hb))
 have HA:Hid (ansGau E X0 ts=((numP (ts.getD 0 [])).bind fun a0=>(numP (ts.getD 1 [])).bind fun a1=>(numP (ts.getD 2 [])).bind fun a2=>some (if E a0 a1 a2=0 then Lib.itoa (X0 a0 a1 a2)else errT (E a0 a1 a2))).getD badT):=hid rfl
 generalize ts.getD 0 []=s0 at*
 generalize ts.getD 1 []=s1 at*
 generalize ts.getD 2 []=s2 at*
 have HB0:Hid (numP s0=none→ansGau E X0 ts=badT):=hid (fun h=>by
  rw[HA.out,h]
  rfl)
 have HB1:Hid (numP s1=none→ansGau E X0 ts=badT):=hid (fun h=>by
  rw[HA.out,h]
  cases numP s0<;>rfl)
 have HB2:Hid (numP s2=none→ansGau E X0 ts=badT):=hid (fun h=>by
  rw[HA.out,h]
  cases numP s0<;>cases numP s1<;>rfl)
 have HAA:Hid (∀(a0:Nat) (a1:Nat) (a2:Nat),numP s0=some a0→numP s1=some a1→numP s2=some a2→ansGau E X0 ts=if E a0 a1 a2=0 then Lib.itoa (X0 a0 a1 a2)else errT (E a0 a1 a2)):=hid (fun a0 a1 a2 h0 h1 h2=>by rw[HA.out,h0,h1,h2];rfl)
 have HG2:Hid (∀w',ansGau E X0 ts=badT→Below w.heap.size w w'→TE (ansGau E X0 ts) w (badE [98,97,100]) w'):=hid (fun w' h hb=>by rw[h];exact TE.bad (A:=badT) hb)
 have HG3:=hid (fun A e w1 w' (h:ansGau E X0 ts=A) (hb:Below w.heap.size w w1) (ht:TE A w1 e w')=>(show TE (ansGau E X0 ts) w e w' by rw[h];exact ht.pre hb))
 clear hc hl hW
 generalize TE (ansGau E X0 ts) w=G at*
 go_enter Tryz.func125,Tryz.ntmps125
 go_wp2
 refine region_dagPL [3,4,5,6,7,8,9,10,11,12,13,14,15,16,17] [fun v _=>v= .slice (some ⟨g,o,none⟩) 3 c,fun v _=>v= .pointer (some ⟨g,o,none⟩),fun v _=>v= .string (str s0),fun v _=>∃n:Nat,numP s0=some n∧v= .int .i64 n,fun v _=>v= .slice (some ⟨g,o,none⟩) 3 c,fun v _=>v= .pointer (some ⟨g,o+1,none⟩),fun v _=>v= .string (str s1),fun v _=>∃n:Nat,numP s1=some n∧v= .int .i64 n,fun v _=>v= .slice (some ⟨g,o,none⟩) 3 c,fun v _=>v= .pointer (some ⟨g,o+2,none⟩),fun v _=>v= .string (str s2),fun v _=>∃n:Nat,numP s2=some n∧v= .int .i64 n,fun v w'=>RCGau E X0 s0 s1 s2 v w',fun v _=>RXGau0 E X0 s0 s1 s2 v,fun v _=>REGau E X0 s0 s1 s2 v] (by kernel_rfl) (by kernel_rfl) rfl rfl ⟨Kp_eq _,Kp_eq _,Kp_eq _,fun v w1 w2 h _ hb=>h,Kp_eq _,Kp_eq _,Kp_eq _,fun v w1 w2 h _ hb=>h,Kp_eq _,Kp_eq _,Kp_eq _,fun v w1 w2 h _ hb=>h,fun v w1 w2 ⟨a0,a1,a2,hr0,hr1,hr2,he,hz,hk⟩ _ hb=>⟨a0,a1,a2,hr0,hr1,hr2,he,hz,fun h0=>(let j0:=hk h0;j0)⟩,fun v w1 w2 h _ hb=>h,fun v w1 w2 h _ hb=>h,trivial⟩ ⟨?_,?_,?_,?_,?_,?_,?_,?_,?_,?_,?_,?_,?_,?_,?_,trivial⟩ ?_
 ·intro a w' K hb hf hdf hd hK
  exact dag_move _ rfl (hK _ _ (hf 0 rfl) (Below.refl _ _))
 ·intro a w' K hb hf hdf hd hK
  have h3:a.tmps[3]?.getD undef= .slice (some ⟨g,o,none⟩) 3 c:=ev_tmp (hd 0 (by decide) (by kernel_rfl))
  clear hf hd hdf
  refine ?_
  go_simp
  exact hK _ _ rfl (Below.refl _ _)
 ·intro a w' K hb hf hdf hd hK
  have h3:a.tmps[4]?.getD undef= .pointer (some ⟨g,o,none⟩):=ev_tmp (hd 1 (by decide) (by kernel_rfl))
  have hcl:=HC0.out w' hb
  clear hf hd hdf
  refine ?_
  go_simp
  exact hK _ _ rfl (Below.refl _ _)
 ·intro a w' K hb hf hdf hd hK
  have h3:a.eval (.tmp 5)=_:=hd 2 (by decide) (by kernel_rfl)
  refine dag_callp _ _ _ #[_] rfl (by rw[List.map_toArray,List.map_cons,List.map_nil,h3]) _ Tryz.func33 (by kernel_rfl) (by kernel_rfl) ?_
  refine(HN0.out w' hb).mono ?_
  rintro e w2 ⟨h,hb2⟩
  rcases h with⟨x,hn,rfl⟩|⟨hn,rfl⟩
  ·exact .inl ⟨_,rfl,hK _ _ ⟨x,hn,rfl⟩ hb2⟩
  ·exact .inr ⟨_,rfl,hdf,HG2.out w2 (HB0.out hn) (hb.trans (hb2.mono hb.size))⟩
 ·intro a w' K hb hf hdf hd hK
  exact dag_move _ rfl (hK _ _ (hf 0 rfl) (Below.refl _ _))
 ·intro a w' K hb hf hdf hd hK
  have h3:a.tmps[7]?.getD undef= .slice (some ⟨g,o,none⟩) 3 c:=ev_tmp (hd 4 (by decide) (by kernel_rfl))
  clear hf hd hdf
  refine ?_
  go_simp
  exact hK _ _ rfl (Below.refl _ _)
 ·intro a w' K hb hf hdf hd hK
  have h3:a.tmps[8]?.getD undef= .pointer (some ⟨g,o+1,none⟩):=ev_tmp (hd 5 (by decide) (by kernel_rfl))
  have hcl:=HC1.out w' hb
  clear hf hd hdf
  refine ?_
  go_simp
  exact hK _ _ rfl (Below.refl _ _)
 ·intro a w' K hb hf hdf hd hK
  have h3:a.eval (.tmp 9)=_:=hd 6 (by decide) (by kernel_rfl)
  refine dag_callp _ _ _ #[_] rfl (by rw[List.map_toArray,List.map_cons,List.map_nil,h3]) _ Tryz.func33 (by kernel_rfl) (by kernel_rfl) ?_
  refine(HN1.out w' hb).mono ?_
  rintro e w2 ⟨h,hb2⟩
  rcases h with⟨x,hn,rfl⟩|⟨hn,rfl⟩
  ·exact .inl ⟨_,rfl,hK _ _ ⟨x,hn,rfl⟩ hb2⟩
  ·exact .inr ⟨_,rfl,hdf,HG2.out w2 (HB1.out hn) (hb.trans (hb2.mono hb.size))⟩
 ·intro a w' K hb hf hdf hd hK
  exact dag_move _ rfl (hK _ _ (hf 0 rfl) (Below.refl _ _))
 ·intro a w' K hb hf hdf hd hK
  have h3:a.tmps[11]?.getD undef= .slice (some ⟨g,o,none⟩) 3 c:=ev_tmp (hd 8 (by decide) (by kernel_rfl))
  clear hf hd hdf
  refine ?_
  go_simp
  exact hK _ _ rfl (Below.refl _ _)
 ·intro a w' K hb hf hdf hd hK
  have h3:a.tmps[12]?.getD undef= .pointer (some ⟨g,o+2,none⟩):=ev_tmp (hd 9 (by decide) (by kernel_rfl))
  have hcl:=HC2.out w' hb
  clear hf hd hdf
  refine ?_
  go_simp
  exact hK _ _ rfl (Below.refl _ _)
 ·intro a w' K hb hf hdf hd hK
  have h3:a.eval (.tmp 13)=_:=hd 10 (by decide) (by kernel_rfl)
  refine dag_callp _ _ _ #[_] rfl (by rw[List.map_toArray,List.map_cons,List.map_nil,h3]) _ Tryz.func33 (by kernel_rfl) (by kernel_rfl) ?_
  refine(HN2.out w' hb).mono ?_
  rintro e w2 ⟨h,hb2⟩
  rcases h with⟨x,hn,rfl⟩|⟨hn,rfl⟩
  ·exact .inl ⟨_,rfl,hK _ _ ⟨x,hn,rfl⟩ hb2⟩
  ·exact .inr ⟨_,rfl,hdf,HG2.out w2 (HB2.out hn) (hb.trans (hb2.mono hb.size))⟩
 ·intro a w' K hb hf hdf hd hK
  obtain⟨a0,hr0,hv0⟩:=(show∃n:Nat,numP s0=some n∧a.tmps.getD 6 undef= .int .i64 n from hd 3 (by decide) (by kernel_rfl))
  have hq0:a.eval (.tmp 6)= .int .i64 a0:=hv0
  obtain⟨a1,hr1,hv1⟩:=(show∃n:Nat,numP s1=some n∧a.tmps.getD 10 undef= .int .i64 n from hd 7 (by decide) (by kernel_rfl))
  have hq1:a.eval (.tmp 10)= .int .i64 a1:=hv1
  obtain⟨a2,hr2,hv2⟩:=(show∃n:Nat,numP s2=some n∧a.tmps.getD 14 undef= .int .i64 n from hd 11 (by decide) (by kernel_rfl))
  have hq2:a.eval (.tmp 14)= .int .i64 a2:=hv2
  refine dag_callp _ _ _ #[_,_,_] rfl (by rw[List.map_toArray,List.map_cons,List.map_cons,List.map_cons,List.map_nil,hq0,hq1,hq2]) _ Tryz.func126 (by kernel_rfl) (by kernel_rfl) ?_
  refine(HP.out a0 a1 a2 w' (HWW.out w' hb) (numP_lt hr0) (numP_lt hr1) (numP_lt hr2)).mono ?_
  rintro e w2 ⟨rfl,hz,hk,hb2⟩
  exact .inl ⟨_,rfl,hK _ _ ⟨a0,a1,a2,hr0,hr1,hr2,rfl,hz,hk⟩ hb2⟩
 ·intro a w' K hb hf hdf hd hK
  obtain⟨a0,a1,a2,hr0,hr1,hr2,h3,hz,hk⟩:=(show RCGau E X0 s0 s1 s2 (a.tmps.getD 15 undef) w' from hd 12 (by decide) (by kernel_rfl))
  replace h3:=ev_tmp h3
  have HKK:=hid (And.intro hz hk)
  clear hf hd hdf hz hk
  refine ?_
  go_simp
  exact hK _ _ ⟨a0,a1,a2,hr0,hr1,hr2,rfl⟩ (Below.refl _ _)
 ·intro a w' K hb hf hdf hd hK
  obtain⟨a0,a1,a2,hr0,hr1,hr2,h3,hz,hk⟩:=(show RCGau E X0 s0 s1 s2 (a.tmps.getD 15 undef) w' from hd 12 (by decide) (by kernel_rfl))
  replace h3:=ev_tmp h3
  have HKK:=hid (And.intro hz hk)
  clear hf hd hdf hz hk
  refine ?_
  go_simp
  exact hK _ _ ⟨a0,a1,a2,hr0,hr1,hr2,rfl,HKK.out.1,fun h0=>HKK.out.2 h0⟩ (Below.refl _ _)
 ·rintro vals w8 ⟨hh0,hh1,hh2,hh3,hh4,hh5,hh6,hh7,hh8,hh9,hh10,hh11,hh12,hx0,hxe,_⟩ hb8
  clear hh0 hh1 hh2 hh3 hh4 hh5 hh6 hh7 hh8 hh9 hh10 hh11 hh12
  simp only[Nat.reduceAdd]at hx0 hxe
  simp only[putAll,Act.put,List.setIfInBounds_toArray,List.set_cons_zero,List.set_cons_succ,List.drop_succ_cons,List.drop_zero,List.length_cons,List.length_nil,Nat.reduceAdd]
  obtain⟨a0,a1,a2,hr0,hr1,hr2,hve,⟨he0,he6⟩,hki⟩:=hxe
  obtain⟨b0,b1,b2,hb0,hb1,hb2,hv0⟩:=hx0
  cases hr0.symm.trans hb0
  cases hr1.symm.trans hb1
  cases hr2.symm.trans hb2
  clear hb0 hb1 hb2
  rw[hv0,hve]
  have HT:=hid (told_int (X0 a0 a1 a2) (E a0 a1 a2) w8 he0 he6 (fun h0=>(hki h0)) (HWW.out w8 hb8))
  have HAT:=hid (HAA.out a0 a1 a2 hr0 hr1 hr2)
  have HB8:=hid hb8
  clear hb8 he0 he6 hki hr0 hr1 hr2
  clear hve hv0
  generalize (if E a0 a1 a2=0 then Lib.itoa (X0 a0 a1 a2)else errT (E a0 a1 a2))=AT at*
  go_wp2_with fail
  refine HT.out.mono ?_
  intro e w10 h10
  have HZ:=hid (HG3.out _ e w8 w10 HAT.out HB8.out h10)
  rcases h10.1 with rfl|rfl
  ·clear h10
   go_wp2
   exact HZ.out
  ·exact⟨rfl,HZ.out⟩
def ansRao (E:Nat→Nat→Nat→Int) (X0:Nat→Nat→Nat→Int) (ts:List (List UInt8)):List UInt8:=((numP (ts.getD 0 [])).bind fun a0=>(numP (ts.getD 1 [])).bind fun a1=>(numP (ts.getD 2 [])).bind fun a2=>some (if E a0 a1 a2=0 then Lib.itoa (X0 a0 a1 a2)else errT (E a0 a1 a2))).getD badT
def PkRao (E:Nat→Nat→Nat→Int) (X0:Nat→Nat→Nat→Int):Prop:=∀(a0:Nat) (a1:Nat) (a2:Nat) (w1:World),RunW w1→a0<1000000000→a1<1000000000→a2<1000000000→Calls Tryz.prog 131 #[.int .i64 a0,.int .i64 a1,.int .i64 a2] w1 fun e w'=>e= .returned (.tuple #[.int .i64 (X0 a0 a1 a2),.int .i64 (E a0 a1 a2)])∧(0≤E a0 a1 a2∧E a0 a1 a2≤6)∧(E a0 a1 a2=0→I64 (X0 a0 a1 a2))∧Below w1.heap.size w1 w'
def RCRao (E:Nat→Nat→Nat→Int) (X0:Nat→Nat→Nat→Int) (s0 s1 s2:List UInt8) (v:Value) (w':World):Prop:=∃(a0:Nat) (a1:Nat) (a2:Nat),numP s0=some a0∧numP s1=some a1∧numP s2=some a2∧v= .tuple #[.int .i64 (X0 a0 a1 a2),.int .i64 (E a0 a1 a2)]∧(0≤E a0 a1 a2∧E a0 a1 a2≤6)∧(E a0 a1 a2=0→I64 (X0 a0 a1 a2))
def RXRao0 (E:Nat→Nat→Nat→Int) (X0:Nat→Nat→Nat→Int) (s0 s1 s2:List UInt8) (v:Value):Prop:=∃(a0:Nat) (a1:Nat) (a2:Nat),numP s0=some a0∧numP s1=some a1∧numP s2=some a2∧v= .int .i64 (X0 a0 a1 a2)
def RERao (E:Nat→Nat→Nat→Int) (X0:Nat→Nat→Nat→Int) (s0 s1 s2:List UInt8) (v:Value):Prop:=∃(a0:Nat) (a1:Nat) (a2:Nat),numP s0=some a0∧numP s1=some a1∧numP s2=some a2∧v= .int .i64 (E a0 a1 a2)∧(0≤E a0 a1 a2∧E a0 a1 a2≤6)∧(E a0 a1 a2=0→I64 (X0 a0 a1 a2))
theorem cmdRao (E:Nat→Nat→Nat→Int) (X0:Nat→Nat→Nat→Int) (HP0:PkRao E X0) (ts:List (List UInt8)) (hts:ts.length=3) (v:Value) (w:World) (hW:RunW w) (hv:SS w v ts) (hl:∀t∈ts,t.length≤10000):
 Calls Tryz.prog 130 #[v] w (TE (ansRao E X0 ts) w):=by
 have HP:=hid HP0
 have HWW:=hid (fun(w1:World) (hb:Below w.heap.size w w1)=>hW.below hb)
 obtain⟨g,o,c,rfl,hg,hc⟩:=hv
 rw[hts]
 have HC0:Hid (∀w1:World,Below w.heap.size w w1→w1.cell? ⟨g,o,none⟩=some (.string (str (ts.getD 0 [])))):=hid (fun w1 hb=>(hb.cell (p:=⟨g,o+0,none⟩) hg).trans (hc 0 (by omega)))
 have HN0:=hid (fun(w1:World) (hb:Below w.heap.size w w1)=>number_any (ts.getD 0 []) w1 (getD_len hl 0) (hW.below hb))
 have HC1:Hid (∀w1:World,Below w.heap.size w w1→w1.cell? ⟨g,o+1,none⟩=some (.string (str (ts.getD 1 [])))):=hid (fun w1 hb=>(hb.cell (p:=⟨g,o+1,none⟩) hg).trans (hc 1 (by omega)))
 have HN1:=hid (fun(w1:World) (hb:Below w.heap.size w w1)=>number_any (ts.getD 1 []) w1 (getD_len hl 1) (hW.below hb))
 have HC2:Hid (∀w1:World,Below w.heap.size w w1→w1.cell? ⟨g,o+2,none⟩=some (.string (str (ts.getD 2 [])))):=hid (fun w1 hb=>(hb.cell (p:=⟨g,o+2,none⟩) hg).trans (hc 2 (by omega)))
 have HN2:=hid (fun(w1:World) (hb:Below w.heap.size w w1)=>number_any (ts.getD 2 []) w1 (getD_len hl 2) (hW.below hb))
 have HA:Hid (ansRao E X0 ts=((numP (ts.getD 0 [])).bind fun a0=>(numP (ts.getD 1 [])).bind fun a1=>(numP (ts.getD 2 [])).bind fun a2=>some (if E a0 a1 a2=0 then Lib.itoa (X0 a0 a1 a2)else errT (E a0 a1 a2))).getD badT):=hid rfl
 generalize ts.getD 0 []=s0 at*
 generalize ts.getD 1 []=s1 at*
 generalize ts.getD 2 []=s2 at*
 have HB0:Hid (numP s0=none→ansRao E X0 ts=badT):=hid (fun h=>by
  rw[HA.out,h]
  rfl)
 have HB1:Hid (numP s1=none→ansRao E X0 ts=badT):=hid (fun h=>by
  rw[HA.out,h]
  cases numP s0<;>rfl)
 have HB2:Hid (numP s2=none→ansRao E X0 ts=badT):=hid (fun h=>by
  rw[HA.out,h]
  cases numP s0<;>cases numP s1<;>rfl)
 have HAA:Hid (∀(a0:Nat) (a1:Nat) (a2:Nat),numP s0=some a0→numP s1=some a1→numP s2=some a2→ansRao E X0 ts=if E a0 a1 a2=0 then Lib.itoa (X0 a0 a1 a2)else errT (E a0 a1 a2)):=hid (fun a0 a1 a2 h0 h1 h2=>by rw[HA.out,h0,h1,h2];rfl)
 have HG2:Hid (∀w',ansRao E X0 ts=badT→Below w.heap.size w w'→TE (ansRao E X0 ts) w (badE [98,97,100]) w'):=hid (fun w' h hb=>by rw[h];exact TE.bad (A:=badT) hb)
 have HG3:=hid (fun A e w1 w' (h:ansRao E X0 ts=A) (hb:Below w.heap.size w w1) (ht:TE A w1 e w')=>(show TE (ansRao E X0 ts) w e w' by rw[h];exact ht.pre hb))
 clear hc hl hW
 generalize TE (ansRao E X0 ts) w=G at*
 go_enter Tryz.func130,Tryz.ntmps130
 go_wp2
 refine region_dagPL [3,4,5,6,7,8,9,10,11,12,13,14,15,16,17] [fun v _=>v= .slice (some ⟨g,o,none⟩) 3 c,fun v _=>v= .pointer (some ⟨g,o,none⟩),fun v _=>v= .string (str s0),fun v _=>∃n:Nat,numP s0=some n∧v= .int .i64 n,fun v _=>v= .slice (some ⟨g,o,none⟩) 3 c,fun v _=>v= .pointer (some ⟨g,o+1,none⟩),fun v _=>v= .string (str s1),fun v _=>∃n:Nat,numP s1=some n∧v= .int .i64 n,fun v _=>v= .slice (some ⟨g,o,none⟩) 3 c,fun v _=>v= .pointer (some ⟨g,o+2,none⟩),fun v _=>v= .string (str s2),fun v _=>∃n:Nat,numP s2=some n∧v= .int .i64 n,fun v w'=>RCRao E X0 s0 s1 s2 v w',fun v _=>RXRao0 E X0 s0 s1 s2 v,fun v _=>RERao E X0 s0 s1 s2 v] (by kernel_rfl) (by kernel_rfl) rfl rfl ⟨Kp_eq _,Kp_eq _,Kp_eq _,fun v w1 w2 h _ hb=>h,Kp_eq _,Kp_eq _,Kp_eq _,fun v w1 w2 h _ hb=>h,Kp_eq _,Kp_eq _,Kp_eq _,fun v w1 w2 h _ hb=>h,fun v w1 w2 ⟨a0,a1,a2,hr0,hr1,hr2,he,hz,hk⟩ _ hb=>⟨a0,a1,a2,hr0,hr1,hr2,he,hz,fun h0=>(let j0:=hk h0;j0)⟩,fun v w1 w2 h _ hb=>h,fun v w1 w2 h _ hb=>h,trivial⟩ ⟨?_,?_,?_,?_,?_,?_,?_,?_,?_,?_,?_,?_,?_,?_,?_,trivial⟩ ?_
 ·intro a w' K hb hf hdf hd hK
  exact dag_move _ rfl (hK _ _ (hf 0 rfl) (Below.refl _ _))
 ·intro a w' K hb hf hdf hd hK
  have h3:a.tmps[3]?.getD undef= .slice (some ⟨g,o,none⟩) 3 c:=ev_tmp (hd 0 (by decide) (by kernel_rfl))
  clear hf hd hdf
  refine ?_
  go_simp
  exact hK _ _ rfl (Below.refl _ _)
 ·intro a w' K hb hf hdf hd hK
  have h3:a.tmps[4]?.getD undef= .pointer (some ⟨g,o,none⟩):=ev_tmp (hd 1 (by decide) (by kernel_rfl))
  have hcl:=HC0.out w' hb
  clear hf hd hdf
  refine ?_
  go_simp
  exact hK _ _ rfl (Below.refl _ _)
 ·intro a w' K hb hf hdf hd hK
  have h3:a.eval (.tmp 5)=_:=hd 2 (by decide) (by kernel_rfl)
  refine dag_callp _ _ _ #[_] rfl (by rw[List.map_toArray,List.map_cons,List.map_nil,h3]) _ Tryz.func33 (by kernel_rfl) (by kernel_rfl) ?_
  refine(HN0.out w' hb).mono ?_
  rintro e w2 ⟨h,hb2⟩
  rcases h with⟨x,hn,rfl⟩|⟨hn,rfl⟩
  ·exact .inl ⟨_,rfl,hK _ _ ⟨x,hn,rfl⟩ hb2⟩
  ·exact .inr ⟨_,rfl,hdf,HG2.out w2 (HB0.out hn) (hb.trans (hb2.mono hb.size))⟩
 ·intro a w' K hb hf hdf hd hK
  exact dag_move _ rfl (hK _ _ (hf 0 rfl) (Below.refl _ _))
 ·intro a w' K hb hf hdf hd hK
  have h3:a.tmps[7]?.getD undef= .slice (some ⟨g,o,none⟩) 3 c:=ev_tmp (hd 4 (by decide) (by kernel_rfl))
  clear hf hd hdf
  refine ?_
  go_simp
  exact hK _ _ rfl (Below.refl _ _)
 ·intro a w' K hb hf hdf hd hK
  have h3:a.tmps[8]?.getD undef= .pointer (some ⟨g,o+1,none⟩):=ev_tmp (hd 5 (by decide) (by kernel_rfl))
  have hcl:=HC1.out w' hb
  clear hf hd hdf
  refine ?_
  go_simp
  exact hK _ _ rfl (Below.refl _ _)
 ·intro a w' K hb hf hdf hd hK
  have h3:a.eval (.tmp 9)=_:=hd 6 (by decide) (by kernel_rfl)
  refine dag_callp _ _ _ #[_] rfl (by rw[List.map_toArray,List.map_cons,List.map_nil,h3]) _ Tryz.func33 (by kernel_rfl) (by kernel_rfl) ?_
  refine(HN1.out w' hb).mono ?_
  rintro e w2 ⟨h,hb2⟩
  rcases h with⟨x,hn,rfl⟩|⟨hn,rfl⟩
  ·exact .inl ⟨_,rfl,hK _ _ ⟨x,hn,rfl⟩ hb2⟩
  ·exact .inr ⟨_,rfl,hdf,HG2.out w2 (HB1.out hn) (hb.trans (hb2.mono hb.size))⟩
 ·intro a w' K hb hf hdf hd hK
  exact dag_move _ rfl (hK _ _ (hf 0 rfl) (Below.refl _ _))
 ·intro a w' K hb hf hdf hd hK
  have h3:a.tmps[11]?.getD undef= .slice (some ⟨g,o,none⟩) 3 c:=ev_tmp (hd 8 (by decide) (by kernel_rfl))
  clear hf hd hdf
  refine ?_
  go_simp
  exact hK _ _ rfl (Below.refl _ _)
 ·intro a w' K hb hf hdf hd hK
  have h3:a.tmps[12]?.getD undef= .pointer (some ⟨g,o+2,none⟩):=ev_tmp (hd 9 (by decide) (by kernel_rfl))
  have hcl:=HC2.out w' hb
  clear hf hd hdf
  refine ?_
  go_simp
  exact hK _ _ rfl (Below.refl _ _)
 ·intro a w' K hb hf hdf hd hK
  have h3:a.eval (.tmp 13)=_:=hd 10 (by decide) (by kernel_rfl)
  refine dag_callp _ _ _ #[_] rfl (by rw[List.map_toArray,List.map_cons,List.map_nil,h3]) _ Tryz.func33 (by kernel_rfl) (by kernel_rfl) ?_
  refine(HN2.out w' hb).mono ?_
  rintro e w2 ⟨h,hb2⟩
  rcases h with⟨x,hn,rfl⟩|⟨hn,rfl⟩
  ·exact .inl ⟨_,rfl,hK _ _ ⟨x,hn,rfl⟩ hb2⟩
  ·exact .inr ⟨_,rfl,hdf,HG2.out w2 (HB2.out hn) (hb.trans (hb2.mono hb.size))⟩
 ·intro a w' K hb hf hdf hd hK
  obtain⟨a0,hr0,hv0⟩:=(show∃n:Nat,numP s0=some n∧a.tmps.getD 6 undef= .int .i64 n from hd 3 (by decide) (by kernel_rfl))
  have hq0:a.eval (.tmp 6)= .int .i64 a0:=hv0
  obtain⟨a1,hr1,hv1⟩:=(show∃n:Nat,numP s1=some n∧a.tmps.getD 10 undef= .int .i64 n from hd 7 (by decide) (by kernel_rfl))
  have hq1:a.eval (.tmp 10)= .int .i64 a1:=hv1
  obtain⟨a2,hr2,hv2⟩:=(show∃n:Nat,numP s2=some n∧a.tmps.getD 14 undef= .int .i64 n from hd 11 (by decide) (by kernel_rfl))
  have hq2:a.eval (.tmp 14)= .int .i64 a2:=hv2
  refine dag_callp _ _ _ #[_,_,_] rfl (by rw[List.map_toArray,List.map_cons,List.map_cons,List.map_cons,List.map_nil,hq0,hq1,hq2]) _ Tryz.func131 (by kernel_rfl) (by kernel_rfl) ?_
  refine(HP.out a0 a1 a2 w' (HWW.out w' hb) (numP_lt hr0) (numP_lt hr1) (numP_lt hr2)).mono ?_
  rintro e w2 ⟨rfl,hz,hk,hb2⟩
  exact .inl ⟨_,rfl,hK _ _ ⟨a0,a1,a2,hr0,hr1,hr2,rfl,hz,hk⟩ hb2⟩
 ·intro a w' K hb hf hdf hd hK
  obtain⟨a0,a1,a2,hr0,hr1,hr2,h3,hz,hk⟩:=(show RCRao E X0 s0 s1 s2 (a.tmps.getD 15 undef) w' from hd 12 (by decide) (by kernel_rfl))
  replace h3:=ev_tmp h3
  have HKK:=hid (And.intro hz hk)
  clear hf hd hdf hz hk
  refine ?_
  go_simp
  exact hK _ _ ⟨a0,a1,a2,hr0,hr1,hr2,rfl⟩ (Below.refl _ _)
 ·intro a w' K hb hf hdf hd hK
  obtain⟨a0,a1,a2,hr0,hr1,hr2,h3,hz,hk⟩:=(show RCRao E X0 s0 s1 s2 (a.tmps.getD 15 undef) w' from hd 12 (by decide) (by kernel_rfl))
  replace h3:=ev_tmp h3
  have HKK:=hid (And.intro hz hk)
  clear hf hd hdf hz hk
  refine ?_
  go_simp
  exact hK _ _ ⟨a0,a1,a2,hr0,hr1,hr2,rfl,HKK.out.1,fun h0=>HKK.out.2 h0⟩ (Below.refl _ _)
 ·rintro vals w8 ⟨hh0,hh1,hh2,hh3,hh4,hh5,hh6,hh7,hh8,hh9,hh10,hh11,hh12,hx0,hxe,_⟩ hb8
  clear hh0 hh1 hh2 hh3 hh4 hh5 hh6 hh7 hh8 hh9 hh10 hh11 hh12
  simp only[Nat.reduceAdd]at hx0 hxe
  simp only[putAll,Act.put,List.setIfInBounds_toArray,List.set_cons_zero,List.set_cons_succ,List.drop_succ_cons,List.drop_zero,List.length_cons,List.length_nil,Nat.reduceAdd]
  obtain⟨a0,a1,a2,hr0,hr1,hr2,hve,⟨he0,he6⟩,hki⟩:=hxe
  obtain⟨b0,b1,b2,hb0,hb1,hb2,hv0⟩:=hx0
  cases hr0.symm.trans hb0
  cases hr1.symm.trans hb1
  cases hr2.symm.trans hb2
  clear hb0 hb1 hb2
  rw[hv0,hve]
  have HT:=hid (told_int (X0 a0 a1 a2) (E a0 a1 a2) w8 he0 he6 (fun h0=>(hki h0)) (HWW.out w8 hb8))
  have HAT:=hid (HAA.out a0 a1 a2 hr0 hr1 hr2)
  have HB8:=hid hb8
  clear hb8 he0 he6 hki hr0 hr1 hr2
  clear hve hv0
  generalize (if E a0 a1 a2=0 then Lib.itoa (X0 a0 a1 a2)else errT (E a0 a1 a2))=AT at*
  go_wp2_with fail
  refine HT.out.mono ?_
  intro e w10 h10
  have HZ:=hid (HG3.out _ e w8 w10 HAT.out HB8.out h10)
  rcases h10.1 with rfl|rfl
  ·clear h10
   go_wp2
   exact HZ.out
  ·exact⟨rfl,HZ.out⟩
def ansBru (E:Nat→Nat→Int) (X0:Nat→Nat→List Int) (ts:List (List UInt8)):List UInt8:=((numP (ts.getD 0 [])).bind fun a0=>(numP (ts.getD 1 [])).bind fun a1=>some (if E a0 a1=0 then tellI (X0 a0 a1)else errT (E a0 a1))).getD badT
def PkBru (E:Nat→Nat→Int) (X0:Nat→Nat→List Int):Prop:=∀(a0:Nat) (a1:Nat) (w1:World),RunW w1→a0<1000000000→a1<1000000000→Calls Tryz.prog 137 #[.int .i64 a0,.int .i64 a1] w1 fun e w'=>∃u0:Value,e= .returned (.tuple #[u0,.int .i64 (E a0 a1)])∧(0≤E a0 a1∧E a0 a1≤6)∧(E a0 a1=0→(Sl w' u0 (X0 a0 a1)∧(∀x∈X0 a0 a1,I64 x)∧(X0 a0 a1).length≤10000))∧(∃pa pn pc,u0= .slice pa pn pc)∧Below w1.heap.size w1 w'
def RCBru (E:Nat→Nat→Int) (X0:Nat→Nat→List Int) (s0 s1:List UInt8) (v:Value) (w':World):Prop:=∃(a0:Nat) (a1:Nat),∃u0:Value,numP s0=some a0∧numP s1=some a1∧v= .tuple #[u0,.int .i64 (E a0 a1)]∧(0≤E a0 a1∧E a0 a1≤6)∧(E a0 a1=0→(Sl w' u0 (X0 a0 a1)∧(∀x∈X0 a0 a1,I64 x)∧(X0 a0 a1).length≤10000))∧(∃pa pn pc,u0= .slice pa pn pc)
def RXBru0 (E:Nat→Nat→Int) (X0:Nat→Nat→List Int) (s0 s1:List UInt8) (v:Value) (w':World):Prop:=∃(a0:Nat) (a1:Nat),numP s0=some a0∧numP s1=some a1∧(∃pa pn pc,v= .slice pa pn pc)∧(E a0 a1=0→(Sl w' v (X0 a0 a1)∧(∀x∈X0 a0 a1,I64 x)∧(X0 a0 a1).length≤10000))
def REBru (E:Nat→Nat→Int) (X0:Nat→Nat→List Int) (s0 s1:List UInt8) (v:Value):Prop:=∃(a0:Nat) (a1:Nat),numP s0=some a0∧numP s1=some a1∧v= .int .i64 (E a0 a1)∧(0≤E a0 a1∧E a0 a1≤6)∧(E a0 a1=0→True)
theorem cmdBru (E:Nat→Nat→Int) (X0:Nat→Nat→List Int) (HP0:PkBru E X0) (ts:List (List UInt8)) (hts:ts.length=2) (v:Value) (w:World) (hW:RunW w) (hv:SS w v ts) (hl:∀t∈ts,t.length≤10000):
 Calls Tryz.prog 136 #[v] w (TE (ansBru E X0 ts) w):=by
 have HP:=hid HP0
 have HWW:=hid (fun(w1:World) (hb:Below w.heap.size w w1)=>hW.below hb)
 obtain⟨g,o,c,rfl,hg,hc⟩:=hv
 rw[hts]
 have HC0:Hid (∀w1:World,Below w.heap.size w w1→w1.cell? ⟨g,o,none⟩=some (.string (str (ts.getD 0 [])))):=hid (fun w1 hb=>(hb.cell (p:=⟨g,o+0,none⟩) hg).trans (hc 0 (by omega)))
 have HN0:=hid (fun(w1:World) (hb:Below w.heap.size w w1)=>number_any (ts.getD 0 []) w1 (getD_len hl 0) (hW.below hb))
 have HC1:Hid (∀w1:World,Below w.heap.size w w1→w1.cell? ⟨g,o+1,none⟩=some (.string (str (ts.getD 1 [])))):=hid (fun w1 hb=>(hb.cell (p:=⟨g,o+1,none⟩) hg).trans (hc 1 (by omega)))
 have HN1:=hid (fun(w1:World) (hb:Below w.heap.size w w1)=>number_any (ts.getD 1 []) w1 (getD_len hl 1) (hW.below hb))
 have HA:Hid (ansBru E X0 ts=((numP (ts.getD 0 [])).bind fun a0=>(numP (ts.getD 1 [])).bind fun a1=>some (if E a0 a1=0 then tellI (X0 a0 a1)else errT (E a0 a1))).getD badT):=hid rfl
 generalize ts.getD 0 []=s0 at*
 generalize ts.getD 1 []=s1 at*
 have HB0:Hid (numP s0=none→ansBru E X0 ts=badT):=hid (fun h=>by
  rw[HA.out,h]
  rfl)
 have HB1:Hid (numP s1=none→ansBru E X0 ts=badT):=hid (fun h=>by
  rw[HA.out,h]
  cases numP s0<;>rfl)
 have HAA:Hid (∀(a0:Nat) (a1:Nat),numP s0=some a0→numP s1=some a1→ansBru E X0 ts=if E a0 a1=0 then tellI (X0 a0 a1)else errT (E a0 a1)):=hid (fun a0 a1 h0 h1=>by rw[HA.out,h0,h1];rfl)
 have HG2:Hid (∀w',ansBru E X0 ts=badT→Below w.heap.size w w'→TE (ansBru E X0 ts) w (badE [98,97,100]) w'):=hid (fun w' h hb=>by rw[h];exact TE.bad (A:=badT) hb)
 have HG3:=hid (fun A e w1 w' (h:ansBru E X0 ts=A) (hb:Below w.heap.size w w1) (ht:TE A w1 e w')=>(show TE (ansBru E X0 ts) w e w' by rw[h];exact ht.pre hb))
 clear hc hl hW
 generalize TE (ansBru E X0 ts) w=G at*
 go_enter Tryz.func136,Tryz.ntmps136
 go_wp2
 refine region_dagPL [3,4,5,6,7,8,9,10,11,12,13] [fun v _=>v= .slice (some ⟨g,o,none⟩) 2 c,fun v _=>v= .pointer (some ⟨g,o,none⟩),fun v _=>v= .string (str s0),fun v _=>∃n:Nat,numP s0=some n∧v= .int .i64 n,fun v _=>v= .slice (some ⟨g,o,none⟩) 2 c,fun v _=>v= .pointer (some ⟨g,o+1,none⟩),fun v _=>v= .string (str s1),fun v _=>∃n:Nat,numP s1=some n∧v= .int .i64 n,fun v w'=>RCBru E X0 s0 s1 v w',fun v w'=>RXBru0 E X0 s0 s1 v w',fun v _=>REBru E X0 s0 s1 v] (by kernel_rfl) (by kernel_rfl) rfl rfl ⟨Kp_eq _,Kp_eq _,Kp_eq _,fun v w1 w2 h _ hb=>h,Kp_eq _,Kp_eq _,Kp_eq _,fun v w1 w2 h _ hb=>h,fun v w1 w2 ⟨a0,a1,u0,hr0,hr1,he,hz,hk,hs⟩ _ hb=>⟨a0,a1,u0,hr0,hr1,he,hz,fun h0=>(let j0:=hk h0;⟨j0.1.below hb,j0.2⟩),hs⟩,fun v w1 w2 ⟨a0,a1,hr0,hr1,hs,hk⟩ _ hb=>⟨a0,a1,hr0,hr1,hs,fun h0=>⟨(hk h0).1.below hb,(hk h0).2⟩⟩,fun v w1 w2 h _ hb=>h,trivial⟩ ⟨?_,?_,?_,?_,?_,?_,?_,?_,?_,?_,?_,trivial⟩ ?_
 ·intro a w' K hb hf hdf hd hK
  exact dag_move _ rfl (hK _ _ (hf 0 rfl) (Below.refl _ _))
 ·intro a w' K hb hf hdf hd hK
  have h3:a.tmps[3]?.getD undef= .slice (some ⟨g,o,none⟩) 2 c:=ev_tmp (hd 0 (by decide) (by kernel_rfl))
  clear hf hd hdf
  refine ?_
  go_simp
  exact hK _ _ rfl (Below.refl _ _)
 ·intro a w' K hb hf hdf hd hK
  have h3:a.tmps[4]?.getD undef= .pointer (some ⟨g,o,none⟩):=ev_tmp (hd 1 (by decide) (by kernel_rfl))
  have hcl:=HC0.out w' hb
  clear hf hd hdf
  refine ?_
  go_simp
  exact hK _ _ rfl (Below.refl _ _)
 ·intro a w' K hb hf hdf hd hK
  have h3:a.eval (.tmp 5)=_:=hd 2 (by decide) (by kernel_rfl)
  refine dag_callp _ _ _ #[_] rfl (by rw[List.map_toArray,List.map_cons,List.map_nil,h3]) _ Tryz.func33 (by kernel_rfl) (by kernel_rfl) ?_
  refine(HN0.out w' hb).mono ?_
  rintro e w2 ⟨h,hb2⟩
  rcases h with⟨x,hn,rfl⟩|⟨hn,rfl⟩
  ·exact .inl ⟨_,rfl,hK _ _ ⟨x,hn,rfl⟩ hb2⟩
  ·exact .inr ⟨_,rfl,hdf,HG2.out w2 (HB0.out hn) (hb.trans (hb2.mono hb.size))⟩
 ·intro a w' K hb hf hdf hd hK
  exact dag_move _ rfl (hK _ _ (hf 0 rfl) (Below.refl _ _))
 ·intro a w' K hb hf hdf hd hK
  have h3:a.tmps[7]?.getD undef= .slice (some ⟨g,o,none⟩) 2 c:=ev_tmp (hd 4 (by decide) (by kernel_rfl))
  clear hf hd hdf
  refine ?_
  go_simp
  exact hK _ _ rfl (Below.refl _ _)
 ·intro a w' K hb hf hdf hd hK
  have h3:a.tmps[8]?.getD undef= .pointer (some ⟨g,o+1,none⟩):=ev_tmp (hd 5 (by decide) (by kernel_rfl))
  have hcl:=HC1.out w' hb
  clear hf hd hdf
  refine ?_
  go_simp
  exact hK _ _ rfl (Below.refl _ _)
 ·intro a w' K hb hf hdf hd hK
  have h3:a.eval (.tmp 9)=_:=hd 6 (by decide) (by kernel_rfl)
  refine dag_callp _ _ _ #[_] rfl (by rw[List.map_toArray,List.map_cons,List.map_nil,h3]) _ Tryz.func33 (by kernel_rfl) (by kernel_rfl) ?_
  refine(HN1.out w' hb).mono ?_
  rintro e w2 ⟨h,hb2⟩
  rcases h with⟨x,hn,rfl⟩|⟨hn,rfl⟩
  ·exact .inl ⟨_,rfl,hK _ _ ⟨x,hn,rfl⟩ hb2⟩
  ·exact .inr ⟨_,rfl,hdf,HG2.out w2 (HB1.out hn) (hb.trans (hb2.mono hb.size))⟩
 ·intro a w' K hb hf hdf hd hK
  obtain⟨a0,hr0,hv0⟩:=(show∃n:Nat,numP s0=some n∧a.tmps.getD 6 undef= .int .i64 n from hd 3 (by decide) (by kernel_rfl))
  have hq0:a.eval (.tmp 6)= .int .i64 a0:=hv0
  obtain⟨a1,hr1,hv1⟩:=(show∃n:Nat,numP s1=some n∧a.tmps.getD 10 undef= .int .i64 n from hd 7 (by decide) (by kernel_rfl))
  have hq1:a.eval (.tmp 10)= .int .i64 a1:=hv1
  refine dag_callp _ _ _ #[_,_] rfl (by rw[List.map_toArray,List.map_cons,List.map_cons,List.map_nil,hq0,hq1]) _ Tryz.func137 (by kernel_rfl) (by kernel_rfl) ?_
  refine(HP.out a0 a1 w' (HWW.out w' hb) (numP_lt hr0) (numP_lt hr1)).mono ?_
  rintro e w2 ⟨u0,rfl,hz,hk,hs,hb2⟩
  exact .inl ⟨_,rfl,hK _ _ ⟨a0,a1,u0,hr0,hr1,rfl,hz,hk,hs⟩ hb2⟩
 ·intro a w' K hb hf hdf hd hK
  obtain⟨a0,a1,u0,hr0,hr1,h3,hz,hk,hs⟩:=(show RCBru E X0 s0 s1 (a.tmps.getD 11 undef) w' from hd 8 (by decide) (by kernel_rfl))
  replace h3:=ev_tmp h3
  have HKK:=hid (And.intro hz hk)
  clear hf hd hdf hz hk
  refine ?_
  go_simp
  exact hK _ _ ⟨a0,a1,hr0,hr1,hs,fun h0=>HKK.out.2 h0⟩ (Below.refl _ _)
 ·intro a w' K hb hf hdf hd hK
  obtain⟨a0,a1,u0,hr0,hr1,h3,hz,hk,hs⟩:=(show RCBru E X0 s0 s1 (a.tmps.getD 11 undef) w' from hd 8 (by decide) (by kernel_rfl))
  replace h3:=ev_tmp h3
  have HKK:=hid (And.intro hz hk)
  clear hf hd hdf hz hk
  refine ?_
  go_simp
  exact hK _ _ ⟨a0,a1,hr0,hr1,rfl,HKK.out.1,fun h0=>trivial⟩ (Below.refl _ _)
 ·rintro vals w8 ⟨hh0,hh1,hh2,hh3,hh4,hh5,hh6,hh7,hh8,hx0,hxe,_⟩ hb8
  clear hh0 hh1 hh2 hh3 hh4 hh5 hh6 hh7 hh8
  simp only[Nat.reduceAdd]at hx0 hxe
  simp only[putAll,Act.put,List.setIfInBounds_toArray,List.set_cons_zero,List.set_cons_succ,List.drop_succ_cons,List.drop_zero,List.length_cons,List.length_nil,Nat.reduceAdd]
  obtain⟨a0,a1,hr0,hr1,hve,⟨he0,he6⟩,hki⟩:=hxe
  obtain⟨b0,b1,hb0,hb1,⟨pa0,pn0,pc0,hv0⟩,hk0⟩:=hx0
  cases hr0.symm.trans hb0
  cases hr1.symm.trans hb1
  clear hb0 hb1
  rw[hv0,hve]
  rw[hv0]at hk0
  have HT:=hid (told_ints _ (X0 a0 a1) (E a0 a1) w8 he0 he6 (fun h0=>(hk0 h0)) (HWW.out w8 hb8))
  have HAT:=hid (HAA.out a0 a1 hr0 hr1)
  have HB8:=hid hb8
  clear hb8 he0 he6 hki hr0 hr1 hk0
  clear hve hv0
  generalize (if E a0 a1=0 then tellI (X0 a0 a1)else errT (E a0 a1))=AT at*
  go_wp2_with fail
  refine HT.out.mono ?_
  intro e w10 h10
  have HZ:=hid (HG3.out _ e w8 w10 HAT.out HB8.out h10)
  rcases h10.1 with rfl|rfl
  ·clear h10
   go_wp2
   exact HZ.out
  ·exact⟨rfl,HZ.out⟩
end Go.Proofs.YtnnaadmegeeinaaGreatDoor
