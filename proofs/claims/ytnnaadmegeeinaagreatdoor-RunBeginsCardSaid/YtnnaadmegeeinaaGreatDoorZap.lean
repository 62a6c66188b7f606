/-
  Part 42 of a proof: what it proves stands in the last text.
-/
import Derived.Test.YtnnaadmegeeinaaGreatDoorZao
set_option linter.unusedVariables false
set_option maxHeartbeats 8000000
set_option maxRecDepth 100000
namespace Go.Proofs.YtnnaadmegeeinaaGreatDoor
open Go.RowKit
def ansCyc (E:List Nat→Int) (X:List Nat→List UInt8) (ts:List (List UInt8)):List UInt8:=((numsP (ts.getD 0 [])).bind fun a=>some (if E a=0 then X a else errT (E a))).getD badT
def PkCyc (E:List Nat→Int) (X:List Nat→List UInt8):Prop:=∀(a:List Nat) (v:Value) (w1:World),RunW w1→Sl w1 v (intsN a)∧(∀x∈a,x<1000000000)∧a.length≤10001→Calls Tryz.prog 40 #[v] w1 fun e w'=>e= .returned (.tuple #[.string (str (X a)),.int .i64 (E a)])∧(0≤E a∧E a≤6)∧(E a=0→True)∧Below w1.heap.size w1 w'
theorem cmdCyc (E:List Nat→Int) (X:List Nat→List UInt8) (HP0:PkCyc E X) (ts:List (List UInt8)) (hts:ts.length=1) (v:Value) (w:World) (hW:RunW w) (hv:SS w v ts) (hl:∀t∈ts,t.length≤10000):
 Calls Tryz.prog 38 #[v] w (TE (ansCyc E X ts) w):=by
 have HP:=hid HP0
 have HWW:=hid (fun(w1:World) (hb:Below w.heap.size w w1)=>hW.below hb)
 obtain⟨g,o,c,rfl,hg,hc⟩:=hv
 rw[hts]
 have hcl:w.cell? ⟨g,o,none⟩=some (.string (str (ts.getD 0 []))):=hc 0 (by omega)
 have HN:=hid (numbers_any (ts.getD 0 []) w (getD_len hl 0) hW)
 have HLS:=hid (getD_len hl 0)
 have HA:Hid (ansCyc E X ts=((numsP (ts.getD 0 [])).bind fun a=>some (if E a=0 then X a else errT (E a))).getD badT):=hid rfl
 generalize ts.getD 0 []=s0 at*
 have HAA:Hid (∀a,numsP s0=some a→ansCyc E X ts=if E a=0 then X a else errT (E a)):=hid (fun a h=>by rw[HA.out,h];rfl)
 have HG2:Hid (∀w',numsP s0=none→Below w.heap.size w w'→TE (ansCyc E X ts) w (badE [98,97,100]) w'):=hid (fun w' h hb=>by rw[HA.out,h];exact TE.bad (A:=badT) hb)
 have HG3:=hid (fun A e w1 w' (h:ansCyc E X ts=A) (hb:Below w.heap.size w w1) (ht:TE A w1 e w')=>(show TE (ansCyc E X ts) w e w' by rw[h];exact ht.pre hb))
 clear hc hl hW HA
 generalize TE (ansCyc E X ts) w=G at*
 go_enter Tryz.func38,Tryz.ntmps38
 go_wp2_with fail
 refine HN.out.mono ?_
 rintro e w1 ⟨hh,hb1⟩
 have HB1:=hid hb1
 clear hb1 HN
 rcases hh with⟨a,u,hn,rfl,hu⟩|⟨hn,rfl⟩
 ·have HPP:=hid (HP.out a u w1 (HWW.out w1 HB1.out) ⟨hu.sl (by rw[List.length_map];have:=numsP_len hn;have:=HLS.out;omega),numsP_lt hn,by have:=numsP_len hn;have:=HLS.out;omega⟩)
  have HAT:=hid (HAA.out a hn)
  obtain⟨ua,uc,ue⟩:=hu.len
  subst ue
  clear hu
  generalize (List.map (fun x:Nat=>(x:Int)) a).length=un at*
  clear hn
  go_wp2_with fail
  refine HPP.out.mono ?_
  rintro e w2 ⟨rfl,⟨he0,he6⟩,hok,hb2⟩
  have HB2:=hid (HB1.out.trans (hb2.mono HB1.out.size))
  have HT:=hid (told_str (str (X a)) (E a) w2 he0 he6 (fun _=>trivial) (HWW.out w2 HB2.out))
  clear he0 he6 hok hb2 HPP
  rw[str_data]at HT
  generalize (if E a=0 then X a else errT (E a))=AT at*
  go_wp2_with fail
  refine HT.out.mono ?_
  intro e w3 h3
  have HZ:=hid (HG3.out _ e w2 w3 HAT.out HB2.out h3)
  rcases h3.1 with rfl|rfl
  ·clear h3
   go_wp2
   exact HZ.out
  ·exact⟨rfl,HZ.out⟩
 ·have HZ:=hid (HG2.out w1 hn HB1.out)
  clear hn
  exact⟨rfl,HZ.out⟩
def ansRul (E:Nat→Int) (X:Nat→List Int) (ts:List (List UInt8)):List UInt8:=((numP (ts.getD 0 [])).bind fun a=>some (if E a=0 then tellI (X a)else errT (E a))).getD badT
def PkRul (E:Nat→Int) (X:Nat→List Int):Prop:=∀(a:Nat) (w1:World),RunW w1→a<1000000000→Calls Tryz.prog 124 #[.int .i64 a] w1 fun e w'=>∃u:Value,e= .returned (.tuple #[u,.int .i64 (E a)])∧(0≤E a∧E a≤6)∧(E a=0→(Sl w' u (X a)∧(∀x∈X a,I64 x)∧(X a).length≤10000))∧(∃pa pn pc,u= .slice pa pn pc)∧Below w1.heap.size w1 w'
theorem cmdRul (E:Nat→Int) (X:Nat→List Int) (HP0:PkRul E X) (ts:List (List UInt8)) (hts:ts.length=1) (v:Value) (w:World) (hW:RunW w) (hv:SS w v ts) (hl:∀t∈ts,t.length≤10000):
 Calls Tryz.prog 123 #[v] w (TE (ansRul E X ts) w):=by
 have HP:=hid HP0
 have HWW:=hid (fun(w1:World) (hb:Below w.heap.size w w1)=>hW.below hb)
 obtain⟨g,o,c,rfl,hg,hc⟩:=hv
 rw[hts]
 have hcl:w.cell? ⟨g,o,none⟩=some (.string (str (ts.getD 0 []))):=hc 0 (by omega)
 have HN:=hid (number_any (ts.getD 0 []) w (getD_len hl 0) hW)
 have HLS:=hid (getD_len hl 0)
 have HA:Hid (ansRul E X ts=((numP (ts.getD 0 [])).bind fun a=>some (if E a=0 then tellI (X a)else errT (E a))).getD badT):=hid rfl
 generalize ts.getD 0 []=s0 at*
 have HAA:Hid (∀a,numP s0=some a→ansRul E X ts=if E a=0 then tellI (X a)else errT (E a)):=hid (fun a h=>by rw[HA.out,h];rfl)
 have HG2:Hid (∀w',numP s0=none→Below w.heap.size w w'→TE (ansRul E X ts) w (badE [98,97,100]) w'):=hid (fun w' h hb=>by rw[HA.out,h];exact TE.bad (A:=badT) hb)
 have HG3:=hid (fun A e w1 w' (h:ansRul E X ts=A) (hb:Below w.heap.size w w1) (ht:TE A w1 e w')=>(show TE (ansRul E X ts) w e w' by rw[h];exact ht.pre hb))
 clear hc hl hW HA
 generalize TE (ansRul E X ts) w=G at*
 go_enter Tryz.func123,Tryz.ntmps123
 go_wp2_with fail
 refine HN.out.mono ?_
 rintro e w1 ⟨hh,hb1⟩
 have HB1:=hid hb1
 clear hb1 HN
 rcases hh with⟨a,hn,rfl⟩|⟨hn,rfl⟩
 ·have HPP:=hid (HP.out a w1 (HWW.out w1 HB1.out) (numP_lt hn))
  have HAT:=hid (HAA.out a hn)
  clear hn
  go_wp2_with fail
  refine HPP.out.mono ?_
  rintro e w2 ⟨u2,rfl,⟨he0,he6⟩,hok,⟨pa,pn,pc,pe⟩,hb2⟩
  have HB2:=hid (HB1.out.trans (hb2.mono HB1.out.size))
  have HT:=hid (told_ints u2 (X a) (E a) w2 he0 he6 hok (HWW.out w2 HB2.out))
  clear he0 he6 hok hb2 HPP
  subst pe
  generalize (if E a=0 then tellI (X a)else errT (E a))=AT at*
  go_wp2_with fail
  refine HT.out.mono ?_
  intro e w3 h3
  have HZ:=hid (HG3.out _ e w2 w3 HAT.out HB2.out h3)
  rcases h3.1 with rfl|rfl
  ·clear h3
   go_wp2
   exact HZ.out
  ·exact⟨rfl,HZ.out⟩
 ·have HZ:=hid (HG2.out w1 hn HB1.out)
  clear hn
  exact⟨rfl,HZ.out⟩
def ansBen (E:List Nat→Int) (X:List Nat→Bool) (ts:List (List UInt8)):List UInt8:=((numsP (ts.getD 0 [])).bind fun a=>some (if E a=0 then tellB (X a)else errT (E a))).getD badT
def PkBen (E:List Nat→Int) (X:List Nat→Bool):Prop:=∀(a:List Nat) (v:Value) (w1:World),RunW w1→Sl w1 v (intsN a)∧(∀x∈a,x<1000000000)∧a.length≤10001→Calls Tryz.prog 129 #[v] w1 fun e w'=>e= .returned (.tuple #[.bool (X a),.int .i64 (E a)])∧(0≤E a∧E a≤6)∧(E a=0→True)∧Below w1.heap.size w1 w'
theorem cmdBen (E:List Nat→Int) (X:List Nat→Bool) (HP0:PkBen E X) (ts:List (List UInt8)) (hts:ts.length=1) (v:Value) (w:World) (hW:RunW w) (hv:SS w v ts) (hl:∀t∈ts,t.length≤10000):
 Calls Tryz.prog 127 #[v] w (TE (ansBen E X ts) w):=by
 have HP:=hid HP0
 have HWW:=hid (fun(w1:World) (hb:Below w.heap.size w w1)=>hW.below hb)
 obtain⟨g,o,c,rfl,hg,hc⟩:=hv
 rw[hts]
 have hcl:w.cell? ⟨g,o,none⟩=some (.string (str (ts.getD 0 []))):=hc 0 (by omega)
 have HN:=hid (numbers_any (ts.getD 0 []) w (getD_len hl 0) hW)
 have HLS:=hid (getD_len hl 0)
 have HA:Hid (ansBen E X ts=((numsP (ts.getD 0 [])).bind fun a=>some (if E a=0 then tellB (X a)else errT (E a))).getD badT):=hid rfl
 generalize ts.getD 0 []=s0 at*
 have HAA:Hid (∀a,numsP s0=some a→ansBen E X ts=if E a=0 then tellB (X a)else errT (E a)):=hid (fun a h=>by rw[HA.out,h];rfl)
 have HG2:Hid (∀w',numsP s0=none→Below w.heap.size w w'→TE (ansBen E X ts) w (badE [98,97,100]) w'):=hid (fun w' h hb=>by rw[HA.out,h];exact TE.bad (A:=badT) hb)
 have HG3:=hid (fun A e w1 w' (h:ansBen E X ts=A) (hb:Below w.heap.size w w1) (ht:TE A w1 e w')=>(show TE (ansBen E X ts) w e w' by rw[h];exact ht.pre hb))
 clear hc hl hW HA
 generalize TE (ansBen E X ts) w=G at*
 go_enter Tryz.func127,Tryz.ntmps127
 go_wp2_with fail
 refine HN.out.mono ?_
 rintro e w1 ⟨hh,hb1⟩
 have HB1:=hid hb1
 clear hb1 HN
 rcases hh with⟨a,u,hn,rfl,hu⟩|⟨hn,rfl⟩
 ·have HPP:=hid (HP.out a u w1 (HWW.out w1 HB1.out) ⟨hu.sl (by rw[List.length_map];have:=numsP_len hn;have:=HLS.out;omega),numsP_lt hn,by have:=numsP_len hn;have:=HLS.out;omega⟩)
  have HAT:=hid (HAA.out a hn)
  obtain⟨ua,uc,ue⟩:=hu.len
  subst ue
  clear hu
  generalize (List.map (fun x:Nat=>(x:Int)) a).length=un at*
  clear hn
  go_wp2_with fail
  refine HPP.out.mono ?_
  rintro e w2 ⟨rfl,⟨he0,he6⟩,hok,hb2⟩
  have HB2:=hid (HB1.out.trans (hb2.mono HB1.out.size))
  have HT:=hid (told_bool (X a) (E a) w2 he0 he6 (fun _=>trivial) (HWW.out w2 HB2.out))
  clear he0 he6 hok hb2 HPP
  generalize (if E a=0 then tellB (X a)else errT (E a))=AT at*
  go_wp2_with fail
  refine HT.out.mono ?_
  intro e w3 h3
  have HZ:=hid (HG3.out _ e w2 w3 HAT.out HB2.out h3)
  rcases h3.1 with rfl|rfl
  ·clear h3
   go_wp2
   exact HZ.out
  ·exact⟨rfl,HZ.out⟩
 ·have HZ:=hid (HG2.out w1 hn HB1.out)
  clear hn
  exact⟨rfl,HZ.out⟩
def ansCir (E:Nat→Int) (X:Nat→List (List Int)) (ts:List (List UInt8)):List UInt8:=((numP (ts.getD 0 [])).bind fun a=>some (if E a=0 then tellR (X a)else errT (E a))).getD badT
def PkCir (E:Nat→Int) (X:Nat→List (List Int)):Prop:=∀(a:Nat) (w1:World),RunW w1→a<1000000000→Calls Tryz.prog 133 #[.int .i64 a] w1 fun e w'=>∃u:Value,e= .returned (.tuple #[u,.int .i64 (E a)])∧(0≤E a∧E a≤6)∧(E a=0→(RL w' u (X a)∧(∀m∈X a,(∀x∈m,I64 x)∧m.length≤1000)∧(X a).length≤1000))∧(∃pa pn pc,u= .slice pa pn pc)∧Below w1.heap.size w1 w'
theorem cmdCir (E:Nat→Int) (X:Nat→List (List Int)) (HP0:PkCir E X) (ts:List (List UInt8)) (hts:ts.length=1) (v:Value) (w:World) (hW:RunW w) (hv:SS w v ts) (hl:∀t∈ts,t.length≤10000):
 Calls Tryz.prog 132 #[v] w (TE (ansCir E X ts) w):=by
 have HP:=hid HP0
 have HWW:=hid (fun(w1:World) (hb:Below w.heap.size w w1)=>hW.below hb)
 obtain⟨g,o,c,rfl,hg,hc⟩:=hv
 rw[hts]
 have hcl:w.cell? ⟨g,o,none⟩=some (.string (str (ts.getD 0 []))):=hc 0 (by omega)
 have HN:=hid (number_any (ts.getD 0 []) w (getD_len hl 0) hW)
 have HLS:=hid (getD_len hl 0)
 have HA:Hid (ansCir E X ts=((numP (ts.getD 0 [])).bind fun a=>some (if E a=0 then tellR (X a)else errT (E a))).getD badT):=hid rfl
 generalize ts.getD 0 []=s0 at*
 have HAA:Hid (∀a,numP s0=some a→ansCir E X ts=if E a=0 then tellR (X a)else errT (E a)):=hid (fun a h=>by rw[HA.out,h];rfl)
 have HG2:Hid (∀w',numP s0=none→Below w.heap.size w w'→TE (ansCir E X ts) w (badE [98,97,100]) w'):=hid (fun w' h hb=>by rw[HA.out,h];exact TE.bad (A:=badT) hb)
 have HG3:=hid (fun A e w1 w' (h:ansCir E X ts=A) (hb:Below w.heap.size w w1) (ht:TE A w1 e w')=>(show TE (ansCir E X ts) w e w' by rw[h];exact ht.pre hb))
 clear hc hl hW HA
 generalize TE (ansCir E X ts) w=G at*
 go_enter Tryz.func132,Tryz.ntmps132
 go_wp2_with fail
 refine HN.out.mono ?_
 rintro e w1 ⟨hh,hb1⟩
 have HB1:=hid hb1
 clear hb1 HN
 rcases hh with⟨a,hn,rfl⟩|⟨hn,rfl⟩
 ·have HPP:=hid (HP.out a w1 (HWW.out w1 HB1.out) (numP_lt hn))
  have HAT:=hid (HAA.out a hn)
  clear hn
  go_wp2_with fail
  refine HPP.out.mono ?_
  rintro e w2 ⟨u2,rfl,⟨he0,he6⟩,hok,⟨pa,pn,pc,pe⟩,hb2⟩
  have HB2:=hid (HB1.out.trans (hb2.mono HB1.out.size))
  have HT:=hid (told_rows u2 (X a) (E a) w2 he0 he6 hok (HWW.out w2 HB2.out))
  clear he0 he6 hok hb2 HPP
  subst pe
  generalize (if E a=0 then tellR (X a)else errT (E a))=AT at*
  go_wp2_with fail
  refine HT.out.mono ?_
  intro e w3 h3
  have HZ:=hid (HG3.out _ e w2 w3 HAT.out HB2.out h3)
  rcases h3.1 with rfl|rfl
  ·clear h3
   go_wp2
   exact HZ.out
  ·exact⟨rfl,HZ.out⟩
 ·have HZ:=hid (HG2.out w1 hn HB1.out)
  clear hn
  exact⟨rfl,HZ.out⟩
def ansCou (E:List Nat→Int) (X:List Nat→Bool) (ts:List (List UInt8)):List UInt8:=((numsP (ts.getD 0 [])).bind fun a=>some (if E a=0 then tellB (X a)else errT (E a))).getD badT
def PkCou (E:List Nat→Int) (X:List Nat→Bool):Prop:=∀(a:List Nat) (v:Value) (w1:World),RunW w1→Sl w1 v (intsN a)∧(∀x∈a,x<1000000000)∧a.length≤10001→Calls Tryz.prog 135 #[v] w1 fun e w'=>e= .returned (.tuple #[.bool (X a),.int .i64 (E a)])∧(0≤E a∧E a≤6)∧(E a=0→True)∧Below w1.heap.size w1 w'
theorem cmdCou (E:List Nat→Int) (X:List Nat→Bool) (HP0:PkCou E X) (ts:List (List UInt8)) (hts:ts.length=1) (v:Value) (w:World) (hW:RunW w) (hv:SS w v ts) (hl:∀t∈ts,t.length≤10000):
 Calls Tryz.prog 134 #[v] w (TE (ansCou E X ts) w):=by
 have HP:=hid HP0
 have HWW:=hid (fun(w1:World) (hb:Below w.heap.size w w1)=>hW.below hb)
 obtain⟨g,o,c,rfl,hg,hc⟩:=hv
 rw[hts]
 have hcl:w.cell? ⟨g,o,none⟩=some (.string (str (ts.getD 0 []))):=hc 0 (by omega)
 have HN:=hid (numbers_any (ts.getD 0 []) w (getD_len hl 0) hW)
 have HLS:=hid (getD_len hl 0)
 have HA:Hid (ansCou E X ts=((numsP (ts.getD 0 [])).bind fun a=>some (if E a=0 then tellB (X a)else errT (E a))).getD badT):=hid rfl
 generalize ts.getD 0 []=s0 at*
 have HAA:Hid (∀a,numsP s0=some a→ansCou E X ts=if E a=0 then tellB (X a)else errT (E a)):=hid (fun a h=>by rw[HA.out,h];rfl)
 have HG2:Hid (∀w',numsP s0=none→Below w.heap.size w w'→TE (ansCou E X ts) w (badE [98,97,100]) w'):=hid (fun w' h hb=>by rw[HA.out,h];exact TE.bad (A:=badT) hb)
 have HG3:=hid (fun A e w1 w' (h:ansCou E X ts=A) (hb:Below w.heap.size w w1) (ht:TE A w1 e w')=>(show TE (ansCou E X ts) w e w' by rw[h];exact ht.pre hb))
 clear hc hl hW HA
 generalize TE (ansCou E X ts) w=G at*
 go_enter Tryz.func134,Tryz.ntmps134
 go_wp2_with fail
 refine HN.out.mono ?_
 rintro e w1 ⟨hh,hb1⟩
 have HB1:=hid hb1
 clear hb1 HN
 rcases hh with⟨a,u,hn,rfl,hu⟩|⟨hn,rfl⟩
 ·have HPP:=hid (HP.out a u w1 (HWW.out w1 HB1.out) ⟨hu.sl (by rw[List.length_map];have:=numsP_len hn;have:=HLS.out;omega),numsP_lt hn,by have:=numsP_len hn;have:=HLS.out;omega⟩)
  have HAT:=hid (HAA.out a hn)
  obtain⟨ua,uc,ue⟩:=hu.len
  subst ue
  clear hu
  generalize (List.map (fun x:Nat=>(x:Int)) a).length=un at*
  clear hn
  go_wp2_with fail
  refine HPP.out.mono ?_
  rintro e w2 ⟨rfl,⟨he0,he6⟩,hok,hb2⟩
  have HB2:=hid (HB1.out.trans (hb2.mono HB1.out.size))
  have HT:=hid (told_bool (X a) (E a) w2 he0 he6 (fun _=>trivial) (HWW.out w2 HB2.out))
  clear he0 he6 hok hb2 HPP
  generalize (if E a=0 then tellB (X a)else errT (E a))=AT at*
  go_wp2_with fail
  refine HT.out.mono ?_
  intro e w3 h3
  have HZ:=hid (HG3.out _ e w2 w3 HAT.out HB2.out h3)
  rcases h3.1 with rfl|rfl
  ·clear h3
   go_wp2
   exact HZ.out
  ·exact⟨rfl,HZ.out⟩
 ·have HZ:=hid (HG2.out w1 hn HB1.out)
  clear hn
  exact⟨rfl,HZ.out⟩
def ansCas (E1:Nat→Nat→Int) (X1:Nat→Nat→List Int) (E2:Nat→Nat→Int) (X2:Nat→Nat→Int) (ts:List (List UInt8)):List UInt8:=((numP (ts.getD 0 [])).bind fun a0=>(numP (ts.getD 1 [])).bind fun a1=>some (if E1 a0 a1=0 then(if E2 a0 a1=0 then tellI (X1 a0 a1)++32::Lib.itoa (X2 a0 a1)else errT (E2 a0 a1))else errT (E1 a0 a1))).getD badT
def PkCas1 (E:Nat→Nat→Int) (X:Nat→Nat→List Int):Prop:=∀(a0:Nat) (a1:Nat) (w1:World),RunW w1→a0<1000000000→a1<1000000000→Calls Tryz.prog 221 #[.int .i64 a0,.int .i64 a1] w1 fun e w'=>∃u:Value,e= .returned (.tuple #[u,.int .i64 (E a0 a1)])∧(0≤E a0 a1∧E a0 a1≤6)∧(E a0 a1=0→(Sl w' u (X a0 a1)∧(∀x∈X a0 a1,I64 x)∧(X a0 a1).length≤10000))∧(∃pa pn pc,u= .slice pa pn pc)∧Below w1.heap.size w1 w'
def PkCas2 (E:Nat→Nat→Int) (X:Nat→Nat→Int):Prop:=∀(a0:Nat) (a1:Nat) (w1:World),RunW w1→a0<1000000000→a1<1000000000→Calls Tryz.prog 222 #[.int .i64 a0,.int .i64 a1] w1 fun e w'=>e= .returned (.tuple #[.int .i64 (X a0 a1),.int .i64 (E a0 a1)])∧(0≤E a0 a1∧E a0 a1≤6)∧(E a0 a1=0→I64 (X a0 a1))∧Below w1.heap.size w1 w'
theorem cmdCas (E1:Nat→Nat→Int) (X1:Nat→Nat→List Int) (E2:Nat→Nat→Int) (X2:Nat→Nat→Int) (HP1:PkCas1 E1 X1) (HP2:PkCas2 E2 X2) (ts:List (List UInt8)) (hts:ts.length=2) (v:Value) (w:World) (hW:RunW w) (hv:SS w v ts) (hl:∀t∈ts,t.length≤10000):
 Calls Tryz.prog 138 #[v] w (TE (ansCas E1 X1 E2 X2 ts) w):=by
 have HP1:=hid HP1
 have HP2:=hid HP2
 have HWW:=hid (fun(w1:World) (hb:Below w.heap.size w w1)=>hW.below hb)
 obtain⟨g,o,c,rfl,hg,hc⟩:=hv
 rw[hts]
 have HC0:Hid (∀w1:World,Below w.heap.size w w1→w1.cell? ⟨g,o,none⟩=some (.string (str (ts.getD 0 [])))):=hid (fun w1 hb=>(hb.cell (p:=⟨g,o+0,none⟩) hg).trans (hc 0 (by omega)))
 have HN0:=hid (fun(w1:World) (hb:Below w.heap.size w w1)=>number_any (ts.getD 0 []) w1 (getD_len hl 0) (hW.below hb))
 have HC1:Hid (∀w1:World,Below w.heap.size w w1→w1.cell? ⟨g,o+1,none⟩=some (.string (str (ts.getD 1 [])))):=hid (fun w1 hb=>(hb.cell (p:=⟨g,o+1,none⟩) hg).trans (hc 1 (by omega)))
 have HN1:=hid (fun(w1:World) (hb:Below w.heap.size w w1)=>number_any (ts.getD 1 []) w1 (getD_len hl 1) (hW.below hb))
 have HA:Hid (ansCas E1 X1 E2 X2 ts=((numP (ts.getD 0 [])).bind fun a0=>(numP (ts.getD 1 [])).bind fun a1=>some (if E1 a0 a1=0 then(if E2 a0 a1=0 then tellI (X1 a0 a1)++32::Lib.itoa (X2 a0 a1)else errT (E2 a0 a1))else errT (E1 a0 a1))).getD badT):=hid rfl
 generalize ts.getD 0 []=s0 at*
 generalize ts.getD 1 []=s1 at*
 have HB0:Hid (numP s0=none→ansCas E1 X1 E2 X2 ts=badT):=hid (fun h=>by
  rw[HA.out,h]
  rfl)
 have HB1:Hid (numP s1=none→ansCas E1 X1 E2 X2 ts=badT):=hid (fun h=>by
  rw[HA.out,h]
  cases numP s0<;>rfl)
 have HAA:Hid (∀(a0:Nat) (a1:Nat),numP s0=some a0→numP s1=some a1→ansCas E1 X1 E2 X2 ts=if E1 a0 a1=0 then(if E2 a0 a1=0 then tellI (X1 a0 a1)++32::Lib.itoa (X2 a0 a1)else errT (E2 a0 a1))else errT (E1 a0 a1)):=hid (fun a0 a1 h0 h1=>by rw[HA.out,h0,h1];rfl)
 have HG2:Hid (∀w',ansCas E1 X1 E2 X2 ts=badT→Below w.heap.size w w'→TE (ansCas E1 X1 E2 X2 ts) w (badE [98,97,100]) w'):=hid (fun w' h hb=>by rw[h];exact TE.bad (A:=badT) hb)
 have HG3:=hid (fun A e w1 w' (h:ansCas E1 X1 E2 X2 ts=A) (hb:Below w.heap.size w w1) (ht:TE A w1 e w')=>(show TE (ansCas E1 X1 E2 X2 ts) w e w' by rw[h];exact ht.pre hb))
 clear hc hl hW
 generalize TE (ansCas E1 X1 E2 X2 ts) w=G at*
 go_enter Tryz.func138,Tryz.ntmps138
 go_wp2
 refine region_dagPL [8,9,10,11,12,13,14,15] [fun v _=>v= .slice (some ⟨g,o,none⟩) 2 c,fun v _=>v= .pointer (some ⟨g,o,none⟩),fun v _=>v= .string (str s0),fun v _=>∃n:Nat,numP s0=some n∧v= .int .i64 n,fun v _=>v= .slice (some ⟨g,o,none⟩) 2 c,fun v _=>v= .pointer (some ⟨g,o+1,none⟩),fun v _=>v= .string (str s1),fun v _=>∃n:Nat,numP s1=some n∧v= .int .i64 n] (by kernel_rfl) (by kernel_rfl) rfl rfl ⟨Kp_eq _,Kp_eq _,Kp_eq _,fun v w1 w2 h _ hb=>h,Kp_eq _,Kp_eq _,Kp_eq _,fun v w1 w2 h _ hb=>h,trivial⟩ ⟨?_,?_,?_,?_,?_,?_,?_,?_,trivial⟩ ?_
 ·intro a w' K hb hf hdf hd hK
  exact dag_move _ rfl (hK _ _ (hf 0 rfl) (Below.refl _ _))
 ·intro a w' K hb hf hdf hd hK
  have h3:a.tmps[8]?.getD undef= .slice (some ⟨g,o,none⟩) 2 c:=ev_tmp (hd 0 (by decide) (by kernel_rfl))
  clear hf hd hdf
  refine ?_
  go_simp
  exact hK _ _ rfl (Below.refl _ _)
 ·intro a w' K hb hf hdf hd hK
  have h3:a.tmps[9]?.getD undef= .pointer (some ⟨g,o,none⟩):=ev_tmp (hd 1 (by decide) (by kernel_rfl))
  have hcl:=HC0.out w' hb
  clear hf hd hdf
  refine ?_
  go_simp
  exact hK _ _ rfl (Below.refl _ _)
 ·intro a w' K hb hf hdf hd hK
  have h3:a.eval (.tmp 10)=_:=hd 2 (by decide) (by kernel_rfl)
  refine dag_callp _ _ _ #[_] rfl (by rw[List.map_toArray,List.map_cons,List.map_nil,h3]) _ Tryz.func33 (by kernel_rfl) (by kernel_rfl) ?_
  refine(HN0.out w' hb).mono ?_
  rintro e w2 ⟨h,hb2⟩
  rcases h with⟨x,hn,rfl⟩|⟨hn,rfl⟩
  ·exact .inl ⟨_,rfl,hK _ _ ⟨x,hn,rfl⟩ hb2⟩
  ·exact .inr ⟨_,rfl,hdf,HG2.out w2 (HB0.out hn) (hb.trans (hb2.mono hb.size))⟩
 ·intro a w' K hb hf hdf hd hK
  exact dag_move _ rfl (hK _ _ (hf 0 rfl) (Below.refl _ _))
 ·intro a w' K hb hf hdf hd hK
  have h3:a.tmps[12]?.getD undef= .slice (some ⟨g,o,none⟩) 2 c:=ev_tmp (hd 4 (by decide) (by kernel_rfl))
  clear hf hd hdf
  refine ?_
  go_simp
  exact hK _ _ rfl (Below.refl _ _)
 ·intro a w' K hb hf hdf hd hK
  have h3:a.tmps[13]?.getD undef= .pointer (some ⟨g,o+1,none⟩):=ev_tmp (hd 5 (by decide) (by kernel_rfl))
  have hcl:=HC1.out w' hb
  clear hf hd hdf
  refine ?_
  go_simp
  exact hK _ _ rfl (Below.refl _ _)
 ·intro a w' K hb hf hdf hd hK
  have h3:a.eval (.tmp 14)=_:=hd 6 (by decide) (by kernel_rfl)
  refine dag_callp _ _ _ #[_] rfl (by rw[List.map_toArray,List.map_cons,List.map_nil,h3]) _ Tryz.func33 (by kernel_rfl) (by kernel_rfl) ?_
  refine(HN1.out w' hb).mono ?_
  rintro e w2 ⟨h,hb2⟩
  rcases h with⟨x,hn,rfl⟩|⟨hn,rfl⟩
  ·exact .inl ⟨_,rfl,hK _ _ ⟨x,hn,rfl⟩ hb2⟩
  ·exact .inr ⟨_,rfl,hdf,HG2.out w2 (HB1.out hn) (hb.trans (hb2.mono hb.size))⟩
 rintro vals w8 ⟨hh0,hh1,hh2,hh3,hh4,hh5,hh6,hh7,_⟩ hb8
 clear hh0 hh1 hh2 hh4 hh5 hh6
 simp only[Nat.reduceAdd]at hh3 hh7
 simp only[putAll,Act.put,List.setIfInBounds_toArray,List.set_cons_zero,List.set_cons_succ,List.drop_succ_cons,List.drop_zero,List.length_cons,List.length_nil,Nat.reduceAdd]
 obtain⟨a0,hr0,hv0⟩:=hh3
 rw[hv0]
 clear hv0
 obtain⟨a1,hr1,hv1⟩:=hh7
 rw[hv1]
 clear hv1
 have HAT:=hid (HAA.out a0 a1 hr0 hr1)
 have HB8:=hid hb8
 have HQ:=hid (HP1.out a0 a1 w8 (HWW.out w8 hb8) (numP_lt hr0) (numP_lt hr1))
 have HQ2:=hid (fun w1 (hb:Below w8.heap.size w8 w1)=>HP2.out a0 a1 w1 (HWW.out w1 (hb8.trans (hb.mono hb8.size))) (numP_lt hr0) (numP_lt hr1))
 clear hb8 hr0 hr1
 go_wp2_with fail
 refine HQ.out.mono ?_
 rintro e w9 ⟨u1,rfl,⟨he0,he6⟩,hok1,⟨pa1,pn1,pc1,pe1⟩,hb9⟩
 subst pe1
 have HB9:=hid hb9
 clear hb9 HQ
 by_cases hE:E1 a0 a1=0
 ·rw[hE]
  have HH1:=hid (hok1 hE)
  have HC:=hid (check_ok w9)
  have HAT2:=hid (HAT.out.trans (if_pos hE))
  clear HAT he0 he6 hok1 hE
  go_wp2_with fail
  refine HC.out.mono ?_
  rintro e w10 ⟨rfl,hb10⟩
  have HB10:=hid (HB9.out.trans (hb10.mono HB9.out.size))
  have HB10a:=hid hb10
  clear hb10 HC
  have HQ:=hid (HQ2.out w10 HB10.out)
  go_wp2_with fail
  refine HQ.out.mono ?_
  rintro e w11 ⟨rfl,⟨he0,he6⟩,hok2,hb11⟩
  have HB11:=hid ((HB8.out.trans (HB10.out.mono HB8.out.size)).trans (hb11.mono (HB8.out.trans (HB10.out.mono HB8.out.size)).size))
  have HT:=hid (both_ints_int _ (X1 a0 a1) (X2 a0 a1) (E2 a0 a1) w11 he0 he6 (fun h0=>⟨⟨(HH1.out.1.below HB10a.out).below hb11,HH1.out.2⟩,hok2 h0⟩) (HWW.out w11 HB11.out))
  clear he0 he6 hok2 hb11 HQ
  generalize (if E2 a0 a1=0 then tellI (X1 a0 a1)++32::Lib.itoa (X2 a0 a1)else errT (E2 a0 a1))=AT at*
  go_wp2_with fail
  refine HT.out.mono ?_
  intro e w12 h12
  have HZ:=hid (HG3.out _ e w11 w12 HAT2.out HB11.out h12)
  rcases h12.1 with rfl|rfl
  ·clear h12
   go_wp2
   exact HZ.out
  ·exact⟨rfl,HZ.out⟩
 ·have HC:=hid (check_bad (E1 a0 a1) (by omega) he6 w9)
  have HAT2:=hid (HAT.out.trans (if_neg hE))
  clear HAT he0 he6 hok1 hE
  go_wp2_with fail
  refine HC.out.mono ?_
  rintro e w10 ⟨rfl,hb10⟩
  have HB10:=hid (HB9.out.trans (hb10.mono HB9.out.size))
  exact⟨rfl,HG3.out _ _ w8 w10 HAT2.out HB8.out (TE.bad HB10.out)⟩
def ansDif (E1:Nat→List Nat→Int) (X1:Nat→List Nat→Int) (E2:Nat→List Nat→Int) (X2:Nat→List Nat→List Int) (ts:List (List UInt8)):List UInt8:=((numP (ts.getD 0 [])).bind fun a0=>(numsP (ts.getD 1 [])).bind fun a1=>some (if E1 a0 a1=0 then(if E2 a0 a1=0 then Lib.itoa (X1 a0 a1)++32::tellI (X2 a0 a1)else errT (E2 a0 a1))else errT (E1 a0 a1))).getD badT
def PkDif1 (E:Nat→List Nat→Int) (X:Nat→List Nat→Int):Prop:=∀(a0:Nat) (a1:List Nat) (v1:Value) (w1:World),RunW w1→a0<1000000000→Sl w1 v1 (intsN a1)∧(∀x∈a1,x<1000000000)∧a1.length≤10001→Calls Tryz.prog 208 #[.int .i64 a0,v1] w1 fun e w'=>e= .returned (.tuple #[.int .i64 (X a0 a1),.int .i64 (E a0 a1)])∧(0≤E a0 a1∧E a0 a1≤6)∧(E a0 a1=0→I64 (X a0 a1))∧Below w1.heap.size w1 w'
def PkDif2 (E:Nat→List Nat→Int) (X:Nat→List Nat→List Int):Prop:=∀(a0:Nat) (a1:List Nat) (v1:Value) (w1:World),RunW w1→a0<1000000000→Sl w1 v1 (intsN a1)∧(∀x∈a1,x<1000000000)∧a1.length≤10001→Calls Tryz.prog 209 #[.int .i64 a0,v1] w1 fun e w'=>∃u:Value,e= .returned (.tuple #[u,.int .i64 (E a0 a1)])∧(0≤E a0 a1∧E a0 a1≤6)∧(E a0 a1=0→(Sl w' u (X a0 a1)∧(∀x∈X a0 a1,I64 x)∧(X a0 a1).length≤10000))∧(∃pa pn pc,u= .slice pa pn pc)∧Below w1.heap.size w1 w'
theorem cmdDif (E1:Nat→List Nat→Int) (X1:Nat→List Nat→Int) (E2:Nat→List Nat→Int) (X2:Nat→List Nat→List Int) (HP1:PkDif1 E1 X1) (HP2:PkDif2 E2 X2) (ts:List (List UInt8)) (hts:ts.length=2) (v:Value) (w:World) (hW:RunW w) (hv:SS w v ts) (hl:∀t∈ts,t.length≤10000):
 Calls Tryz.prog 122 #[v] w (TE (ansDif E1 X1 E2 X2 ts) w):=by
 have HP1:=hid HP1
 have HP2:=hid HP2
 have HWW:=hid (fun(w1:World) (hb:Below w.heap.size w w1)=>hW.below hb)
 obtain⟨g,o,c,rfl,hg,hc⟩:=hv
 rw[hts]
 have HC0:Hid (∀w1:World,Below w.heap.size w w1→w1.cell? ⟨g,o,none⟩=some (.string (str (ts.getD 0 [])))):=hid (fun w1 hb=>(hb.cell (p:=⟨g,o+0,none⟩) hg).trans (hc 0 (by omega)))
 have HN0:=hid (fun(w1:World) (hb:Below w.heap.size w w1)=>number_any (ts.getD 0 []) w1 (getD_len hl 0) (hW.below hb))
 have HC1:Hid (∀w1:World,Below w.heap.size w w1→w1.cell? ⟨g,o+1,none⟩=some (.string (str (ts.getD 1 [])))):=hid (fun w1 hb=>(hb.cell (p:=⟨g,o+1,none⟩) hg).trans (hc 1 (by omega)))
 have HN1:=hid (fun(w1:World) (hb:Below w.heap.size w w1)=>numbers_any (ts.getD 1 []) w1 (getD_len hl 1) (hW.below hb))
 have HLS1:=hid (getD_len hl 1)
 have HA:Hid (ansDif E1 X1 E2 X2 ts=((numP (ts.getD 0 [])).bind fun a0=>(numsP (ts.getD 1 [])).bind fun a1=>some (if E1 a0 a1=0 then(if E2 a0 a1=0 then Lib.itoa (X1 a0 a1)++32::tellI (X2 a0 a1)else errT (E2 a0 a1))else errT (E1 a0 a1))).getD badT):=hid rfl
 generalize ts.getD 0 []=s0 at*
 generalize ts.getD 1 []=s1 at*
 have HB0:Hid (numP s0=none→ansDif E1 X1 E2 X2 ts=badT):=hid (fun h=>by
  rw[HA.out,h]
  rfl)
 have HB1:Hid (numsP s1=none→ansDif E1 X1 E2 X2 ts=badT):=hid (fun h=>by
  rw[HA.out,h]
  cases numP s0<;>rfl)
 have HAA:Hid (∀(a0:Nat) (a1:List Nat),numP s0=some a0→numsP s1=some a1→ansDif E1 X1 E2 X2 ts=if E1 a0 a1=0 then(if E2 a0 a1=0 then Lib.itoa (X1 a0 a1)++32::tellI (X2 a0 a1)else errT (E2 a0 a1))else errT (E1 a0 a1)):=hid (fun a0 a1 h0 h1=>by rw[HA.out,h0,h1];rfl)
 have HG2:Hid (∀w',ansDif E1 X1 E2 X2 ts=badT→Below w.heap.size w w'→TE (ansDif E1 X1 E2 X2 ts) w (badE [98,97,100]) w'):=hid (fun w' h hb=>by rw[h];exact TE.bad (A:=badT) hb)
 have HG3:=hid (fun A e w1 w' (h:ansDif E1 X1 E2 X2 ts=A) (hb:Below w.heap.size w w1) (ht:TE A w1 e w')=>(show TE (ansDif E1 X1 E2 X2 ts) w e w' by rw[h];exact ht.pre hb))
 clear hc hl hW
 generalize TE (ansDif E1 X1 E2 X2 ts) w=G at*
 go_enter Tryz.func122,Tryz.ntmps122
 go_wp2
 refine region_dagPL [8,9,10,11,12,13,14,15] [fun v _=>v= .slice (some ⟨g,o,none⟩) 2 c,fun v _=>v= .pointer (some ⟨g,o,none⟩),fun v _=>v= .string (str s0),fun v _=>∃n:Nat,numP s0=some n∧v= .int .i64 n,fun v _=>v= .slice (some ⟨g,o,none⟩) 2 c,fun v _=>v= .pointer (some ⟨g,o+1,none⟩),fun v _=>v= .string (str s1),fun v w'=>∃l,numsP s1=some l∧Sl w' v (intsN l)] (by kernel_rfl) (by kernel_rfl) rfl rfl ⟨Kp_eq _,Kp_eq _,Kp_eq _,fun v w1 w2 h _ hb=>h,Kp_eq _,Kp_eq _,Kp_eq _,fun v w1 w2 ⟨l,h1,h2⟩ _ hb=>⟨l,h1,h2.below hb⟩,trivial⟩ ⟨?_,?_,?_,?_,?_,?_,?_,?_,trivial⟩ ?_
 ·intro a w' K hb hf hdf hd hK
  exact dag_move _ rfl (hK _ _ (hf 0 rfl) (Below.refl _ _))
 ·intro a w' K hb hf hdf hd hK
  have h3:a.tmps[8]?.getD undef= .slice (some ⟨g,o,none⟩) 2 c:=ev_tmp (hd 0 (by decide) (by kernel_rfl))
  clear hf hd hdf
  refine ?_
  go_simp
  exact hK _ _ rfl (Below.refl _ _)
 ·intro a w' K hb hf hdf hd hK
  have h3:a.tmps[9]?.getD undef= .pointer (some ⟨g,o,none⟩):=ev_tmp (hd 1 (by decide) (by kernel_rfl))
  have hcl:=HC0.out w' hb
  clear hf hd hdf
  refine ?_
  go_simp
  exact hK _ _ rfl (Below.refl _ _)
 ·intro a w' K hb hf hdf hd hK
  have h3:a.eval (.tmp 10)=_:=hd 2 (by decide) (by kernel_rfl)
  refine dag_callp _ _ _ #[_] rfl (by rw[List.map_toArray,List.map_cons,List.map_nil,h3]) _ Tryz.func33 (by kernel_rfl) (by kernel_rfl) ?_
  refine(HN0.out w' hb).mono ?_
  rintro e w2 ⟨h,hb2⟩
  rcases h with⟨x,hn,rfl⟩|⟨hn,rfl⟩
  ·exact .inl ⟨_,rfl,hK _ _ ⟨x,hn,rfl⟩ hb2⟩
  ·exact .inr ⟨_,rfl,hdf,HG2.out w2 (HB0.out hn) (hb.trans (hb2.mono hb.size))⟩
 ·intro a w' K hb hf hdf hd hK
  exact dag_move _ rfl (hK _ _ (hf 0 rfl) (Below.refl _ _))
 ·intro a w' K hb hf hdf hd hK
  have h3:a.tmps[12]?.getD undef= .slice (some ⟨g,o,none⟩) 2 c:=ev_tmp (hd 4 (by decide) (by kernel_rfl))
  clear hf hd hdf
  refine ?_
  go_simp
  exact hK _ _ rfl (Below.refl _ _)
 ·intro a w' K hb hf hdf hd hK
  have h3:a.tmps[13]?.getD undef= .pointer (some ⟨g,o+1,none⟩):=ev_tmp (hd 5 (by decide) (by kernel_rfl))
  have hcl:=HC1.out w' hb
  clear hf hd hdf
  refine ?_
  go_simp
  exact hK _ _ rfl (Below.refl _ _)
 ·intro a w' K hb hf hdf hd hK
  have h3:a.eval (.tmp 14)=_:=hd 6 (by decide) (by kernel_rfl)
  refine dag_callp _ _ _ #[_] rfl (by rw[List.map_toArray,List.map_cons,List.map_nil,h3]) _ Tryz.func34 (by kernel_rfl) (by kernel_rfl) ?_
  refine(HN1.out w' hb).mono ?_
  rintro e w2 ⟨h,hb2⟩
  rcases h with⟨x,u,hn,rfl,hu⟩|⟨hn,rfl⟩
  ·exact .inl ⟨_,rfl,hK _ _ ⟨x,hn,hu.sl (by rw[List.length_map];have:=numsP_len hn;have:=HLS1.out;omega)⟩ hb2⟩
  ·exact .inr ⟨_,rfl,hdf,HG2.out w2 (HB1.out hn) (hb.trans (hb2.mono hb.size))⟩
 rintro vals w8 ⟨hh0,hh1,hh2,hh3,hh4,hh5,hh6,hh7,_⟩ hb8
 clear hh0 hh1 hh2 hh4 hh5 hh6
 simp only[Nat.reduceAdd]at hh3 hh7
 simp only[putAll,Act.put,List.setIfInBounds_toArray,List.set_cons_zero,List.set_cons_succ,List.drop_succ_cons,List.drop_zero,List.length_cons,List.length_nil,Nat.reduceAdd]
 obtain⟨a0,hr0,hv0⟩:=hh3
 rw[hv0]
 clear hv0
 obtain⟨a1,hr1,hs1⟩:=hh7
 obtain⟨v1,hv1⟩:∃v1,vals 7=v1:=⟨_,rfl⟩
 rw[hv1]at hs1⊢
 clear hv1
 have HAT:=hid (HAA.out a0 a1 hr0 hr1)
 have HB8:=hid hb8
 have HQ:=hid (HP1.out a0 a1 v1 w8 (HWW.out w8 hb8) (numP_lt hr0) ⟨hs1,numsP_lt hr1,by have:=numsP_len hr1;have:=HLS1.out;omega⟩)
 have HQ2:=hid (fun w1 (hb:Below w8.heap.size w8 w1)=>HP2.out a0 a1 v1 w1 (HWW.out w1 (hb8.trans (hb.mono hb8.size))) (numP_lt hr0) ⟨hs1.below hb,numsP_lt hr1,by have:=numsP_len hr1;have:=HLS1.out;omega⟩)
 clear hb8 hr0 hr1 hs1
 go_wp2_with fail
 refine HQ.out.mono ?_
 rintro e w9 ⟨rfl,⟨he0,he6⟩,hok1,hb9⟩
 have HB9:=hid hb9
 clear hb9 HQ
 by_cases hE:E1 a0 a1=0
 ·rw[hE]
  have HH1:=hid (hok1 hE)
  have HC:=hid (check_ok w9)
  have HAT2:=hid (HAT.out.trans (if_pos hE))
  clear HAT he0 he6 hok1 hE
  go_wp2_with fail
  refine HC.out.mono ?_
  rintro e w10 ⟨rfl,hb10⟩
  have HB10:=hid (HB9.out.trans (hb10.mono HB9.out.size))
  have HB10a:=hid hb10
  clear hb10 HC
  have HQ:=hid (HQ2.out w10 HB10.out)
  go_wp2_with fail
  refine HQ.out.mono ?_
  rintro e w11 ⟨u2,rfl,⟨he0,he6⟩,hok2,⟨pa2,pn2,pc2,pe2⟩,hb11⟩
  subst pe2
  have HB11:=hid ((HB8.out.trans (HB10.out.mono HB8.out.size)).trans (hb11.mono (HB8.out.trans (HB10.out.mono HB8.out.size)).size))
  have HT:=hid (both_int_ints (X1 a0 a1) _ (X2 a0 a1) (E2 a0 a1) w11 he0 he6 (fun h0=>⟨HH1.out,hok2 h0⟩) (HWW.out w11 HB11.out))
  clear he0 he6 hok2 hb11 HQ
  generalize (if E2 a0 a1=0 then Lib.itoa (X1 a0 a1)++32::tellI (X2 a0 a1)else errT (E2 a0 a1))=AT at*
  go_wp2_with fail
  refine HT.out.mono ?_
  intro e w12 h12
  have HZ:=hid (HG3.out _ e w11 w12 HAT2.out HB11.out h12)
  rcases h12.1 with rfl|rfl
  ·clear h12
   go_wp2
   exact HZ.out
  ·exact⟨rfl,HZ.out⟩
 ·have HC:=hid (check_bad (E1 a0 a1) (by omega) he6 w9)
  have HAT2:=hid (HAT.out.trans (if_neg hE))
  clear HAT he0 he6 hok1 hE
  go_wp2_with fail
  refine HC.out.mono ?_
  rintro e w10 ⟨rfl,hb10⟩
  have HB10:=hid (HB9.out.trans (hb10.mono HB9.out.size))
  exact⟨rfl,HG3.out _ _ w8 w10 HAT2.out HB8.out (TE.bad HB10.out)⟩
end Go.Proofs.YtnnaadmegeeinaaGreatDoor
