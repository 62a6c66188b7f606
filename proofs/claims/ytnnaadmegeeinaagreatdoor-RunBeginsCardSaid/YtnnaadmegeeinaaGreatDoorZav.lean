/-
  Part 48 of a proof: what it proves stands in the last text.
-/
import Derived.Test.YtnnaadmegeeinaaGreatDoorZau
import Derived.Test.YtnnaadmegeeinaaGreatDoorZap
import Derived.Test.YtnnaadmegeeinaaGreatDoorZaq
import Derived.Test.YtnnaadmegeeinaaGreatDoorZar
import Derived.Test.YtnnaadmegeeinaaGreatDoorZas
import Derived.Test.YtnnaadmegeeinaaGreatDoorZr
import Derived.Test.YtnnaadmegeeinaaGreatDoorZaf
import Derived.Test.YtnnaadmegeeinaaGreatDoorZao
import Derived.Test.YtnnaadmegeeinaaGreatDoorZah
import Derived.Test.YtnnaadmegeeinaaGreatDoorZai
import Derived.Test.YtnnaadmegeeinaaGreatDoorZaj
set_option linter.unusedVariables false
set_option maxHeartbeats 8000000
set_option maxRecDepth 100000
namespace Go.Proofs.YtnnaadmegeeinaaGreatDoor
open Go.RowKit
structure Pks where
 LstE:Nat→Nat→Int
 LstX:Nat→Nat→List Int
 hLst:PkLst LstE LstX
 MulE:Nat→Nat→Nat→Nat→Int
 MulX:Nat→Nat→Nat→Nat→Int
 hMul:PkMul LstE LstX MulE MulX
 RowE:Nat→List Nat→List Nat→Nat→Int
 RowX:Nat→List Nat→List Nat→Nat→List Int
 hRow:PkRow RowE RowX
 LeaE:Nat→List Nat→Int
 LeaX:Nat→List Nat→Int
 LeaY:Nat→List Nat→List Int
 hLea:PkLea LeaE LeaX LeaY
 CycE:List Nat→Int
 CycX:List Nat→List UInt8
 hCyc:PkCyc CycE CycX
 OrdE:Nat→List (List Nat)→Int
 OrdX:Nat→List (List Nat)→Int
 hOrd:PkOrd OrdE OrdX
 BeaE:Nat→Nat→Int
 BeaX:Nat→Nat→Int
 hBea:PkBea BeaE BeaX
 ExtE:Nat→List (List Nat)→Int
 ExtX:Nat→List (List Nat)→List Int
 hExt:PkExt ExtE ExtX
 LevE:Nat→List (List Nat)→Nat→Int
 LevX:Nat→List (List Nat)→Nat→Int
 LevY:Nat→List (List Nat)→Nat→Int
 hLev:PkLev LevE LevX LevY
 TriE:Nat→Int
 TriX:Nat→List (List Int)
 hTri:PkTri TriE TriX
 DifE:Nat→List Nat→Int
 DifX:Nat→List Nat→Int
 hDif1:PkDif1 DifE DifX
 MtpE:Nat→List Nat→Int
 MtpX:Nat→List Nat→List Int
 hDif2:PkDif2 MtpE MtpX
 RulE:Nat→Int
 RulX:Nat→List Int
 hRul:PkRul RulE RulX
 GauE:Nat→Nat→Nat→Int
 GauX:Nat→Nat→Nat→Int
 hGau:PkGau GauE GauX
 BenE:List Nat→Int
 BenX:List Nat→Bool
 hBen:PkBen BenE BenX
 RaoE:Nat→Nat→Nat→Int
 RaoX:Nat→Nat→Nat→Int
 hRao:PkRao RaoE RaoX
 CirE:Nat→Int
 CirX:Nat→List (List Int)
 hCir:PkCir CirE CirX
 CouE:List Nat→Int
 CouX:List Nat→Bool
 hCou:PkCou CouE CouX
 BruE:Nat→Nat→Int
 BruX:Nat→Nat→List Int
 hBru:PkBru BruE BruX
 CasE:Nat→Nat→Int
 CasX:Nat→Nat→List Int
 hCas1:PkCas1 CasE CasX
 CslE:Nat→Nat→Int
 CslX:Nat→Nat→Int
 hCas2:PkCas2 CslE CslX
def Pks.A (p:Pks) (T:List UInt8) (ts:List (List UInt8)):List UInt8:=
 if T=[102,105,101,108,100]then ansFld p.LstE p.LstX ts else
 if T=[116,105,109,101,115]then ansTim p.LstE p.MulE p.MulX ts else
 if T=[114,111,119]then ansRow p.RowE p.RowX ts else
 if T=[108,101,97,115,116]then ansLea p.LeaE p.LeaX p.LeaY ts else
 if T=[99,121,99,108,101,115]then ansCyc p.CycE p.CycX ts else
 if T=[111,114,100,101,114]then ansOrd p.OrdE p.OrdX ts else
 if T=[98,101,97,100,115]then ansBea p.BeaE p.BeaX ts else
 if T=[101,120,116,101,110,100]then ansExt p.ExtE p.ExtX ts else
 if T=[108,101,118,101,108]then ansLev p.LevE p.LevX p.LevY ts else
 if T=[116,114,105,112,108,101,115]then ansTri p.TriE p.TriX ts else
 if T=[100,105,102,102,101,114]then ansDif p.DifE p.DifX p.MtpE p.MtpX ts else
 if T=[114,117,108,101,114]then ansRul p.RulE p.RulX ts else
 if T=[103,97,117,115,115]then ansGau p.GauE p.GauX ts else
 if T=[98,101,110,116]then ansBen p.BenE p.BenX ts else
 if T=[114,97,111]then ansRao p.RaoE p.RaoX ts else
 if T=[99,105,114,99,108,101]then ansCir p.CirE p.CirX ts else
 if T=[99,111,117,108,100]then ansCou p.CouE p.CouX ts else
 if T=[98,114,117,105,106,110]then ansBru p.BruE p.BruX ts else
 if T=[99,97,115,99,97,100,101]then ansCas p.CasE p.CasX p.CslE p.CslX ts else
 badT
theorem Pks.A_field (p:Pks) (ts:List (List UInt8)):p.A [102,105,101,108,100] ts=ansFld p.LstE p.LstX ts:=by
 unfold Pks.A
 rw[if_pos rfl]
theorem Pks.A_times (p:Pks) (ts:List (List UInt8)):p.A [116,105,109,101,115] ts=ansTim p.LstE p.MulE p.MulX ts:=by
 unfold Pks.A
 rw[if_neg (by decide)]
 rw[if_pos rfl]
theorem Pks.A_row (p:Pks) (ts:List (List UInt8)):p.A [114,111,119] ts=ansRow p.RowE p.RowX ts:=by
 unfold Pks.A
 rw[if_neg (by decide)]
 rw[if_neg (by decide)]
 rw[if_pos rfl]
theorem Pks.A_least (p:Pks) (ts:List (List UInt8)):p.A [108,101,97,115,116] ts=ansLea p.LeaE p.LeaX p.LeaY ts:=by
 unfold Pks.A
 rw[if_neg (by decide)]
 rw[if_neg (by decide)]
 rw[if_neg (by decide)]
 rw[if_pos rfl]
theorem Pks.A_cycles (p:Pks) (ts:List (List UInt8)):p.A [99,121,99,108,101,115] ts=ansCyc p.CycE p.CycX ts:=by
 unfold Pks.A
 rw[if_neg (by decide)]
 rw[if_neg (by decide)]
 rw[if_neg (by decide)]
 rw[if_neg (by decide)]
 rw[if_pos rfl]
theorem Pks.A_order (p:Pks) (ts:List (List UInt8)):p.A [111,114,100,101,114] ts=ansOrd p.OrdE p.OrdX ts:=by
 unfold Pks.A
 rw[if_neg (by decide)]
 rw[if_neg (by decide)]
 rw[if_neg (by decide)]
 rw[if_neg (by decide)]
 rw[if_neg (by decide)]
 rw[if_pos rfl]
theorem Pks.A_beads (p:Pks) (ts:List (List UInt8)):p.A [98,101,97,100,115] ts=ansBea p.BeaE p.BeaX ts:=by
 unfold Pks.A
 rw[if_neg (by decide)]
 rw[if_neg (by decide)]
 rw[if_neg (by decide)]
 rw[if_neg (by decide)]
 rw[if_neg (by decide)]
 rw[if_neg (by decide)]
 rw[if_pos rfl]
theorem Pks.A_extend (p:Pks) (ts:List (List UInt8)):p.A [101,120,116,101,110,100] ts=ansExt p.ExtE p.ExtX ts:=by
 unfold Pks.A
 rw[if_neg (by decide)]
 rw[if_neg (by decide)]
 rw[if_neg (by decide)]
 rw[if_neg (by decide)]
 rw[if_neg (by decide)]
 rw[if_neg (by decide)]
 rw[if_neg (by decide)]
 rw[if_pos rfl]
theorem Pks.A_level (p:Pks) (ts:List (List UInt8)):p.A [108,101,118,101,108] ts=ansLev p.LevE p.LevX p.LevY ts:=by
 unfold Pks.A
 rw[if_neg (by decide)]
 rw[if_neg (by decide)]
 rw[if_neg (by decide)]
 rw[if_neg (by decide)]
 rw[if_neg (by decide)]
 rw[if_neg (by decide)]
 rw[if_neg (by decide)]
 rw[if_neg (by decide)]
 rw[if_pos rfl]
theorem Pks.A_triples (p:Pks) (ts:List (List UInt8)):p.A [116,114,105,112,108,101,115] ts=ansTri p.TriE p.TriX ts:=by
 unfold Pks.A
 rw[if_neg (by decide)]
 rw[if_neg (by decide)]
 rw[if_neg (by decide)]
 rw[if_neg (by decide)]
 rw[if_neg (by decide)]
 rw[if_neg (by decide)]
 rw[if_neg (by decide)]
 rw[if_neg (by decide)]
 rw[if_neg (by decide)]
 rw[if_pos rfl]
theorem Pks.A_differ (p:Pks) (ts:List (List UInt8)):p.A [100,105,102,102,101,114] ts=ansDif p.DifE p.DifX p.MtpE p.MtpX ts:=by
 unfold Pks.A
 rw[if_neg (by decide)]
 rw[if_neg (by decide)]
 rw[if_neg (by decide)]
 rw[if_neg (by decide)]
 rw[if_neg (by decide)]
 rw[if_neg (by decide)]
 rw[if_neg (by decide)]
 rw[if_neg (by decide)]
 rw[if_neg (by decide)]
 rw[if_neg (by decide)]
 rw[if_pos rfl]
theorem Pks.A_ruler (p:Pks) (ts:List (List UInt8)):p.A [114,117,108,101,114] ts=ansRul p.RulE p.RulX ts:=by
 unfold Pks.A
 rw[if_neg (by decide)]
 rw[if_neg (by decide)]
 rw[if_neg (by decide)]
 rw[if_neg (by decide)]
 rw[if_neg (by decide)]
 rw[if_neg (by decide)]
 rw[if_neg (by decide)]
 rw[if_neg (by decide)]
 rw[if_neg (by decide)]
 rw[if_neg (by decide)]
 rw[if_neg (by decide)]
 rw[if_pos rfl]
theorem Pks.A_gauss (p:Pks) (ts:List (List UInt8)):p.A [103,97,117,115,115] ts=ansGau p.GauE p.GauX ts:=by
 unfold Pks.A
 rw[if_neg (by decide)]
 rw[if_neg (by decide)]
 rw[if_neg (by decide)]
 rw[if_neg (by decide)]
 rw[if_neg (by decide)]
 rw[if_neg (by decide)]
 rw[if_neg (by decide)]
 rw[if_neg (by decide)]
 rw[if_neg (by decide)]
 rw[if_neg (by decide)]
 rw[if_neg (by decide)]
 rw[if_neg (by decide)]
 rw[if_pos rfl]
theorem Pks.A_bent (p:Pks) (ts:List (List UInt8)):p.A [98,101,110,116] ts=ansBen p.BenE p.BenX ts:=by
 unfold Pks.A
 rw[if_neg (by decide)]
 rw[if_neg (by decide)]
 rw[if_neg (by decide)]
 rw[if_neg (by decide)]
 rw[if_neg (by decide)]
 rw[if_neg (by decide)]
 rw[if_neg (by decide)]
 rw[if_neg (by decide)]
 rw[if_neg (by decide)]
 rw[if_neg (by decide)]
 rw[if_neg (by decide)]
 rw[if_neg (by decide)]
 rw[if_neg (by decide)]
 rw[if_pos rfl]
theorem Pks.A_rao (p:Pks) (ts:List (List UInt8)):p.A [114,97,111] ts=ansRao p.RaoE p.RaoX ts:=by
 unfold Pks.A
 rw[if_neg (by decide)]
 rw[if_neg (by decide)]
 rw[if_neg (by decide)]
 rw[if_neg (by decide)]
 rw[if_neg (by decide)]
 rw[if_neg (by decide)]
 rw[if_neg (by decide)]
 rw[if_neg (by decide)]
 rw[if_neg (by decide)]
 rw[if_neg (by decide)]
 rw[if_neg (by decide)]
 rw[if_neg (by decide)]
 rw[if_neg (by decide)]
 rw[if_neg (by decide)]
 rw[if_pos rfl]
theorem Pks.A_circle (p:Pks) (ts:List (List UInt8)):p.A [99,105,114,99,108,101] ts=ansCir p.CirE p.CirX ts:=by
 unfold Pks.A
 rw[if_neg (by decide)]
 rw[if_neg (by decide)]
 rw[if_neg (by decide)]
 rw[if_neg (by decide)]
 rw[if_neg (by decide)]
 rw[if_neg (by decide)]
 rw[if_neg (by decide)]
 rw[if_neg (by decide)]
 rw[if_neg (by decide)]
 rw[if_neg (by decide)]
 rw[if_neg (by decide)]
 rw[if_neg (by decide)]
 rw[if_neg (by decide)]
 rw[if_neg (by decide)]
 rw[if_neg (by decide)]
 rw[if_pos rfl]
theorem Pks.A_could (p:Pks) (ts:List (List UInt8)):p.A [99,111,117,108,100] ts=ansCou p.CouE p.CouX ts:=by
 unfold Pks.A
 rw[if_neg (by decide)]
 rw[if_neg (by decide)]
 rw[if_neg (by decide)]
 rw[if_neg (by decide)]
 rw[if_neg (by decide)]
 rw[if_neg (by decide)]
 rw[if_neg (by decide)]
 rw[if_neg (by decide)]
 rw[if_neg (by decide)]
 rw[if_neg (by decide)]
 rw[if_neg (by decide)]
 rw[if_neg (by decide)]
 rw[if_neg (by decide)]
 rw[if_neg (by decide)]
 rw[if_neg (by decide)]
 rw[if_neg (by decide)]
 rw[if_pos rfl]
theorem Pks.A_bruijn (p:Pks) (ts:List (List UInt8)):p.A [98,114,117,105,106,110] ts=ansBru p.BruE p.BruX ts:=by
 unfold Pks.A
 rw[if_neg (by decide)]
 rw[if_neg (by decide)]
 rw[if_neg (by decide)]
 rw[if_neg (by decide)]
 rw[if_neg (by decide)]
 rw[if_neg (by decide)]
 rw[if_neg (by decide)]
 rw[if_neg (by decide)]
 rw[if_neg (by decide)]
 rw[if_neg (by decide)]
 rw[if_neg (by decide)]
 rw[if_neg (by decide)]
 rw[if_neg (by decide)]
 rw[if_neg (by decide)]
 rw[if_neg (by decide)]
 rw[if_neg (by decide)]
 rw[if_neg (by decide)]
 rw[if_pos rfl]
theorem Pks.A_cascade (p:Pks) (ts:List (List UInt8)):p.A [99,97,115,99,97,100,101] ts=ansCas p.CasE p.CasX p.CslE p.CslX ts:=by
 unfold Pks.A
 rw[if_neg (by decide)]
 rw[if_neg (by decide)]
 rw[if_neg (by decide)]
 rw[if_neg (by decide)]
 rw[if_neg (by decide)]
 rw[if_neg (by decide)]
 rw[if_neg (by decide)]
 rw[if_neg (by decide)]
 rw[if_neg (by decide)]
 rw[if_neg (by decide)]
 rw[if_neg (by decide)]
 rw[if_neg (by decide)]
 rw[if_neg (by decide)]
 rw[if_neg (by decide)]
 rw[if_neg (by decide)]
 rw[if_neg (by decide)]
 rw[if_neg (by decide)]
 rw[if_neg (by decide)]
 rw[if_pos rfl]
theorem cmdOf_not {T:List UInt8} (h:∀c∈cmdL1++cmdL2,T≠c.1):cmdOf T=none:=by
 unfold cmdOf
 rw[Option.map_eq_none_iff,List.find?_eq_none]
 intro c hc he
 exact h c hc (by simpa using(beq_iff_eq.1 he).symm)
theorem Pks.cmds (p:Pks):CmdsOk p.A:=by
 intro T k F hc ts v w hk hW hv hl
 by_cases h0:T=[102,105,101,108,100]
 ·subst h0
  obtain⟨rfl,rfl⟩:=Prod.mk.inj (Option.some.inj (Eq.trans (show some _=_ from rfl) hc))
  rw[p.A_field]
  exact cmdFld p.LstE p.LstX p.hLst ts hk v w hW hv hl
 by_cases h1:T=[116,105,109,101,115]
 ·subst h1
  obtain⟨rfl,rfl⟩:=Prod.mk.inj (Option.some.inj (Eq.trans (show some _=_ from rfl) hc))
  rw[p.A_times]
  exact cmdTim p.LstE p.LstX p.MulE p.MulX p.hLst p.hMul ts hk v w hW hv hl
 by_cases h2:T=[114,111,119]
 ·subst h2
  obtain⟨rfl,rfl⟩:=Prod.mk.inj (Option.some.inj (Eq.trans (show some _=_ from rfl) hc))
  rw[p.A_row]
  exact cmdRow p.RowE p.RowX p.hRow ts hk v w hW hv hl
 by_cases h3:T=[108,101,97,115,116]
 ·subst h3
  obtain⟨rfl,rfl⟩:=Prod.mk.inj (Option.some.inj (Eq.trans (show some _=_ from rfl) hc))
  rw[p.A_least]
  exact cmdLea p.LeaE p.LeaX p.LeaY p.hLea ts hk v w hW hv hl
 by_cases h4:T=[99,121,99,108,101,115]
 ·subst h4
  obtain⟨rfl,rfl⟩:=Prod.mk.inj (Option.some.inj (Eq.trans (show some _=_ from rfl) hc))
  rw[p.A_cycles]
  exact cmdCyc p.CycE p.CycX p.hCyc ts hk v w hW hv hl
 by_cases h5:T=[111,114,100,101,114]
 ·subst h5
  obtain⟨rfl,rfl⟩:=Prod.mk.inj (Option.some.inj (Eq.trans (show some _=_ from rfl) hc))
  rw[p.A_order]
  exact cmdOrd p.OrdE p.OrdX p.hOrd ts hk v w hW hv hl
 by_cases h6:T=[98,101,97,100,115]
 ·subst h6
  obtain⟨rfl,rfl⟩:=Prod.mk.inj (Option.some.inj (Eq.trans (show some _=_ from rfl) hc))
  rw[p.A_beads]
  exact cmdBea p.BeaE p.BeaX p.hBea ts hk v w hW hv hl
 by_cases h7:T=[101,120,116,101,110,100]
 ·subst h7
  obtain⟨rfl,rfl⟩:=Prod.mk.inj (Option.some.inj (Eq.trans (show some _=_ from rfl) hc))
  rw[p.A_extend]
  exact cmdExt p.ExtE p.ExtX p.hExt ts hk v w hW hv hl
 by_cases h8:T=[108,101,118,101,108]
 ·subst h8
  obtain⟨rfl,rfl⟩:=Prod.mk.inj (Option.some.inj (Eq.trans (show some _=_ from rfl) hc))
  rw[p.A_level]
  exact cmdLev p.LevE p.LevX p.LevY p.hLev ts hk v w hW hv hl
 by_cases h9:T=[116,114,105,112,108,101,115]
 ·subst h9
  obtain⟨rfl,rfl⟩:=Prod.mk.inj (Option.some.inj (Eq.trans (show some _=_ from rfl) hc))
  rw[p.A_triples]
  exact cmdTri p.TriE p.TriX p.hTri ts hk v w hW hv hl
 by_cases h10:T=[100,105,102,102,101,114]
 ·subst h10
  obtain⟨rfl,rfl⟩:=Prod.mk.inj (Option.some.inj (Eq.trans (show some _=_ from rfl) hc))
  rw[p.A_differ]
  exact cmdDif p.DifE p.DifX p.MtpE p.MtpX p.hDif1 p.hDif2 ts hk v w hW hv hl
 by_cases h11:T=[114,117,108,101,114]
 ·subst h11
  obtain⟨rfl,rfl⟩:=Prod.mk.inj (Option.some.inj (Eq.trans (show some _=_ from rfl) hc))
  rw[p.A_ruler]
  exact cmdRul p.RulE p.RulX p.hRul ts hk v w hW hv hl
 by_cases h12:T=[103,97,117,115,115]
 ·subst h12
  obtain⟨rfl,rfl⟩:=Prod.mk.inj (Option.some.inj (Eq.trans (show some _=_ from rfl) hc))
  rw[p.A_gauss]
  exact cmdGau p.GauE p.GauX p.hGau ts hk v w hW hv hl
 by_cases h13:T=[98,101,110,116]
 ·subst h13
  obtain⟨rfl,rfl⟩:=Prod.mk.inj (Option.some.inj (Eq.trans (show some _=_ from rfl) hc))
  rw[p.A_bent]
  exact cmdBen p.BenE p.BenX p.hBen ts hk v w hW hv hl
 by_cases h14:T=[114,97,111]
 ·subst h14
  obtain⟨rfl,rfl⟩:=Prod.mk.inj (Option.some.inj (Eq.trans (show some _=_ from rfl) hc))
  rw[p.A_rao]
  exact cmdRao p.RaoE p.RaoX p.hRao ts hk v w hW hv hl
 by_cases h15:T=[99,105,114,99,108,101]
 ·subst h15
  obtain⟨rfl,rfl⟩:=Prod.mk.inj (Option.some.inj (Eq.trans (show some _=_ from rfl) hc))
  rw[p.A_circle]
  exact cmdCir p.CirE p.CirX p.hCir ts hk v w hW hv hl
 by_cases h16:T=[99,111,117,108,100]
 ·subst h16
  obtain⟨rfl,rfl⟩:=Prod.mk.inj (Option.some.inj (Eq.trans (show some _=_ from rfl) hc))
  rw[p.A_could]
  exact cmdCou p.CouE p.CouX p.hCou ts hk v w hW hv hl
 by_cases h17:T=[98,114,117,105,106,110]
 ·subst h17
  obtain⟨rfl,rfl⟩:=Prod.mk.inj (Option.some.inj (Eq.trans (show some _=_ from rfl) hc))
  rw[p.A_bruijn]
  exact cmdBru p.BruE p.BruX p.hBru ts hk v w hW hv hl
 by_cases h18:T=[99,97,115,99,97,100,101]
 ·subst h18
  obtain⟨rfl,rfl⟩:=Prod.mk.inj (Option.some.inj (Eq.trans (show some _=_ from rfl) hc))
  rw[p.A_cascade]
  exact cmdCas p.CasE p.CasX p.CslE p.CslX p.hCas1 p.hCas2 ts hk v w hW hv hl
 rw[cmdOf_not ?_]at hc
 ·cases hc
 ·intro c hc'
  simp only[cmdL1,cmdL2,List.cons_append,List.nil_append,List.mem_cons,List.not_mem_nil,or_false]at hc'
  rcases hc' with rfl|rfl|rfl|rfl|rfl|rfl|rfl|rfl|rfl|rfl|rfl|rfl|rfl|rfl|rfl|rfl|rfl|rfl|rfl<;>assumption
theorem runL_nil (A:List UInt8→List (List UInt8)→List UInt8):∀n,runL A n []=[]
 |0=>rfl
 |n+1=>by simp[runL]
theorem runL_fuel (A:List UInt8→List (List UInt8)→List UInt8):∀(k:Nat) (t:List UInt8) (n m:Nat),t.length≤k→t.length≤n→t.length≤m→runL A n t=runL A m t
 |0,t,n,m,h,_,_=>by
  obtain rfl:t=[]:=List.eq_nil_of_length_eq_zero (by omega)
  rw[runL_nil,runL_nil]
 |k+1,t,n,m,h,hn,hm=>by
  by_cases ht:t=[]
  ·subst ht
   rw[runL_nil,runL_nil]
  ·have h2:=(cut_next ht).2
   rw[runL_step A hn ht,runL_step A hm ht,runL_fuel A k (Lib.cut t [10]).2.1 (n-1) (m-1) (by omega) (by omega) (by omega)]
theorem first_nl:∀{p:List UInt8},(10:UInt8)∈p→∃l r,(10:UInt8)∉l∧p=l++10::r
 |[],h=>by simp at h
 |x::p,h=>by
  by_cases e:x=10
  ·subst e
   exact⟨[],p,by simp,rfl⟩
  ·obtain⟨l,r,h1,h2⟩:=first_nl (p:=p) (by simpa [Ne.symm e]using h)
   exact⟨x::l,r,by simpa [Ne.symm e]using h1,by rw[h2];rfl⟩
def EndsNl (p:List UInt8):Prop:=p=[]∨p.getLast?=some 10
theorem runL_app (A:List UInt8→List (List UInt8)→List UInt8):∀(k:Nat) (p q:List UInt8),p.length≤k→EndsNl p→runL A (p++q).length (p++q)=runL A p.length p++runL A q.length q
 |0,p,q,h,_=>by
  obtain rfl:p=[]:=List.eq_nil_of_length_eq_zero (by omega)
  rw[runL_nil]
  rfl
 |k+1,p,q,h,he=>by
  by_cases hp:p=[]
  ·subst hp
   rw[runL_nil]
   rfl
  ·have hl:p.getLast?=some 10:=he.resolve_left hp
   obtain⟨l,r,h1,rfl⟩:=first_nl (List.mem_of_getLast? hl)
   have hr:EndsNl r:=by
    by_cases e:r=[]
    ·exact .inl e
    ·right
     obtain⟨a,b,rfl⟩:=List.exists_cons_of_ne_nil e
     simpa [List.getLast?_append,List.getLast?_cons_cons]using hl
   have hne:l++10::r++q≠[]:=by simp
   have hA:l++10::r++q=l++10::(r++q):=by simp
   rw[runL_step A (Nat.le_refl _) hp,runL_step A (Nat.le_refl _) hne]
   rw[hA,cut_at h1,cut_at h1]
   simp only[List.append_assoc]
   have hlen:(l++10::r).length=l.length+r.length+1:=by simp;omega
   have hlen2:(l++10::(r++q)).length=l.length+(r++q).length+1:=by simp;omega
   rw[runL_fuel A _ (r++q) ((l++10::(r++q)).length-1) (r++q).length (Nat.le_refl _) (by omega) (Nat.le_refl _),runL_fuel A _ r ((l++10::r).length-1) r.length (Nat.le_refl _) (by omega) (Nat.le_refl _),runL_app A k r q (by omega) hr]
theorem runT_begins (A:List UInt8→List (List UInt8)→List UInt8) {t:List UInt8} {n:Nat} (ht:t.length≤8000) (he:EndsNl (t.take n)):runT A (t.take n)<+:runT A t:=by
 unfold runT
 rw[if_neg (by rw[List.length_take];omega),if_neg (by omega)]
 have h:=runL_app A _ (t.take n) (t.drop n) (Nat.le_refl _) he
 rw[List.take_append_drop]at h
 rw[h]
 exact List.prefix_append _ _
theorem difE_rng (v:Nat) (l:List Nat):0≤difE v l∧difE v l≤6:=by
 unfold difE
 repeat' split
 all_goals decide
theorem levE_rng (v:Nat) (l:List Nat):0≤levE v l∧levE v l≤6:=by
 have:=difE_rng v l
 unfold levE
 repeat' split
 all_goals first|assumption|decide
theorem levX_bd (v:Nat) (l:List Nat) (h:difE v l=0):I64 (levX v l):=by
 have hl:=difE_len h
 obtain⟨h1,h2,_⟩:=difE_zero h
 have h3:dfN v l 1≤3600:=by
  have h1:=List.count_le_length (a:=1) (l:=dfR v l l.length)
  rw[dfR_len]at h1
  have h2:l.length*l.length≤60*60:=Nat.mul_le_mul (by omega) (by omega)
  have:dfN v l 1=(dfR v l l.length).count 1:=rfl
  omega
 unfold levX I64
 split<;>omega
theorem levE_bad {v:Nat} {l:List Nat} (h:difE v l≠0):levE v l=difE v l:=if_pos h
theorem levX_bad {v:Nat} {l:List Nat} (h:difE v l≠0):levX v l=0:=by
 unfold levX
 rw[levE_bad h,if_neg]
 rintro⟨h1,_⟩
 exact h h1
theorem pkDif1:PkDif1 levE levX:=by
 intro a0 a1 v1 w1 hW h0 hr
 by_cases h:difE a0 a1=0
 ·refine(Level_ok a0 v1 a1 w1 h0 hr.1 hr.2.1 h).mono ?_
  rintro e w' ⟨rfl,hb⟩
  exact⟨rfl,levE_rng _ _,fun _=>levX_bd _ _ h,hb⟩
 ·refine(Level_bad a0 v1 a1 w1 h0 hr.1 hr.2.1 h).mono ?_
  rintro e w' ⟨rfl,hb⟩
  exact⟨by rw[levE_bad h,levX_bad h],levE_rng _ _,fun h2=>absurd ((levE_bad h).symm.trans h2) h,hb⟩
theorem mtpX_bd (v:Nat) (l:List Nat):(∀x∈mtpX v l,I64 x)∧(mtpX v l).length≤60:=by
 unfold mtpX
 split
 ·rename_i h
  obtain⟨h1,h2,_⟩:=difE_zero h
  refine⟨fun x hx=> ?_,by have:=mtpN_len v l (v-1);omega⟩
  unfold mtpN at hx
  obtain⟨i,hi,rfl⟩:=List.mem_map.1 hx
  have:=List.mem_range.1 (List.mem_filter.1 hi).1
  unfold I64
  omega
 ·exact⟨by simp,by simp⟩
theorem pkDif2:PkDif2 difE mtpX:=by
 intro a0 a1 v1 w1 hW h0 hr
 have hbd:=mtpX_bd a0 a1
 by_cases h:difE a0 a1=0
 ·refine(Mult_ok a0 v1 a1 w1 h0 hr.1 hr.2.1 h).mono ?_
  rintro e w' ⟨⟨u,rfl,hu⟩,hb⟩
  rw[show mtpN a0 a1 (a0-1)=mtpX a0 a1 from(if_pos h).symm]at hu
  obtain⟨pa,pc,e⟩:=hu.len
  exact⟨u,by rw[h],difE_rng _ _,fun _=>⟨hu.sl (by omega),hbd.1,by omega⟩,⟨pa,_,pc,e⟩,hb⟩
 ·refine(Mult_bad a0 v1 a1 w1 h0 hr.1 hr.2.1 h).mono ?_
  rintro e w' ⟨rfl,hb⟩
  exact⟨.slice none 0 0,rfl,difE_rng _ _,fun h2=>absurd h2 h,⟨_,_,_,rfl⟩,hb⟩
theorem runE_rng (p:Int) (l m:List Int):0≤runE p l m∧runE p l m≤6:=by
 unfold runE tapsE
 repeat' split
 all_goals first|decide|(constructor<;>omega)
def rowE (a0:Nat) (a1 a2:List Nat) (a3:Nat):Int:=if runE a0 (intsN a1) (intsN a2)≠0 then runE a0 (intsN a1) (intsN a2)else if 5000<a3 then 1 else 0
def rowX (a0:Nat) (a1 a2:List Nat) (a3:Nat):List Int:=rowL a0 (intsN a1) (intsN a2) a3
theorem pkRow:PkRow rowE rowX:=by
 intro a0 a1 a2 a3 v1 v2 w1 hW h0 hr1 hr2 h3
 have j1:=intsN_I64 hr1.2.1
 have j2:=intsN_I64 hr2.2.1
 have hrg:0≤rowE a0 a1 a2 a3∧rowE a0 a1 a2 a3≤6:=by
  have:=runE_rng a0 (intsN a1) (intsN a2)
  unfold rowE
  repeat' split
  all_goals first|assumption|decide
 by_cases hE:runE a0 (intsN a1) (intsN a2)=0
 ·by_cases hn:5000<a3
  ·have hx:rowE a0 a1 a2 a3=1:=by unfold rowE;rw[if_neg (by simpa using hE),if_pos hn]
   refine(Run_range a0 v1 v2 _ _ a3 w1 hr1.1 hr2.1 j1 j2 hE (.inr (by omega))).mono ?_
   rintro e w' ⟨rfl,hb⟩
   exact⟨.slice none 0 0,by rw[hx],hrg,fun h=>absurd h (by rw[hx];decide),⟨_,_,_,rfl⟩,hb⟩
  ·have hx:rowE a0 a1 a2 a3=0:=by unfold rowE;rw[if_neg (by simpa using hE),if_neg hn]
   by_cases h1:1≤a3
   ·refine(Run_ok a0 v1 v2 _ _ a3 w1 hr1.1 hr2.1 j1 j2 hE h1 (by omega)).mono ?_
    rintro e w' ⟨⟨r,rfl,hu⟩,hb⟩
    obtain⟨pa,pc,e⟩:=hu.len
    have hlen:(rowX a0 a1 a2 a3).length=a3:=rowL_len _ _ _ _
    have R:=runE_ok hE
    refine⟨r,by rw[hx],hrg,fun _=>⟨hu.sl (by rw[rowL_len];omega),?_,by omega⟩,⟨pa,_,pc,e⟩,hb⟩
    intro x hx2
    have p2:=R.p2
    have p7:=R.p7
    have:=row_mem (p:=(a0:Int)) (taps:=intsN a1) (seed:=intsN a2) (by omega) R.fs a3 x hx2
    unfold I64
    omega
   ·obtain rfl:a3=0:=by omega
    refine(Run_zero a0 v1 v2 _ _ w1 hr1.1 hr2.1 j1 j2 hE).mono ?_
    rintro e w' ⟨rfl,hb⟩
    exact⟨.slice none 0 0,by rw[hx],hrg,fun _=>⟨Sl.nil' _ _,by simp[rowX,rowL],by simp[rowX,rowL]⟩,⟨_,_,_,rfl⟩,hb⟩
 ·have hx:rowE a0 a1 a2 a3=runE a0 (intsN a1) (intsN a2):=if_pos hE
  refine(Run_fault a0 v1 v2 _ _ a3 w1 hr1.1 hr2.1 j1 j2 hE).mono ?_
  rintro e w' ⟨rfl,hb⟩
  exact⟨.slice none 0 0,by rw[hx],hrg,fun h=>absurd (hx.symm.trans h) hE,⟨_,_,_,rfl⟩,hb⟩
theorem pkCou:PkCou (fun a=>(coE (intsN a)).2) (fun a=>(coE (intsN a)).1):=by
 intro a v w1 hW hr
 refine(Could_any v (intsN a) w1 hr.1 (intsN_I64 hr.2.1)).mono ?_
 rintro e w' ⟨rfl,hb⟩
 refine⟨rfl,?_,fun _=>trivial,hb⟩
 dsimp only
 unfold coE
 repeat' split
 all_goals first|decide|(constructor<;>omega)
theorem permE_rng (l:List Int):0≤permE l∧permE l≤6:=by
 unfold permE
 repeat' split
 all_goals first|decide|(constructor<;>omega)
theorem memE_rng (n:Int) (l:List Int):0≤memE n l∧memE n l≤6:=by
 have:=permE_rng l
 unfold memE
 repeat' split
 all_goals first|assumption|decide|(constructor<;>omega)
theorem firstE_rng (n:Int):∀ll:List (List Int),0≤firstE n ll∧firstE n ll≤6
 |[]=>by unfold firstE;decide
 |l::ls=>by
  have h1:=memE_rng n l
  have h2:=firstE_rng n ls
  unfold firstE
  repeat' split
  all_goals first|assumption|(constructor<;>omega)
theorem grpE_rng (n:Int) (ll:List (List Int)):0≤grpE n ll∧grpE n ll≤6:=by
 have:=firstE_rng n ll
 unfold grpE
 repeat' split
 all_goals first|assumption|decide|(constructor<;>omega)
theorem grpE_n {n:Int} {ll:List (List Int)} (h:grpE n ll=0):1≤n∧n≤7:=by
 unfold grpE at h
 split at h
 ·cases h
 ·omega
noncomputable def ordX (a0:Nat) (a1:List (List Nat)):Int:=if grpE a0 (a1.map intsN)=0 then((GL a0 (msL a0 (a1.map intsN))).length:Nat)else 0
theorem fac7:∀n,n≤7→fac n≤5040:=by decide
theorem pkOrd:PkOrd (fun a0 a1=>grpE a0 (a1.map intsN)) ordX:=by
 intro a0 a1 v1 w1 hW h0 hr
 by_cases hE:grpE a0 (a1.map intsN)=0
 ·refine(order_ok a0 v1 (a1.map intsN) w1 hr.1 hE).mono ?_
  rintro e w' ⟨rfl,hb⟩
  have hx:ordX a0 a1=((GL a0 (msL a0 (a1.map intsN))).length:Nat):=if_pos hE
  have hn:=grpE_n hE
  refine⟨by dsimp only;rw[hx,hE],grpE_rng _ _,fun _=> ?_,hb⟩
  rw[hx]
  have h1:(GL a0 (msL a0 (a1.map intsN))).length≤fac a0:=by
   unfold GL
   rw[List.length_map]
   exact Nat.le_trans (List.length_filter_le _ _) (by simp)
  have h2:=fac7 a0 (by omega)
  unfold I64
  omega
 ·refine(order_bad a0 v1 (a1.map intsN) w1 hr.1 hE).mono ?_
  rintro e w' ⟨rfl,hb⟩
  have hx:ordX a0 a1=0:=if_neg hE
  exact⟨by rw[hx],grpE_rng _ _,fun h=>absurd h hE,hb⟩
theorem lvE_bad {P:Nat} {bs:List (List Nat)} {t:Nat} (h:dsE P bs≠0):lvE P bs t=dsE P bs:=by
 unfold lvE
 rw[if_pos h]
theorem lvE_rng {P:Nat} {bs:List (List Nat)} {t:Nat} (h:dsE P bs=0) (h2:4<t∨P<t):lvE P bs t=1:=by
 unfold lvE
 rw[if_neg (by rw[h];simp),if_pos h2]
theorem lvE_none {P:Nat} {bs:List (List Nat)} {t:Nat} (h:dsE P bs=0) (h2:¬(4<t∨P<t)) (h3:bs.length=0):lvE P bs t=4:=by
 unfold lvE
 rw[if_neg (by rw[h];simp),if_neg h2,if_pos h3]
theorem lvE_lb {P:Nat} {bs:List (List Nat)} {t:Nat} (h:dsE P bs=0) (h2:¬(4<t∨P<t)) (h3:¬bs.length=0) (h4:LvBad P t bs):lvE P bs t=4:=by
 unfold lvE
 rw[if_neg (by rw[h];simp),if_neg h2,if_neg h3]
 rcases h4 with h4|h4
 ·rw[if_pos h4]
 ·split
  ·rfl
  ·first|rfl|rw[if_neg h4]
theorem lvE_ok {P:Nat} {bs:List (List Nat)} {t:Nat} (h:dsE P bs=0) (h2:¬(4<t∨P<t)) (h3:¬bs.length=0) (h4:¬LvBad P t bs):lvE P bs t=0:=by
 unfold lvE
 rw[if_neg (by rw[h];simp),if_neg h2,if_neg h3,if_neg (fun h=>h4 (.inl h)),if_pos (Classical.byContradiction fun h=>h4 (.inr h))]
theorem lvE_bd (P:Nat) (bs:List (List Nat)) (t:Nat):0≤lvE P bs t∧lvE P bs t≤6:=by
 have:=dsE_rng P bs
 unfold lvE
 repeat' split
 all_goals first|assumption|decide
theorem lamC_bd (all L:List Nat): -1≤lamC all L∧lamC all L≤all.length:=by
 by_cases h:0≤lamC all L
 ·obtain⟨s,_,e⟩:=lamC_mem h
  have:=manyO_len all s
  omega
 ·rw[lamC_neg h,lamC_nil]
  omega
theorem lvX_bad {P:Nat} {bs:List (List Nat)} {t:Nat} (h:lvE P bs t≠0):lvX1 P bs t=0∧lvX2 P bs t=0:=by
 unfold lvX1 lvX2
 rw[if_neg h,if_neg h]
 exact⟨rfl,rfl⟩
theorem dfRise_len {P:Nat} {l:List Nat} (h:dfRise l=true) (hb:∀x∈l,x<P):l.length≤P:=by
 rcases Nat.eq_zero_or_pos l.length with h0|h0
 ·omega
 ·have h5:=dfRise_ge h (l.length-1) (by omega)
  have h6:l.getD (l.length-1) 0<P:=by
   rw[List.getD_eq_getElem?_getD,List.getElem?_eq_getElem (by omega),Option.getD_some]
   exact hb _ (List.getElem_mem _)
  omega
theorem lvX_bd {P:Nat} {bs:List (List Nat)} {t:Nat} (h:lvE P bs t=0):(0≤lvX1 P bs t∧lvX1 P bs t≤40)∧(-1≤lvX2 P bs t∧lvX2 P bs t≤200):=by
 have hd:dsE P bs=0:=Classical.byContradiction fun h2=>h2 (by rw[←lvE_bad (t:=t) h2];exact h)
 obtain⟨_,z2,z3,z4⟩:=dsE_zero hd
 unfold lvX1 lvX2
 rw[if_pos h,if_pos h]
 refine⟨⟨Int.natCast_nonneg _,?_⟩,?_⟩
 ·have:lvK bs≤P:=by
   unfold lvK
   rw[List.getD_eq_getElem?_getD]
   cases e:bs[0]? with
   |none=>simp
   |some b=>
    obtain⟨hj,rfl⟩:=List.getElem?_eq_some_iff.1 e
    have:=z4 _ (List.getElem_mem hj)
    exact dfRise_len this.2 this.1
  omega
 ·have:=lamC_bd (lvS bs) (chL P t 0 0)
  have hl:(lvS bs).length=bs.length:=by unfold lvS;rw[List.length_map]
  omega
theorem pkLev:PkLev lvE lvX1 lvX2:=by
 intro a0 a1 a2 v1 w1 hW h0 hr h2
 obtain⟨hv,hb⟩:=hr
 have hv:RL w1 v1 (a1.map ofN):=hv
 have hx:lvE a0 a1 a2=0→I64 (lvX1 a0 a1 a2)∧I64 (lvX2 a0 a1 a2):=fun h=>by
  obtain⟨⟨q1,q2⟩,q3,q4⟩:=lvX_bd h
  unfold I64
  omega
 have bad:∀z:Int,lvE a0 a1 a2=z→z≠0→Calls Tryz.prog 119 #[.agg #[.int .i64 a0,v1],.int .i64 a2] w1 (fun e w'=>e= .returned (.tuple #[.int .i64 0,.int .i64 0,.int .i64 z])∧Below w1.heap.size w1 w')→Calls Tryz.prog 119 #[.agg #[.int .i64 a0,v1],.int .i64 a2] w1 fun e w'=>e= .returned (.tuple #[.int .i64 (lvX1 a0 a1 a2),.int .i64 (lvX2 a0 a1 a2),.int .i64 (lvE a0 a1 a2)])∧(0≤lvE a0 a1 a2∧lvE a0 a1 a2≤6)∧(lvE a0 a1 a2=0→I64 (lvX1 a0 a1 a2)∧I64 (lvX2 a0 a1 a2))∧Below w1.heap.size w1 w':=by
  intro z hz hz0 H
  refine H.mono ?_
  rintro e w' ⟨rfl,hbl⟩
  have:=lvX_bad (P:=a0) (bs:=a1) (t:=a2) (by rw[hz];exact hz0)
  exact⟨by rw[this.1,this.2,hz],lvE_bd _ _ _,hx,hbl⟩
 by_cases hd:dsE a0 a1=0
 ·by_cases hr:4<a2∨a0<a2
  ·exact bad 1 (lvE_rng hd hr) (by decide) (Level_rng a0 a2 v1 a1 w1 h0 h2 hv hb hd hr)
  ·by_cases hn:a1.length=0
   ·obtain rfl:a1=[]:=List.eq_nil_of_length_eq_zero hn
    exact bad 4 (lvE_none hd hr hn) (by decide) (Level_none a0 a2 v1 w1 h0 h2 hv hd (by omega) (by omega))
   ·have H:Calls Tryz.prog 119 #[.agg #[.int .i64 a0,v1],.int .i64 a2] w1 fun e w'=>LvPost a0 a2 a1 e∧Below w1.heap.size w1 w':=by
     cases hev:(a1.any fun b=>decide (b.length≠lvK a1))with
     |true=>exact Level_uneven a0 a2 v1 a1 w1 h0 hv hd (by omega) (by omega) (by omega) hev
     |false=>exact Level_even a0 a2 v1 a1 w1 h0 hv hd (by omega) (by omega) (by omega) hev
    by_cases hB:LvBad a0 a2 a1
    ·refine bad 4 (lvE_lb hd hr hn hB) (by decide) (H.mono ?_)
     rintro e w' ⟨hp,hbl⟩
     exact⟨hp.1 hB,hbl⟩
    ·refine H.mono ?_
     rintro e w' ⟨hp,hbl⟩
     have he:=lvE_ok hd hr hn hB
     refine⟨?_,lvE_bd _ _ _,hx,hbl⟩
     rw[hp.2 hB]
     unfold lvX1 lvX2
     rw[if_pos he,if_pos he,he]
 ·exact bad _ (lvE_bad hd) hd (DLevel_bad a0 a2 v1 a1 w1 h0 hv hb hd)
end Go.Proofs.YtnnaadmegeeinaaGreatDoor
