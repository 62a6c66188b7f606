/-
  DERIVED. GIVEN WITH THE SEED: THE CARDS: each row of YthdlhfgeminoiaaDoorRows.lean that lists a variable, with what it lists TIED to the program's text (the seventh form; the later family's looks); each row that meets fmt, with fmt's text TOLD by the authors' own Lean function (tested against real Go, not proved from fmt's source: count such statements apart). THE CARD IS WHAT COUNTS. Prove the row's statement (the work); the ties are given (YthdlhfgeminoiaaDoorTie.lean); close each card by the builder's one call (the guide's Derived/Test/ToyasCard.lean, 'card_holds'). Laid BY PROGRAM, IN A SANDBOX (cutbox-door.mjs). By AI agents, Wed Nov 11 2026. No macro, syntax, notation, axiom, sorry.
-/
import Derived.Test.YthdlhfgeminoiaaDoorRows
import GoSem.ClaimSeven
namespace Go.Proofs.YthdlhfgeminoiaaDoor
namespace Rows

/-- THE TIED CARD OF 'parterrelaw1.FieldLeast'. -/
def fieldLeastCard : Claim7 := { stood := { row := fieldLeastRow, standIns := [], harness := (true, "42a9d29065cb19c98cf5ddca3f3cb1c3fc13e6df20cdb596d5a2e7f3aa59ae3f"), looks := false }, kinds := [], alts := [], laidByText := true, laidKinds := [.data], laidTests := true, laidLooks := .later }
def FieldLeastCardSaid : Prop := Claim7.holds Tryd.pinned (.plain (OpenSpec.ofChange fieldLeastSpec)) fieldLeastCard

/-- THE TIED CARD OF 'parterrelaw1.FieldSums'. -/
def fieldSumsCard : Claim7 := { stood := { row := fieldSumsRow, standIns := [], harness := (true, "42a9d29065cb19c98cf5ddca3f3cb1c3fc13e6df20cdb596d5a2e7f3aa59ae3f"), looks := false }, kinds := [], alts := [], laidByText := true, laidKinds := [.data], laidTests := true, laidLooks := .later }
def FieldSumsCardSaid : Prop := Claim7.holds Tryd.pinned (.plain (OpenSpec.ofChange fieldSumsSpec)) fieldSumsCard

/-- THE TIED CARD OF 'parterrelaw1.FieldChecks'. -/
def fieldChecksCard : Claim7 := { stood := { row := fieldChecksRow, standIns := [], harness := (true, "42a9d29065cb19c98cf5ddca3f3cb1c3fc13e6df20cdb596d5a2e7f3aa59ae3f"), looks := false }, kinds := [], alts := [], laidByText := true, laidKinds := [.data], laidTests := true, laidLooks := .later }
def FieldChecksCardSaid : Prop := Claim7.holds Tryd.pinned (.plain (OpenSpec.ofChange fieldChecksSpec)) fieldChecksCard

/-- THE TIED CARD OF 'parterrelaw1.FieldHolds'. -/
def fieldHoldsCard : Claim7 := { stood := { row := fieldHoldsRow, standIns := [], harness := (true, "42a9d29065cb19c98cf5ddca3f3cb1c3fc13e6df20cdb596d5a2e7f3aa59ae3f"), looks := false }, kinds := [], alts := [], laidByText := true, laidKinds := [.data], laidTests := true, laidLooks := .later }
def FieldHoldsCardSaid : Prop := Claim7.holds Tryd.pinned (.plain (OpenSpec.ofChange fieldHoldsSpec)) fieldHoldsCard

/-- THE TIED CARD OF 'parterrelaw1.FieldFermat'. -/
def fieldFermatCard : Claim7 := { stood := { row := fieldFermatRow, standIns := [], harness := (true, "42a9d29065cb19c98cf5ddca3f3cb1c3fc13e6df20cdb596d5a2e7f3aa59ae3f"), looks := false }, kinds := [], alts := [], laidByText := true, laidKinds := [.data], laidTests := true, laidLooks := .later }
def FieldFermatCardSaid : Prop := Claim7.holds Tryd.pinned (.plain (OpenSpec.ofChange fieldFermatSpec)) fieldFermatCard

/-- THE TIED CARD OF 'parterrelaw1.FieldTraces'. -/
def fieldTracesCard : Claim7 := { stood := { row := fieldTracesRow, standIns := [], harness := (true, "42a9d29065cb19c98cf5ddca3f3cb1c3fc13e6df20cdb596d5a2e7f3aa59ae3f"), looks := false }, kinds := [], alts := [], laidByText := true, laidKinds := [.data], laidTests := true, laidLooks := .later }
def FieldTracesCardSaid : Prop := Claim7.holds Tryd.pinned (.plain (OpenSpec.ofChange fieldTracesSpec)) fieldTracesCard

/-- THE TIED CARD OF 'parterrelaw1.FieldEuler'. -/
def fieldEulerCard : Claim7 := { stood := { row := fieldEulerRow, standIns := [], harness := (true, "42a9d29065cb19c98cf5ddca3f3cb1c3fc13e6df20cdb596d5a2e7f3aa59ae3f"), looks := false }, kinds := [], alts := [], laidByText := true, laidKinds := [.data], laidTests := true, laidLooks := .later }
def FieldEulerCardSaid : Prop := Claim7.holds Tryd.pinned (.plain (OpenSpec.ofChange fieldEulerSpec)) fieldEulerCard

/-- THE TIED CARD OF 'parterrelaw1.FieldPowers'. -/
def fieldPowersCard : Claim7 := { stood := { row := fieldPowersRow, standIns := [], harness := (true, "42a9d29065cb19c98cf5ddca3f3cb1c3fc13e6df20cdb596d5a2e7f3aa59ae3f"), looks := false }, kinds := [], alts := [], laidByText := true, laidKinds := [.data], laidTests := true, laidLooks := .later }
def FieldPowersCardSaid : Prop := Claim7.holds Tryd.pinned (.plain (OpenSpec.ofChange fieldPowersSpec)) fieldPowersCard

/-- THE SECOND FORM's CARD OF 'parterrelaw1.FieldLeast'. -/
def fieldLeastUptoCard : Claim7 := { stood := { row := fieldLeastUptoRow, standIns := [], harness := (true, "42a9d29065cb19c98cf5ddca3f3cb1c3fc13e6df20cdb596d5a2e7f3aa59ae3f"), looks := false }, kinds := [], alts := [], laidByText := true, laidKinds := [.data], laidTests := true, laidLooks := .later }
def FieldLeastUptoCardSaid : Prop := Claim7.holds Tryd.pinned (.plain (OpenSpec.upto fieldLeastSpec)) fieldLeastUptoCard

/-- THE SECOND FORM's CARD OF 'parterrelaw1.FieldSums'. -/
def fieldSumsUptoCard : Claim7 := { stood := { row := fieldSumsUptoRow, standIns := [], harness := (true, "42a9d29065cb19c98cf5ddca3f3cb1c3fc13e6df20cdb596d5a2e7f3aa59ae3f"), looks := false }, kinds := [], alts := [], laidByText := true, laidKinds := [.data], laidTests := true, laidLooks := .later }
def FieldSumsUptoCardSaid : Prop := Claim7.holds Tryd.pinned (.plain (OpenSpec.upto fieldSumsSpec)) fieldSumsUptoCard

/-- THE SECOND FORM's CARD OF 'parterrelaw1.FieldChecks'. -/
def fieldChecksUptoCard : Claim7 := { stood := { row := fieldChecksUptoRow, standIns := [], harness := (true, "42a9d29065cb19c98cf5ddca3f3cb1c3fc13e6df20cdb596d5a2e7f3aa59ae3f"), looks := false }, kinds := [], alts := [], laidByText := true, laidKinds := [.data], laidTests := true, laidLooks := .later }
def FieldChecksUptoCardSaid : Prop := Claim7.holds Tryd.pinned (.plain (OpenSpec.upto fieldChecksSpec)) fieldChecksUptoCard

/-- THE SECOND FORM's CARD OF 'parterrelaw1.FieldHolds'. -/
def fieldHoldsUptoCard : Claim7 := { stood := { row := fieldHoldsUptoRow, standIns := [], harness := (true, "42a9d29065cb19c98cf5ddca3f3cb1c3fc13e6df20cdb596d5a2e7f3aa59ae3f"), looks := false }, kinds := [], alts := [], laidByText := true, laidKinds := [.data], laidTests := true, laidLooks := .later }
def FieldHoldsUptoCardSaid : Prop := Claim7.holds Tryd.pinned (.plain (OpenSpec.upto fieldHoldsSpec)) fieldHoldsUptoCard

/-- THE SECOND FORM's CARD OF 'parterrelaw1.FieldFermat'. -/
def fieldFermatUptoCard : Claim7 := { stood := { row := fieldFermatUptoRow, standIns := [], harness := (true, "42a9d29065cb19c98cf5ddca3f3cb1c3fc13e6df20cdb596d5a2e7f3aa59ae3f"), looks := false }, kinds := [], alts := [], laidByText := true, laidKinds := [.data], laidTests := true, laidLooks := .later }
def FieldFermatUptoCardSaid : Prop := Claim7.holds Tryd.pinned (.plain (OpenSpec.upto fieldFermatSpec)) fieldFermatUptoCard

/-- THE SECOND FORM's CARD OF 'parterrelaw1.FieldTraces'. -/
def fieldTracesUptoCard : Claim7 := { stood := { row := fieldTracesUptoRow, standIns := [], harness := (true, "42a9d29065cb19c98cf5ddca3f3cb1c3fc13e6df20cdb596d5a2e7f3aa59ae3f"), looks := false }, kinds := [], alts := [], laidByText := true, laidKinds := [.data], laidTests := true, laidLooks := .later }
def FieldTracesUptoCardSaid : Prop := Claim7.holds Tryd.pinned (.plain (OpenSpec.upto fieldTracesSpec)) fieldTracesUptoCard

/-- THE SECOND FORM's CARD OF 'parterrelaw1.FieldEuler'. -/
def fieldEulerUptoCard : Claim7 := { stood := { row := fieldEulerUptoRow, standIns := [], harness := (true, "42a9d29065cb19c98cf5ddca3f3cb1c3fc13e6df20cdb596d5a2e7f3aa59ae3f"), looks := false }, kinds := [], alts := [], laidByText := true, laidKinds := [.data], laidTests := true, laidLooks := .later }
def FieldEulerUptoCardSaid : Prop := Claim7.holds Tryd.pinned (.plain (OpenSpec.upto fieldEulerSpec)) fieldEulerUptoCard

/-- THE SECOND FORM's CARD OF 'parterrelaw1.FieldPowers'. -/
def fieldPowersUptoCard : Claim7 := { stood := { row := fieldPowersUptoRow, standIns := [], harness := (true, "42a9d29065cb19c98cf5ddca3f3cb1c3fc13e6df20cdb596d5a2e7f3aa59ae3f"), looks := false }, kinds := [], alts := [], laidByText := true, laidKinds := [.data], laidTests := true, laidLooks := .later }
def FieldPowersUptoCardSaid : Prop := Claim7.holds Tryd.pinned (.plain (OpenSpec.upto fieldPowersSpec)) fieldPowersUptoCard
end Rows
end Go.Proofs.YthdlhfgeminoiaaDoor
