/-
  DERIVED. GIVEN WITH THE SEED: THE CARDS: each row of YtnnaadmegeeinaaGreatDoorRows.lean that lists a variable, with what it lists TIED to the program's text (the seventh form; the later family's looks); each row that meets fmt, with fmt's text TOLD by the authors' own Lean function (tested against real Go, not proved from fmt's source: count such statements apart). THE CARD IS WHAT COUNTS. Prove the row's statement (the work); the ties are given (YtnnaadmegeeinaaGreatDoorTie.lean); close each card by the builder's one call (the guide's Derived/Test/ToyasCard.lean, 'card_holds'). Laid BY PROGRAM, IN A SANDBOX (cutbox-door.mjs). By AI agents, Wed Nov 11 2026. No macro, syntax, notation, axiom, sorry.
-/
import Derived.Test.YtnnaadmegeeinaaGreatDoorRows
import GoSem.ClaimSeven
namespace Go.Proofs.YtnnaadmegeeinaaGreatDoor
namespace Rows

/-- THE TIED CARD OF 'parterrelaw4.RunAnswers'. -/
def runAnswersCard : Claim7 := { stood := { row := runAnswersRow, standIns := [], harness := (true, "7d6a0eea40df8e710a775eb6b643b62a5bf52ac5bf392b0bf9fd64a672e40560"), looks := true }, kinds := [], alts := [], laidByText := true, laidKinds := [.data, .data, .data, .data, .data, .sentinel, .sentinel, .pinned], laidTests := true, laidLooks := .later }
def RunAnswersCardSaid : Prop := Claim7.holds Tryz.pinned (.plain (OpenSpec.ofChange runAnswersSpec)) runAnswersCard

/-- THE TIED CARD OF 'parterrelaw4.RunBegins'. -/
def runBeginsCard : Claim7 := { stood := { row := runBeginsRow, standIns := [], harness := (true, "7d6a0eea40df8e710a775eb6b643b62a5bf52ac5bf392b0bf9fd64a672e40560"), looks := true }, kinds := [], alts := [], laidByText := true, laidKinds := [.data, .data, .data, .data, .data, .sentinel, .sentinel, .pinned], laidTests := true, laidLooks := .later }
def RunBeginsCardSaid : Prop := Claim7.holds Tryz.pinned (.plain (OpenSpec.ofChange runBeginsSpec)) runBeginsCard

/-- THE SECOND FORM's CARD OF 'parterrelaw4.RunAnswers'. -/
def runAnswersUptoCard : Claim7 := { stood := { row := runAnswersUptoRow, standIns := [], harness := (true, "7d6a0eea40df8e710a775eb6b643b62a5bf52ac5bf392b0bf9fd64a672e40560"), looks := true }, kinds := [], alts := [], laidByText := true, laidKinds := [.data, .data, .data, .data, .data, .sentinel, .sentinel, .pinned], laidTests := true, laidLooks := .later }
def RunAnswersUptoCardSaid : Prop := Claim7.holds Tryz.pinned (.plain (OpenSpec.upto runAnswersSpec)) runAnswersUptoCard

/-- THE SECOND FORM's CARD OF 'parterrelaw4.RunBegins'. -/
def runBeginsUptoCard : Claim7 := { stood := { row := runBeginsUptoRow, standIns := [], harness := (true, "7d6a0eea40df8e710a775eb6b643b62a5bf52ac5bf392b0bf9fd64a672e40560"), looks := true }, kinds := [], alts := [], laidByText := true, laidKinds := [.data, .data, .data, .data, .data, .sentinel, .sentinel, .pinned], laidTests := true, laidLooks := .later }
def RunBeginsUptoCardSaid : Prop := Claim7.holds Tryz.pinned (.plain (OpenSpec.upto runBeginsSpec)) runBeginsUptoCard
end Rows
end Go.Proofs.YtnnaadmegeeinaaGreatDoor
