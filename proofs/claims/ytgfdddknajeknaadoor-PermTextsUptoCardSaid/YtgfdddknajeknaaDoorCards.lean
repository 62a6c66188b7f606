/-
  DERIVED. GIVEN WITH THE SEED: THE CARDS: each row of YtgfdddknajeknaaDoorRows.lean that lists a variable, with what it lists TIED to the program's text (the seventh form; the later family's looks); each row that meets fmt, with fmt's text TOLD by the authors' own Lean function (tested against real Go, not proved from fmt's source: count such statements apart). THE CARD IS WHAT COUNTS. Prove the row's statement (the work); the ties are given (YtgfdddknajeknaaDoorTie.lean); close each card by the builder's one call (the guide's Derived/Test/ToyasCard.lean, 'card_holds'). Laid BY PROGRAM, IN A SANDBOX (cutbox-door.mjs). By AI agents, Wed Nov 11 2026. No macro, syntax, notation, axiom, sorry.
-/
import Derived.Test.YtgfdddknajeknaaDoorRows
import GoSem.ClaimSeven
namespace Go.Proofs.YtgfdddknajeknaaDoor
namespace Rows

/-- THE TIED CARD OF 'parterrelaw1.PermTexts'. -/
def permTextsCard : Claim7 := { stood := { row := permTextsRow, standIns := [], harness := (true, "6c29f1c0e58a7453cde70b9334bd4c28eaadd6ddd09571ce8e91a06c3e8395bb"), looks := true }, kinds := [], alts := [], laidByText := true, laidKinds := [.data, .data, .data, .data, .sentinel, .sentinel, .pinned], laidTests := true, laidLooks := .later }
def PermTextsCardSaid : Prop := Claim7.holds Tryd.pinned (.plain (OpenSpec.ofChange permTextsSpec)) permTextsCard

/-- THE TIED CARD OF 'parterrelaw1.PermBack'. -/
def permBackCard : Claim7 := { stood := { row := permBackRow, standIns := [], harness := (true, "6c29f1c0e58a7453cde70b9334bd4c28eaadd6ddd09571ce8e91a06c3e8395bb"), looks := true }, kinds := [], alts := [], laidByText := true, laidKinds := [.data, .data, .data, .data, .sentinel, .sentinel, .pinned], laidTests := true, laidLooks := .later }
def PermBackCardSaid : Prop := Claim7.holds Tryd.pinned (.plain (OpenSpec.ofChange permBackSpec)) permBackCard

/-- THE SECOND FORM's CARD OF 'parterrelaw1.PermTexts'. -/
def permTextsUptoCard : Claim7 := { stood := { row := permTextsUptoRow, standIns := [], harness := (true, "6c29f1c0e58a7453cde70b9334bd4c28eaadd6ddd09571ce8e91a06c3e8395bb"), looks := true }, kinds := [], alts := [], laidByText := true, laidKinds := [.data, .data, .data, .data, .sentinel, .sentinel, .pinned], laidTests := true, laidLooks := .later }
def PermTextsUptoCardSaid : Prop := Claim7.holds Tryd.pinned (.plain (OpenSpec.upto permTextsSpec)) permTextsUptoCard

/-- THE SECOND FORM's CARD OF 'parterrelaw1.PermBack'. -/
def permBackUptoCard : Claim7 := { stood := { row := permBackUptoRow, standIns := [], harness := (true, "6c29f1c0e58a7453cde70b9334bd4c28eaadd6ddd09571ce8e91a06c3e8395bb"), looks := true }, kinds := [], alts := [], laidByText := true, laidKinds := [.data, .data, .data, .data, .sentinel, .sentinel, .pinned], laidTests := true, laidLooks := .later }
def PermBackUptoCardSaid : Prop := Claim7.holds Tryd.pinned (.plain (OpenSpec.upto permBackSpec)) permBackUptoCard
end Rows
end Go.Proofs.YtgfdddknajeknaaDoor
