/-
  No cell of these rows narrows 'for every input' (looked for: loops, veiled, ifaces, maps, wideKeys, modest, calm, conditions, laid).
  DERIVED. THE GIVEN ROWS OF THIS SEAT. 7 by the template 'for every input the law returns true; each argument reads behind the call as it read before'; 0 by the template 'total and deterministic' (their statements: YthbpdfkaacgpoaaTotals.lean).
  GIVEN WITH THE SEED: the statements are not yours to turn. If you find one false, say at which input.
  Laid BY PROGRAM, IN A SANDBOX (cutbox-rows.mjs): the forced cells as the released guide's own fill.sh prints them over the translation 325e1ce3a63c8e87… (all of the seat's roots in one cut). By AI agents, Wed Nov 11 2026. No macro, syntax, notation, axiom, sorry.
-/
import Derived.Test.YthbpdfkaacgpoaaChecked
import GoSem.Claim
import GoSem.ClaimJoined
import GoSem.ClaimMapViews
import Derived.JoinedTies
import Derived.KernelRfl
namespace Go.Proofs.Ythbpdfkaacgpoaa
/- THE CELL 'sum', in the pinned program and in every row, IS THE sha256 OF THE DUMP (.gsa) THAT YthbpdfkaacgpoaaProg.lean LOADS. Nothing in Lean hashes anything: it is a label: what it is worth is what the hold of that sum in a sandbox is worth. -/
noncomputable def Try.pinned : Pinned := { name := "ythbpdfkaacgpoaa", sum := "325e1ce3a63c8e8727db8e8be8c394d55d1fcd24fe0d04086c36ce0cebc2e0ed", checked := Try.checked }
namespace Rows
def none {H : Type} : Left H := { results := [], args := [] }

/-- 'parterrelaw4.TourPaths': WHATEVER THE INPUT: true; the input reads as it did. -/
def tourPathsSpec : ChangeSpec := { name := "tourPaths", fn := fun _ => fun
  | [d] => { results := [.lit (.bool true)], args := [d] }
  | _ => none }
def tourPathsRow : OpenClaim := { program := "ythbpdfkaacgpoaa", sum := "325e1ce3a63c8e8727db8e8be8c394d55d1fcd24fe0d04086c36ce0cebc2e0ed", func := "parterre/parterrelaw4.TourPaths", spec := "tourPaths", unfollowed := true, recurses := true, apart := false }
def TourPathsSaid : Prop := tourPathsRow.holds Try.pinned (OpenSpec.ofChange tourPathsSpec)

/-- ITS FALSE NEIGHBOUR: 'it returns false'. Refute it at one input. -/
def tourPathsWrong : ChangeSpec := { name := "tourPaths", fn := fun _ => fun
  | [d] => { results := [.lit (.bool false)], args := [d] }
  | _ => none }
def TourPathsWrongFalsely : Prop := tourPathsRow.holds Try.pinned (OpenSpec.ofChange tourPathsWrong)

/-- 'parterrelaw4.TourRedei': WHATEVER THE INPUT: true; the input reads as it did. -/
def tourRedeiSpec : ChangeSpec := { name := "tourRedei", fn := fun _ => fun
  | [d] => { results := [.lit (.bool true)], args := [d] }
  | _ => none }
def tourRedeiRow : OpenClaim := { program := "ythbpdfkaacgpoaa", sum := "325e1ce3a63c8e8727db8e8be8c394d55d1fcd24fe0d04086c36ce0cebc2e0ed", func := "parterre/parterrelaw4.TourRedei", spec := "tourRedei", unfollowed := true, recurses := true, apart := false }
def TourRedeiSaid : Prop := tourRedeiRow.holds Try.pinned (OpenSpec.ofChange tourRedeiSpec)

/-- ITS FALSE NEIGHBOUR: 'it returns false'. Refute it at one input. -/
def tourRedeiWrong : ChangeSpec := { name := "tourRedei", fn := fun _ => fun
  | [d] => { results := [.lit (.bool false)], args := [d] }
  | _ => none }
def TourRedeiWrongFalsely : Prop := tourRedeiRow.holds Try.pinned (OpenSpec.ofChange tourRedeiWrong)

/-- 'parterrelaw4.TourKings': WHATEVER THE INPUT: true; the input reads as it did. -/
def tourKingsSpec : ChangeSpec := { name := "tourKings", fn := fun _ => fun
  | [d] => { results := [.lit (.bool true)], args := [d] }
  | _ => none }
def tourKingsRow : OpenClaim := { program := "ythbpdfkaacgpoaa", sum := "325e1ce3a63c8e8727db8e8be8c394d55d1fcd24fe0d04086c36ce0cebc2e0ed", func := "parterre/parterrelaw4.TourKings", spec := "tourKings", unfollowed := true, recurses := true, apart := false }
def TourKingsSaid : Prop := tourKingsRow.holds Try.pinned (OpenSpec.ofChange tourKingsSpec)

/-- ITS FALSE NEIGHBOUR: 'it returns false'. Refute it at one input. -/
def tourKingsWrong : ChangeSpec := { name := "tourKings", fn := fun _ => fun
  | [d] => { results := [.lit (.bool false)], args := [d] }
  | _ => none }
def TourKingsWrongFalsely : Prop := tourKingsRow.holds Try.pinned (OpenSpec.ofChange tourKingsWrong)

/-- 'parterrelaw4.TourCould': WHATEVER THE INPUT: true; the input reads as it did. -/
def tourCouldSpec : ChangeSpec := { name := "tourCould", fn := fun _ => fun
  | [d] => { results := [.lit (.bool true)], args := [d] }
  | _ => none }
def tourCouldRow : OpenClaim := { program := "ythbpdfkaacgpoaa", sum := "325e1ce3a63c8e8727db8e8be8c394d55d1fcd24fe0d04086c36ce0cebc2e0ed", func := "parterre/parterrelaw4.TourCould", spec := "tourCould", unfollowed := true, recurses := true, apart := false }
def TourCouldSaid : Prop := tourCouldRow.holds Try.pinned (OpenSpec.ofChange tourCouldSpec)

/-- ITS FALSE NEIGHBOUR: 'it returns false'. Refute it at one input. -/
def tourCouldWrong : ChangeSpec := { name := "tourCould", fn := fun _ => fun
  | [d] => { results := [.lit (.bool false)], args := [d] }
  | _ => none }
def TourCouldWrongFalsely : Prop := tourCouldRow.holds Try.pinned (OpenSpec.ofChange tourCouldWrong)

/-- 'parterrelaw4.TourAsks': WHATEVER THE INPUT: true; the input reads as it did. -/
def tourAsksSpec : ChangeSpec := { name := "tourAsks", fn := fun _ => fun
  | [d] => { results := [.lit (.bool true)], args := [d] }
  | _ => none }
def tourAsksRow : OpenClaim := { program := "ythbpdfkaacgpoaa", sum := "325e1ce3a63c8e8727db8e8be8c394d55d1fcd24fe0d04086c36ce0cebc2e0ed", func := "parterre/parterrelaw4.TourAsks", spec := "tourAsks", unfollowed := true, recurses := true, apart := false }
def TourAsksSaid : Prop := tourAsksRow.holds Try.pinned (OpenSpec.ofChange tourAsksSpec)

/-- ITS FALSE NEIGHBOUR: 'it returns false'. Refute it at one input. -/
def tourAsksWrong : ChangeSpec := { name := "tourAsks", fn := fun _ => fun
  | [d] => { results := [.lit (.bool false)], args := [d] }
  | _ => none }
def TourAsksWrongFalsely : Prop := tourAsksRow.holds Try.pinned (OpenSpec.ofChange tourAsksWrong)

/-- 'parterrelaw4.TourCamion': WHATEVER THE INPUT: true; the input reads as it did. -/
def tourCamionSpec : ChangeSpec := { name := "tourCamion", fn := fun _ => fun
  | [d] => { results := [.lit (.bool true)], args := [d] }
  | _ => none }
def tourCamionRow : OpenClaim := { program := "ythbpdfkaacgpoaa", sum := "325e1ce3a63c8e8727db8e8be8c394d55d1fcd24fe0d04086c36ce0cebc2e0ed", func := "parterre/parterrelaw4.TourCamion", spec := "tourCamion", unfollowed := true, recurses := true, apart := false }
def TourCamionSaid : Prop := tourCamionRow.holds Try.pinned (OpenSpec.ofChange tourCamionSpec)

/-- ITS FALSE NEIGHBOUR: 'it returns false'. Refute it at one input. -/
def tourCamionWrong : ChangeSpec := { name := "tourCamion", fn := fun _ => fun
  | [d] => { results := [.lit (.bool false)], args := [d] }
  | _ => none }
def TourCamionWrongFalsely : Prop := tourCamionRow.holds Try.pinned (OpenSpec.ofChange tourCamionWrong)

/-- 'parterrelaw4.TourLandau': WHATEVER THE INPUT: true; the input reads as it did. -/
def tourLandauSpec : ChangeSpec := { name := "tourLandau", fn := fun _ => fun
  | [d1, d2] => { results := [.lit (.bool true)], args := [d1, d2] }
  | _ => none }
def tourLandauRow : OpenClaim := { program := "ythbpdfkaacgpoaa", sum := "325e1ce3a63c8e8727db8e8be8c394d55d1fcd24fe0d04086c36ce0cebc2e0ed", func := "parterre/parterrelaw4.TourLandau", spec := "tourLandau", unfollowed := true, recurses := true, apart := false }
def TourLandauSaid : Prop := tourLandauRow.holds Try.pinned (OpenSpec.ofChange tourLandauSpec)

/-- ITS FALSE NEIGHBOUR: 'it returns false'. Refute it at one input. -/
def tourLandauWrong : ChangeSpec := { name := "tourLandau", fn := fun _ => fun
  | [d1, d2] => { results := [.lit (.bool false)], args := [d1, d2] }
  | _ => none }
def TourLandauWrongFalsely : Prop := tourLandauRow.holds Try.pinned (OpenSpec.ofChange tourLandauWrong)

/- THE SECOND FORM. 'bulk': how many values and letters a reading holds, each counted each time it is reached (what is shared counts as often as it is met; a slice's spare places count too). A statement '..UptoSaid' is the law's where the arguments, and the package variables that the reading takes, are together of bulk at most 1048576: NARROWER than '..Said'. Prove '..Said' where nothing that the law and all that it calls make is longer than what came in: it says more and counts as full. Else prove '..UptoSaid'. A law counts once. -/
mutual
def uptoBulk {H : Type} : DataW H → Nat
  | .lit (.string bytes) => bytes.length + 1
  | .lit _ => 1
  | .nil => 1
  | .ptr d => uptoBulk d + 1
  | .slice elems spare => uptoBulkAll elems + uptoBulkAll spare + 1
  | .agg parts => uptoBulkAll parts + 1
  | .iface _ d => uptoBulk d + 1
  | .map entries => uptoBulkEntries entries + 1
  | .held _ => 1
def uptoBulkAll {H : Type} : List (DataW H) → Nat
  | [] => 0
  | d :: r => uptoBulk d + uptoBulkAll r
def uptoBulkEntries {H : Type} : List (Lit × DataW H) → Nat
  | [] => 0
  | x :: r => uptoBulkEntry x + uptoBulkEntries r
def uptoBulkEntry {H : Type} : Lit × DataW H → Nat
  | (.string bytes, d) => bytes.length + uptoBulk d + 1
  | (_, d) => uptoBulk d + 1
 end
def uptoSmall : (H : Type) → List (DataW H) → Bool := fun _ ds => decide (uptoBulkAll ds ≤ 1048576)
def OpenSpec.upto (s : _root_.Go.ChangeSpec) : _root_.Go.OpenSpec := { _root_.Go.OpenSpec.ofChange s with cond := some uptoSmall }

/-- 'parterrelaw4.TourPaths', WHERE WHAT IT READS IS OF BULK AT MOST 1048576: true; the input reads as it did. -/
def tourPathsUptoRow : OpenClaim := { program := "ythbpdfkaacgpoaa", sum := "325e1ce3a63c8e8727db8e8be8c394d55d1fcd24fe0d04086c36ce0cebc2e0ed", func := "parterre/parterrelaw4.TourPaths", spec := "tourPaths", unfollowed := true, recurses := true, apart := false, narrowed := true }
def TourPathsUptoSaid : Prop := tourPathsUptoRow.holds Try.pinned (OpenSpec.upto tourPathsSpec)

/-- 'parterrelaw4.TourRedei', WHERE WHAT IT READS IS OF BULK AT MOST 1048576: true; the input reads as it did. -/
def tourRedeiUptoRow : OpenClaim := { program := "ythbpdfkaacgpoaa", sum := "325e1ce3a63c8e8727db8e8be8c394d55d1fcd24fe0d04086c36ce0cebc2e0ed", func := "parterre/parterrelaw4.TourRedei", spec := "tourRedei", unfollowed := true, recurses := true, apart := false, narrowed := true }
def TourRedeiUptoSaid : Prop := tourRedeiUptoRow.holds Try.pinned (OpenSpec.upto tourRedeiSpec)

/-- 'parterrelaw4.TourKings', WHERE WHAT IT READS IS OF BULK AT MOST 1048576: true; the input reads as it did. -/
def tourKingsUptoRow : OpenClaim := { program := "ythbpdfkaacgpoaa", sum := "325e1ce3a63c8e8727db8e8be8c394d55d1fcd24fe0d04086c36ce0cebc2e0ed", func := "parterre/parterrelaw4.TourKings", spec := "tourKings", unfollowed := true, recurses := true, apart := false, narrowed := true }
def TourKingsUptoSaid : Prop := tourKingsUptoRow.holds Try.pinned (OpenSpec.upto tourKingsSpec)

/-- 'parterrelaw4.TourCould', WHERE WHAT IT READS IS OF BULK AT MOST 1048576: true; the input reads as it did. -/
def tourCouldUptoRow : OpenClaim := { program := "ythbpdfkaacgpoaa", sum := "325e1ce3a63c8e8727db8e8be8c394d55d1fcd24fe0d04086c36ce0cebc2e0ed", func := "parterre/parterrelaw4.TourCould", spec := "tourCould", unfollowed := true, recurses := true, apart := false, narrowed := true }
def TourCouldUptoSaid : Prop := tourCouldUptoRow.holds Try.pinned (OpenSpec.upto tourCouldSpec)

/-- 'parterrelaw4.TourAsks', WHERE WHAT IT READS IS OF BULK AT MOST 1048576: true; the input reads as it did. -/
def tourAsksUptoRow : OpenClaim := { program := "ythbpdfkaacgpoaa", sum := "325e1ce3a63c8e8727db8e8be8c394d55d1fcd24fe0d04086c36ce0cebc2e0ed", func := "parterre/parterrelaw4.TourAsks", spec := "tourAsks", unfollowed := true, recurses := true, apart := false, narrowed := true }
def TourAsksUptoSaid : Prop := tourAsksUptoRow.holds Try.pinned (OpenSpec.upto tourAsksSpec)

/-- 'parterrelaw4.TourCamion', WHERE WHAT IT READS IS OF BULK AT MOST 1048576: true; the input reads as it did. -/
def tourCamionUptoRow : OpenClaim := { program := "ythbpdfkaacgpoaa", sum := "325e1ce3a63c8e8727db8e8be8c394d55d1fcd24fe0d04086c36ce0cebc2e0ed", func := "parterre/parterrelaw4.TourCamion", spec := "tourCamion", unfollowed := true, recurses := true, apart := false, narrowed := true }
def TourCamionUptoSaid : Prop := tourCamionUptoRow.holds Try.pinned (OpenSpec.upto tourCamionSpec)

/-- 'parterrelaw4.TourLandau', WHERE WHAT IT READS IS OF BULK AT MOST 1048576: true; the input reads as it did. -/
def tourLandauUptoRow : OpenClaim := { program := "ythbpdfkaacgpoaa", sum := "325e1ce3a63c8e8727db8e8be8c394d55d1fcd24fe0d04086c36ce0cebc2e0ed", func := "parterre/parterrelaw4.TourLandau", spec := "tourLandau", unfollowed := true, recurses := true, apart := false, narrowed := true }
def TourLandauUptoSaid : Prop := tourLandauUptoRow.holds Try.pinned (OpenSpec.upto tourLandauSpec)

end Rows
end Go.Proofs.Ythbpdfkaacgpoaa
