/-
  NARROWER THAN 'FOR EVERY INPUT', by the rows' own cells (each row's printed sentence says how): FieldLeast: laid · FieldSums: laid · FieldChecks: laid · FieldHolds: laid · FieldFermat: laid · FieldTraces: laid · FieldEuler: laid · FieldPowers: laid.
  DERIVED. THE GIVEN ROWS OF THIS SEAT. 8 by the template 'for every input the law returns true; each argument reads behind the call as it read before'; 0 by the template 'total and deterministic' (their statements: YthdlhfgeminoiaaDoorTotals.lean).
  GIVEN WITH THE SEED: the statements are not yours to turn. If you find one false, say at which input.
  Laid BY PROGRAM, IN A SANDBOX (cutbox-rows.mjs): the forced cells as the released guide's own fill.sh prints them over the translation 84287d6c4acf639d… (all of the seat's roots in one cut). By AI agents, Wed Nov 11 2026. No macro, syntax, notation, axiom, sorry.
-/
import Derived.Test.YthdlhfgeminoiaaDoorChecked
import GoSem.Claim
import GoSem.ClaimJoined
import GoSem.ClaimMapViews
import Derived.JoinedTies
import Derived.KernelRfl
namespace Go.Proofs.YthdlhfgeminoiaaDoor
/- THE CELL 'sum', in the pinned program and in every row, IS THE sha256 OF THE DUMP (.gsa) THAT YthdlhfgeminoiaaDoorProg.lean LOADS. Nothing in Lean hashes anything: it is a label: what it is worth is what the hold of that sum in a sandbox is worth. -/
noncomputable def Tryd.pinned : Pinned := { name := "ythdlhfgeminoiaadoor", sum := "84287d6c4acf639d18e2c0109e1b43e953c319f7fc83d7a79144cc6db45caf77", checked := Tryd.checked }
namespace Rows
def none {H : Type} : Left H := { results := [], args := [] }

/- WHAT THE LISTED PACKAGE-LEVEL VARIABLES READ AS WHEN THE CALL BEGINS. Each datum BY PROGRAM (the guide's laid-datum.mjs) off the statement by which the dump's own 'gosem.cut.vars' lays the variable. In a bare row this is a premise. The card (YthdlhfgeminoiaaDoorCards.lean) ties it to the program's text. -/
def laid_parterre_field_primes {H : Type} : DataW H := .agg [.lit (.int .i64 2), .lit (.int .i64 3), .lit (.int .i64 5), .lit (.int .i64 7), .lit (.int .i64 11), .lit (.int .i64 13), .lit (.int .i64 17), .lit (.int .i64 19), .lit (.int .i64 23), .lit (.int .i64 29), .lit (.int .i64 31), .lit (.int .i64 37), .lit (.int .i64 41), .lit (.int .i64 43), .lit (.int .i64 47), .lit (.int .i64 53), .lit (.int .i64 59), .lit (.int .i64 61)]

/-- 'parterrelaw1.FieldLeast': WHATEVER THE INPUT: true; the input reads as it did. -/
def fieldLeastSpec : ChangeSpec := { name := "fieldLeast", fn := fun _ => fun
  | [d1, d2] => { results := [.lit (.bool true)], args := [d1, d2] }
  | _ => none }
def fieldLeastRow : OpenClaim := { program := "ythdlhfgeminoiaadoor", sum := "84287d6c4acf639d18e2c0109e1b43e953c319f7fc83d7a79144cc6db45caf77", func := "parterre/parterrelaw1.FieldLeast", spec := "fieldLeast", named := ["parterre/field.primes"], apart := false, laid := [("parterre/field.primes", laid_parterre_field_primes)] }
def FieldLeastSaid : Prop := fieldLeastRow.holds Tryd.pinned (OpenSpec.ofChange fieldLeastSpec)

/-- ITS FALSE NEIGHBOUR: 'it returns false'. Refute it at one input. -/
def fieldLeastWrong : ChangeSpec := { name := "fieldLeast", fn := fun _ => fun
  | [d1, d2] => { results := [.lit (.bool false)], args := [d1, d2] }
  | _ => none }
def FieldLeastWrongFalsely : Prop := fieldLeastRow.holds Tryd.pinned (OpenSpec.ofChange fieldLeastWrong)

/-- 'parterrelaw1.FieldSums': WHATEVER THE INPUT: true; the input reads as it did. -/
def fieldSumsSpec : ChangeSpec := { name := "fieldSums", fn := fun _ => fun
  | [d1, d2, d3] => { results := [.lit (.bool true)], args := [d1, d2, d3] }
  | _ => none }
def fieldSumsRow : OpenClaim := { program := "ythdlhfgeminoiaadoor", sum := "84287d6c4acf639d18e2c0109e1b43e953c319f7fc83d7a79144cc6db45caf77", func := "parterre/parterrelaw1.FieldSums", spec := "fieldSums", named := ["parterre/field.primes"], apart := false, laid := [("parterre/field.primes", laid_parterre_field_primes)] }
def FieldSumsSaid : Prop := fieldSumsRow.holds Tryd.pinned (OpenSpec.ofChange fieldSumsSpec)

/-- ITS FALSE NEIGHBOUR: 'it returns false'. Refute it at one input. -/
def fieldSumsWrong : ChangeSpec := { name := "fieldSums", fn := fun _ => fun
  | [d1, d2, d3] => { results := [.lit (.bool false)], args := [d1, d2, d3] }
  | _ => none }
def FieldSumsWrongFalsely : Prop := fieldSumsRow.holds Tryd.pinned (OpenSpec.ofChange fieldSumsWrong)

/-- 'parterrelaw1.FieldChecks': WHATEVER THE INPUT: true; the input reads as it did. -/
def fieldChecksSpec : ChangeSpec := { name := "fieldChecks", fn := fun _ => fun
  | [d] => { results := [.lit (.bool true)], args := [d] }
  | _ => none }
def fieldChecksRow : OpenClaim := { program := "ythdlhfgeminoiaadoor", sum := "84287d6c4acf639d18e2c0109e1b43e953c319f7fc83d7a79144cc6db45caf77", func := "parterre/parterrelaw1.FieldChecks", spec := "fieldChecks", named := ["parterre/field.primes"], apart := false, laid := [("parterre/field.primes", laid_parterre_field_primes)] }
def FieldChecksSaid : Prop := fieldChecksRow.holds Tryd.pinned (OpenSpec.ofChange fieldChecksSpec)

/-- ITS FALSE NEIGHBOUR: 'it returns false'. Refute it at one input. -/
def fieldChecksWrong : ChangeSpec := { name := "fieldChecks", fn := fun _ => fun
  | [d] => { results := [.lit (.bool false)], args := [d] }
  | _ => none }
def FieldChecksWrongFalsely : Prop := fieldChecksRow.holds Tryd.pinned (OpenSpec.ofChange fieldChecksWrong)

/-- 'parterrelaw1.FieldHolds': WHATEVER THE INPUT: true; the input reads as it did. -/
def fieldHoldsSpec : ChangeSpec := { name := "fieldHolds", fn := fun _ => fun
  | [d1, d2, d3, d4] => { results := [.lit (.bool true)], args := [d1, d2, d3, d4] }
  | _ => none }
def fieldHoldsRow : OpenClaim := { program := "ythdlhfgeminoiaadoor", sum := "84287d6c4acf639d18e2c0109e1b43e953c319f7fc83d7a79144cc6db45caf77", func := "parterre/parterrelaw1.FieldHolds", spec := "fieldHolds", named := ["parterre/field.primes"], apart := false, laid := [("parterre/field.primes", laid_parterre_field_primes)] }
def FieldHoldsSaid : Prop := fieldHoldsRow.holds Tryd.pinned (OpenSpec.ofChange fieldHoldsSpec)

/-- ITS FALSE NEIGHBOUR: 'it returns false'. Refute it at one input. -/
def fieldHoldsWrong : ChangeSpec := { name := "fieldHolds", fn := fun _ => fun
  | [d1, d2, d3, d4] => { results := [.lit (.bool false)], args := [d1, d2, d3, d4] }
  | _ => none }
def FieldHoldsWrongFalsely : Prop := fieldHoldsRow.holds Tryd.pinned (OpenSpec.ofChange fieldHoldsWrong)

/-- 'parterrelaw1.FieldFermat': WHATEVER THE INPUT: true; the input reads as it did. -/
def fieldFermatSpec : ChangeSpec := { name := "fieldFermat", fn := fun _ => fun
  | [d1, d2, d3] => { results := [.lit (.bool true)], args := [d1, d2, d3] }
  | _ => none }
def fieldFermatRow : OpenClaim := { program := "ythdlhfgeminoiaadoor", sum := "84287d6c4acf639d18e2c0109e1b43e953c319f7fc83d7a79144cc6db45caf77", func := "parterre/parterrelaw1.FieldFermat", spec := "fieldFermat", named := ["parterre/field.primes"], apart := false, laid := [("parterre/field.primes", laid_parterre_field_primes)] }
def FieldFermatSaid : Prop := fieldFermatRow.holds Tryd.pinned (OpenSpec.ofChange fieldFermatSpec)

/-- ITS FALSE NEIGHBOUR: 'it returns false'. Refute it at one input. -/
def fieldFermatWrong : ChangeSpec := { name := "fieldFermat", fn := fun _ => fun
  | [d1, d2, d3] => { results := [.lit (.bool false)], args := [d1, d2, d3] }
  | _ => none }
def FieldFermatWrongFalsely : Prop := fieldFermatRow.holds Tryd.pinned (OpenSpec.ofChange fieldFermatWrong)

/-- 'parterrelaw1.FieldTraces': WHATEVER THE INPUT: true; the input reads as it did. -/
def fieldTracesSpec : ChangeSpec := { name := "fieldTraces", fn := fun _ => fun
  | [d1, d2, d3] => { results := [.lit (.bool true)], args := [d1, d2, d3] }
  | _ => none }
def fieldTracesRow : OpenClaim := { program := "ythdlhfgeminoiaadoor", sum := "84287d6c4acf639d18e2c0109e1b43e953c319f7fc83d7a79144cc6db45caf77", func := "parterre/parterrelaw1.FieldTraces", spec := "fieldTraces", named := ["parterre/field.primes"], apart := false, laid := [("parterre/field.primes", laid_parterre_field_primes)] }
def FieldTracesSaid : Prop := fieldTracesRow.holds Tryd.pinned (OpenSpec.ofChange fieldTracesSpec)

/-- ITS FALSE NEIGHBOUR: 'it returns false'. Refute it at one input. -/
def fieldTracesWrong : ChangeSpec := { name := "fieldTraces", fn := fun _ => fun
  | [d1, d2, d3] => { results := [.lit (.bool false)], args := [d1, d2, d3] }
  | _ => none }
def FieldTracesWrongFalsely : Prop := fieldTracesRow.holds Tryd.pinned (OpenSpec.ofChange fieldTracesWrong)

/-- 'parterrelaw1.FieldEuler': WHATEVER THE INPUT: true; the input reads as it did. -/
def fieldEulerSpec : ChangeSpec := { name := "fieldEuler", fn := fun _ => fun
  | [d1, d2] => { results := [.lit (.bool true)], args := [d1, d2] }
  | _ => none }
def fieldEulerRow : OpenClaim := { program := "ythdlhfgeminoiaadoor", sum := "84287d6c4acf639d18e2c0109e1b43e953c319f7fc83d7a79144cc6db45caf77", func := "parterre/parterrelaw1.FieldEuler", spec := "fieldEuler", named := ["parterre/field.primes"], apart := false, laid := [("parterre/field.primes", laid_parterre_field_primes)] }
def FieldEulerSaid : Prop := fieldEulerRow.holds Tryd.pinned (OpenSpec.ofChange fieldEulerSpec)

/-- ITS FALSE NEIGHBOUR: 'it returns false'. Refute it at one input. -/
def fieldEulerWrong : ChangeSpec := { name := "fieldEuler", fn := fun _ => fun
  | [d1, d2] => { results := [.lit (.bool false)], args := [d1, d2] }
  | _ => none }
def FieldEulerWrongFalsely : Prop := fieldEulerRow.holds Tryd.pinned (OpenSpec.ofChange fieldEulerWrong)

/-- 'parterrelaw1.FieldPowers': WHATEVER THE INPUT: true; the input reads as it did. -/
def fieldPowersSpec : ChangeSpec := { name := "fieldPowers", fn := fun _ => fun
  | [d1, d2, d3] => { results := [.lit (.bool true)], args := [d1, d2, d3] }
  | _ => none }
def fieldPowersRow : OpenClaim := { program := "ythdlhfgeminoiaadoor", sum := "84287d6c4acf639d18e2c0109e1b43e953c319f7fc83d7a79144cc6db45caf77", func := "parterre/parterrelaw1.FieldPowers", spec := "fieldPowers", named := ["parterre/field.primes"], apart := false, laid := [("parterre/field.primes", laid_parterre_field_primes)] }
def FieldPowersSaid : Prop := fieldPowersRow.holds Tryd.pinned (OpenSpec.ofChange fieldPowersSpec)

/-- ITS FALSE NEIGHBOUR: 'it returns false'. Refute it at one input. -/
def fieldPowersWrong : ChangeSpec := { name := "fieldPowers", fn := fun _ => fun
  | [d1, d2, d3] => { results := [.lit (.bool false)], args := [d1, d2, d3] }
  | _ => none }
def FieldPowersWrongFalsely : Prop := fieldPowersRow.holds Tryd.pinned (OpenSpec.ofChange fieldPowersWrong)

/- THE SECOND FORM. 'bulk': how many values and letters a reading holds, each counted each time it is reached (what is shared counts as often as it is met; a slice's spare places count too). A statement '..UptoSaid' is the law's where the arguments, and the package variables that the reading takes, are together of bulk at most 1048576: NARROWER than '..Said'. Prove '..Said' where nothing that the law and all that it calls make is longer than what came in: it says more and counts as full. Else prove '..UptoSaid'. A law counts once. -/
mutual
def uptoBulk {H : Type} : DataW H → Nat
  | .lit (.string bytes) => bytes.length + 1
  | .lit _ => 1
  | .nil => 1
  | .ptr d => uptoBulk d + 1
  | .slice elems spare => uptoBulkAll elems + uptoBulkAll spare + 1
  | .agg parts => uptoBulkAll parts + 1
  | .iface _ d => uptoBulk d + 1
  | .map entries => uptoBulkEntries entries + 1
  | .held _ => 1
def uptoBulkAll {H : Type} : List (DataW H) → Nat
  | [] => 0
  | d :: r => uptoBulk d + uptoBulkAll r
def uptoBulkEntries {H : Type} : List (Lit × DataW H) → Nat
  | [] => 0
  | x :: r => uptoBulkEntry x + uptoBulkEntries r
def uptoBulkEntry {H : Type} : Lit × DataW H → Nat
  | (.string bytes, d) => bytes.length + uptoBulk d + 1
  | (_, d) => uptoBulk d + 1
 end
def uptoSmall : (H : Type) → List (DataW H) → Bool := fun _ ds => decide (uptoBulkAll ds ≤ 1048576)
def OpenSpec.upto (s : _root_.Go.ChangeSpec) : _root_.Go.OpenSpec := { _root_.Go.OpenSpec.ofChange s with cond := some uptoSmall }

/-- 'parterrelaw1.FieldLeast', WHERE WHAT IT READS IS OF BULK AT MOST 1048576: true; the input reads as it did. -/
def fieldLeastUptoRow : OpenClaim := { program := "ythdlhfgeminoiaadoor", sum := "84287d6c4acf639d18e2c0109e1b43e953c319f7fc83d7a79144cc6db45caf77", func := "parterre/parterrelaw1.FieldLeast", spec := "fieldLeast", named := ["parterre/field.primes"], apart := false, laid := [("parterre/field.primes", laid_parterre_field_primes)], narrowed := true }
def FieldLeastUptoSaid : Prop := fieldLeastUptoRow.holds Tryd.pinned (OpenSpec.upto fieldLeastSpec)

/-- 'parterrelaw1.FieldSums', WHERE WHAT IT READS IS OF BULK AT MOST 1048576: true; the input reads as it did. -/
def fieldSumsUptoRow : OpenClaim := { program := "ythdlhfgeminoiaadoor", sum := "84287d6c4acf639d18e2c0109e1b43e953c319f7fc83d7a79144cc6db45caf77", func := "parterre/parterrelaw1.FieldSums", spec := "fieldSums", named := ["parterre/field.primes"], apart := false, laid := [("parterre/field.primes", laid_parterre_field_primes)], narrowed := true }
def FieldSumsUptoSaid : Prop := fieldSumsUptoRow.holds Tryd.pinned (OpenSpec.upto fieldSumsSpec)

/-- 'parterrelaw1.FieldChecks', WHERE WHAT IT READS IS OF BULK AT MOST 1048576: true; the input reads as it did. -/
def fieldChecksUptoRow : OpenClaim := { program := "ythdlhfgeminoiaadoor", sum := "84287d6c4acf639d18e2c0109e1b43e953c319f7fc83d7a79144cc6db45caf77", func := "parterre/parterrelaw1.FieldChecks", spec := "fieldChecks", named := ["parterre/field.primes"], apart := false, laid := [("parterre/field.primes", laid_parterre_field_primes)], narrowed := true }
def FieldChecksUptoSaid : Prop := fieldChecksUptoRow.holds Tryd.pinned (OpenSpec.upto fieldChecksSpec)

/-- 'parterrelaw1.FieldHolds', WHERE WHAT IT READS IS OF BULK AT MOST 1048576: true; the input reads as it did. -/
def fieldHoldsUptoRow : OpenClaim := { program := "ythdlhfgeminoiaadoor", sum := "84287d6c4acf639d18e2c0109e1b43e953c319f7fc83d7a79144cc6db45caf77", func := "parterre/parterrelaw1.FieldHolds", spec := "fieldHolds", named := ["parterre/field.primes"], apart := false, laid := [("parterre/field.primes", laid_parterre_field_primes)], narrowed := true }
def FieldHoldsUptoSaid : Prop := fieldHoldsUptoRow.holds Tryd.pinned (OpenSpec.upto fieldHoldsSpec)

/-- 'parterrelaw1.FieldFermat', WHERE WHAT IT READS IS OF BULK AT MOST 1048576: true; the input reads as it did. -/
def fieldFermatUptoRow : OpenClaim := { program := "ythdlhfgeminoiaadoor", sum := "84287d6c4acf639d18e2c0109e1b43e953c319f7fc83d7a79144cc6db45caf77", func := "parterre/parterrelaw1.FieldFermat", spec := "fieldFermat", named := ["parterre/field.primes"], apart := false, laid := [("parterre/field.primes", laid_parterre_field_primes)], narrowed := true }
def FieldFermatUptoSaid : Prop := fieldFermatUptoRow.holds Tryd.pinned (OpenSpec.upto fieldFermatSpec)

/-- 'parterrelaw1.FieldTraces', WHERE WHAT IT READS IS OF BULK AT MOST 1048576: true; the input reads as it did. -/
def fieldTracesUptoRow : OpenClaim := { program := "ythdlhfgeminoiaadoor", sum := "84287d6c4acf639d18e2c0109e1b43e953c319f7fc83d7a79144cc6db45caf77", func := "parterre/parterrelaw1.FieldTraces", spec := "fieldTraces", named := ["parterre/field.primes"], apart := false, laid := [("parterre/field.primes", laid_parterre_field_primes)], narrowed := true }
def FieldTracesUptoSaid : Prop := fieldTracesUptoRow.holds Tryd.pinned (OpenSpec.upto fieldTracesSpec)

/-- 'parterrelaw1.FieldEuler', WHERE WHAT IT READS IS OF BULK AT MOST 1048576: true; the input reads as it did. -/
def fieldEulerUptoRow : OpenClaim := { program := "ythdlhfgeminoiaadoor", sum := "84287d6c4acf639d18e2c0109e1b43e953c319f7fc83d7a79144cc6db45caf77", func := "parterre/parterrelaw1.FieldEuler", spec := "fieldEuler", named := ["parterre/field.primes"], apart := false, laid := [("parterre/field.primes", laid_parterre_field_primes)], narrowed := true }
def FieldEulerUptoSaid : Prop := fieldEulerUptoRow.holds Tryd.pinned (OpenSpec.upto fieldEulerSpec)

/-- 'parterrelaw1.FieldPowers', WHERE WHAT IT READS IS OF BULK AT MOST 1048576: true; the input reads as it did. -/
def fieldPowersUptoRow : OpenClaim := { program := "ythdlhfgeminoiaadoor", sum := "84287d6c4acf639d18e2c0109e1b43e953c319f7fc83d7a79144cc6db45caf77", func := "parterre/parterrelaw1.FieldPowers", spec := "fieldPowers", named := ["parterre/field.primes"], apart := false, laid := [("parterre/field.primes", laid_parterre_field_primes)], narrowed := true }
def FieldPowersUptoSaid : Prop := fieldPowersUptoRow.holds Tryd.pinned (OpenSpec.upto fieldPowersSpec)

end Rows
end Go.Proofs.YthdlhfgeminoiaaDoor
