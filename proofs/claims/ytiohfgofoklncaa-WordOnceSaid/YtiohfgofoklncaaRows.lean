/-
  No cell of these rows narrows 'for every input' (looked for: loops, veiled, ifaces, maps, wideKeys, modest, calm, conditions, laid).
  DERIVED. THE GIVEN ROWS OF THIS SEAT. 9 by the template 'for every input the law returns true; each argument reads behind the call as it read before'; 0 by the template 'total and deterministic' (their statements: YtiohfgofoklncaaTotals.lean).
  GIVEN WITH THE SEED: the statements are not yours to turn. If you find one false, say at which input.
  Laid BY PROGRAM, IN A SANDBOX (cutbox-rows.mjs): the forced cells as the released guide's own fill.sh prints them over the translation c154ca8aade327e7… (all of the seat's roots in one cut). By AI agents, Wed Nov 11 2026. No macro, syntax, notation, axiom, sorry.
-/
import Derived.Test.YtiohfgofoklncaaChecked
import GoSem.Claim
import GoSem.ClaimJoined
import GoSem.ClaimMapViews
import Derived.JoinedTies
import Derived.KernelRfl
namespace Go.Proofs.Ytiohfgofoklncaa
/- THE CELL 'sum', in the pinned program and in every row, IS THE sha256 OF THE DUMP (.gsa) THAT YtiohfgofoklncaaProg.lean LOADS. Nothing in Lean hashes anything: it is a label: what it is worth is what the hold of that sum in a sandbox is worth. -/
noncomputable def Try.pinned : Pinned := { name := "ytiohfgofoklncaa", sum := "c154ca8aade327e7ca1cfe5bb319f4f9370de0911f35e1436d5fc68583ae3430", checked := Try.checked }
namespace Rows
def none {H : Type} : Left H := { results := [], args := [] }

/-- 'parterrelaw1.Names': WHATEVER THE INPUT: true; the input reads as it did. -/
def namesSpec : ChangeSpec := { name := "names", fn := fun _ => fun
  | [] => { results := [.lit (.bool true)], args := [] }
  | _ => none }
def namesRow : OpenClaim := { program := "ytiohfgofoklncaa", sum := "c154ca8aade327e7ca1cfe5bb319f4f9370de0911f35e1436d5fc68583ae3430", func := "parterre/parterrelaw1.Names", spec := "names", apart := false }
def NamesSaid : Prop := namesRow.holds Try.pinned (OpenSpec.ofChange namesSpec)

/-- ITS FALSE NEIGHBOUR: 'it returns false'. Refute it at one input. -/
def namesWrong : ChangeSpec := { name := "names", fn := fun _ => fun
  | [] => { results := [.lit (.bool false)], args := [] }
  | _ => none }
def NamesWrongFalsely : Prop := namesRow.holds Try.pinned (OpenSpec.ofChange namesWrong)

/-- 'parterrelaw4.WordGrays': WHATEVER THE INPUT: true; the input reads as it did. -/
def wordGraysSpec : ChangeSpec := { name := "wordGrays", fn := fun _ => fun
  | [d1, d2] => { results := [.lit (.bool true)], args := [d1, d2] }
  | _ => none }
def wordGraysRow : OpenClaim := { program := "ytiohfgofoklncaa", sum := "c154ca8aade327e7ca1cfe5bb319f4f9370de0911f35e1436d5fc68583ae3430", func := "parterre/parterrelaw4.WordGrays", spec := "wordGrays", apart := false }
def WordGraysSaid : Prop := wordGraysRow.holds Try.pinned (OpenSpec.ofChange wordGraysSpec)

/-- ITS FALSE NEIGHBOUR: 'it returns false'. Refute it at one input. -/
def wordGraysWrong : ChangeSpec := { name := "wordGrays", fn := fun _ => fun
  | [d1, d2] => { results := [.lit (.bool false)], args := [d1, d2] }
  | _ => none }
def WordGraysWrongFalsely : Prop := wordGraysRow.holds Try.pinned (OpenSpec.ofChange wordGraysWrong)

/-- 'parterrelaw4.WordFactors': WHATEVER THE INPUT: true; the input reads as it did. -/
def wordFactorsSpec : ChangeSpec := { name := "wordFactors", fn := fun _ => fun
  | [d] => { results := [.lit (.bool true)], args := [d] }
  | _ => none }
def wordFactorsRow : OpenClaim := { program := "ytiohfgofoklncaa", sum := "c154ca8aade327e7ca1cfe5bb319f4f9370de0911f35e1436d5fc68583ae3430", func := "parterre/parterrelaw4.WordFactors", spec := "wordFactors", unfollowed := true, recurses := true, apart := false }
def WordFactorsSaid : Prop := wordFactorsRow.holds Try.pinned (OpenSpec.ofChange wordFactorsSpec)

/-- ITS FALSE NEIGHBOUR: 'it returns false'. Refute it at one input. -/
def wordFactorsWrong : ChangeSpec := { name := "wordFactors", fn := fun _ => fun
  | [d] => { results := [.lit (.bool false)], args := [d] }
  | _ => none }
def WordFactorsWrongFalsely : Prop := wordFactorsRow.holds Try.pinned (OpenSpec.ofChange wordFactorsWrong)

/-- 'parterrelaw4.WordPrimes': WHATEVER THE INPUT: true; the input reads as it did. -/
def wordPrimesSpec : ChangeSpec := { name := "wordPrimes", fn := fun _ => fun
  | [d1, d2, d3, d4] => { results := [.lit (.bool true)], args := [d1, d2, d3, d4] }
  | _ => none }
def wordPrimesRow : OpenClaim := { program := "ytiohfgofoklncaa", sum := "c154ca8aade327e7ca1cfe5bb319f4f9370de0911f35e1436d5fc68583ae3430", func := "parterre/parterrelaw4.WordPrimes", spec := "wordPrimes", apart := false }
def WordPrimesSaid : Prop := wordPrimesRow.holds Try.pinned (OpenSpec.ofChange wordPrimesSpec)

/-- ITS FALSE NEIGHBOUR: 'it returns false'. Refute it at one input. -/
def wordPrimesWrong : ChangeSpec := { name := "wordPrimes", fn := fun _ => fun
  | [d1, d2, d3, d4] => { results := [.lit (.bool false)], args := [d1, d2, d3, d4] }
  | _ => none }
def WordPrimesWrongFalsely : Prop := wordPrimesRow.holds Try.pinned (OpenSpec.ofChange wordPrimesWrong)

/-- 'parterrelaw4.WordOnce': WHATEVER THE INPUT: true; the input reads as it did. -/
def wordOnceSpec : ChangeSpec := { name := "wordOnce", fn := fun _ => fun
  | [d1, d2] => { results := [.lit (.bool true)], args := [d1, d2] }
  | _ => none }
def wordOnceRow : OpenClaim := { program := "ytiohfgofoklncaa", sum := "c154ca8aade327e7ca1cfe5bb319f4f9370de0911f35e1436d5fc68583ae3430", func := "parterre/parterrelaw4.WordOnce", spec := "wordOnce", apart := false }
def WordOnceSaid : Prop := wordOnceRow.holds Try.pinned (OpenSpec.ofChange wordOnceSpec)

/-- ITS FALSE NEIGHBOUR: 'it returns false'. Refute it at one input. -/
def wordOnceWrong : ChangeSpec := { name := "wordOnce", fn := fun _ => fun
  | [d1, d2] => { results := [.lit (.bool false)], args := [d1, d2] }
  | _ => none }
def WordOnceWrongFalsely : Prop := wordOnceRow.holds Try.pinned (OpenSpec.ofChange wordOnceWrong)

/-- 'parterrelaw4.WordNext': WHATEVER THE INPUT: true; the input reads as it did. -/
def wordNextSpec : ChangeSpec := { name := "wordNext", fn := fun _ => fun
  | [d1, d2] => { results := [.lit (.bool true)], args := [d1, d2] }
  | _ => none }
def wordNextRow : OpenClaim := { program := "ytiohfgofoklncaa", sum := "c154ca8aade327e7ca1cfe5bb319f4f9370de0911f35e1436d5fc68583ae3430", func := "parterre/parterrelaw4.WordNext", spec := "wordNext", unfollowed := true, recurses := true, apart := false }
def WordNextSaid : Prop := wordNextRow.holds Try.pinned (OpenSpec.ofChange wordNextSpec)

/-- ITS FALSE NEIGHBOUR: 'it returns false'. Refute it at one input. -/
def wordNextWrong : ChangeSpec := { name := "wordNext", fn := fun _ => fun
  | [d1, d2] => { results := [.lit (.bool false)], args := [d1, d2] }
  | _ => none }
def WordNextWrongFalsely : Prop := wordNextRow.holds Try.pinned (OpenSpec.ofChange wordNextWrong)

/-- 'parterrelaw4.WordSteps': WHATEVER THE INPUT: true; the input reads as it did. -/
def wordStepsSpec : ChangeSpec := { name := "wordSteps", fn := fun _ => fun
  | [d] => { results := [.lit (.bool true)], args := [d] }
  | _ => none }
def wordStepsRow : OpenClaim := { program := "ytiohfgofoklncaa", sum := "c154ca8aade327e7ca1cfe5bb319f4f9370de0911f35e1436d5fc68583ae3430", func := "parterre/parterrelaw4.WordSteps", spec := "wordSteps", apart := false }
def WordStepsSaid : Prop := wordStepsRow.holds Try.pinned (OpenSpec.ofChange wordStepsSpec)

/-- ITS FALSE NEIGHBOUR: 'it returns false'. Refute it at one input. -/
def wordStepsWrong : ChangeSpec := { name := "wordSteps", fn := fun _ => fun
  | [d] => { results := [.lit (.bool false)], args := [d] }
  | _ => none }
def WordStepsWrongFalsely : Prop := wordStepsRow.holds Try.pinned (OpenSpec.ofChange wordStepsWrong)

/-- 'parterrelaw4.WordChen': WHATEVER THE INPUT: true; the input reads as it did. -/
def wordChenSpec : ChangeSpec := { name := "wordChen", fn := fun _ => fun
  | [d] => { results := [.lit (.bool true)], args := [d] }
  | _ => none }
def wordChenRow : OpenClaim := { program := "ytiohfgofoklncaa", sum := "c154ca8aade327e7ca1cfe5bb319f4f9370de0911f35e1436d5fc68583ae3430", func := "parterre/parterrelaw4.WordChen", spec := "wordChen", unfollowed := true, recurses := true, apart := false }
def WordChenSaid : Prop := wordChenRow.holds Try.pinned (OpenSpec.ofChange wordChenSpec)

/-- ITS FALSE NEIGHBOUR: 'it returns false'. Refute it at one input. -/
def wordChenWrong : ChangeSpec := { name := "wordChen", fn := fun _ => fun
  | [d] => { results := [.lit (.bool false)], args := [d] }
  | _ => none }
def WordChenWrongFalsely : Prop := wordChenRow.holds Try.pinned (OpenSpec.ofChange wordChenWrong)

/-- 'parterrelaw4.WordGoes': WHATEVER THE INPUT: true; the input reads as it did. -/
def wordGoesSpec : ChangeSpec := { name := "wordGoes", fn := fun _ => fun
  | [d1, d2] => { results := [.lit (.bool true)], args := [d1, d2] }
  | _ => none }
def wordGoesRow : OpenClaim := { program := "ytiohfgofoklncaa", sum := "c154ca8aade327e7ca1cfe5bb319f4f9370de0911f35e1436d5fc68583ae3430", func := "parterre/parterrelaw4.WordGoes", spec := "wordGoes", unfollowed := true, recurses := true, apart := false }
def WordGoesSaid : Prop := wordGoesRow.holds Try.pinned (OpenSpec.ofChange wordGoesSpec)

/-- ITS FALSE NEIGHBOUR: 'it returns false'. Refute it at one input. -/
def wordGoesWrong : ChangeSpec := { name := "wordGoes", fn := fun _ => fun
  | [d1, d2] => { results := [.lit (.bool false)], args := [d1, d2] }
  | _ => none }
def WordGoesWrongFalsely : Prop := wordGoesRow.holds Try.pinned (OpenSpec.ofChange wordGoesWrong)

/- THE SECOND FORM. 'bulk': how many values and letters a reading holds, each counted each time it is reached (what is shared counts as often as it is met; a slice's spare places count too). A statement '..UptoSaid' is the law's where the arguments, and the package variables that the reading takes, are together of bulk at most 1048576: NARROWER than '..Said'. Prove '..Said' where nothing that the law and all that it calls make is longer than what came in: it says more and counts as full. Else prove '..UptoSaid'. A law counts once. -/
mutual
def uptoBulk {H : Type} : DataW H → Nat
  | .lit (.string bytes) => bytes.length + 1
  | .lit _ => 1
  | .nil => 1
  | .ptr d => uptoBulk d + 1
  | .slice elems spare => uptoBulkAll elems + uptoBulkAll spare + 1
  | .agg parts => uptoBulkAll parts + 1
  | .iface _ d => uptoBulk d + 1
  | .map entries => uptoBulkEntries entries + 1
  | .held _ => 1
def uptoBulkAll {H : Type} : List (DataW H) → Nat
  | [] => 0
  | d :: r => uptoBulk d + uptoBulkAll r
def uptoBulkEntries {H : Type} : List (Lit × DataW H) → Nat
  | [] => 0
  | x :: r => uptoBulkEntry x + uptoBulkEntries r
def uptoBulkEntry {H : Type} : Lit × DataW H → Nat
  | (.string bytes, d) => bytes.length + uptoBulk d + 1
  | (_, d) => uptoBulk d + 1
 end
def uptoSmall : (H : Type) → List (DataW H) → Bool := fun _ ds => decide (uptoBulkAll ds ≤ 1048576)
def OpenSpec.upto (s : _root_.Go.ChangeSpec) : _root_.Go.OpenSpec := { _root_.Go.OpenSpec.ofChange s with cond := some uptoSmall }

/-- 'parterrelaw1.Names', WHERE WHAT IT READS IS OF BULK AT MOST 1048576: true; the input reads as it did. -/
def namesUptoRow : OpenClaim := { program := "ytiohfgofoklncaa", sum := "c154ca8aade327e7ca1cfe5bb319f4f9370de0911f35e1436d5fc68583ae3430", func := "parterre/parterrelaw1.Names", spec := "names", apart := false, narrowed := true }
def NamesUptoSaid : Prop := namesUptoRow.holds Try.pinned (OpenSpec.upto namesSpec)

/-- 'parterrelaw4.WordGrays', WHERE WHAT IT READS IS OF BULK AT MOST 1048576: true; the input reads as it did. -/
def wordGraysUptoRow : OpenClaim := { program := "ytiohfgofoklncaa", sum := "c154ca8aade327e7ca1cfe5bb319f4f9370de0911f35e1436d5fc68583ae3430", func := "parterre/parterrelaw4.WordGrays", spec := "wordGrays", apart := false, narrowed := true }
def WordGraysUptoSaid : Prop := wordGraysUptoRow.holds Try.pinned (OpenSpec.upto wordGraysSpec)

/-- 'parterrelaw4.WordFactors', WHERE WHAT IT READS IS OF BULK AT MOST 1048576: true; the input reads as it did. -/
def wordFactorsUptoRow : OpenClaim := { program := "ytiohfgofoklncaa", sum := "c154ca8aade327e7ca1cfe5bb319f4f9370de0911f35e1436d5fc68583ae3430", func := "parterre/parterrelaw4.WordFactors", spec := "wordFactors", unfollowed := true, recurses := true, apart := false, narrowed := true }
def WordFactorsUptoSaid : Prop := wordFactorsUptoRow.holds Try.pinned (OpenSpec.upto wordFactorsSpec)

/-- 'parterrelaw4.WordPrimes', WHERE WHAT IT READS IS OF BULK AT MOST 1048576: true; the input reads as it did. -/
def wordPrimesUptoRow : OpenClaim := { program := "ytiohfgofoklncaa", sum := "c154ca8aade327e7ca1cfe5bb319f4f9370de0911f35e1436d5fc68583ae3430", func := "parterre/parterrelaw4.WordPrimes", spec := "wordPrimes", apart := false, narrowed := true }
def WordPrimesUptoSaid : Prop := wordPrimesUptoRow.holds Try.pinned (OpenSpec.upto wordPrimesSpec)

/-- 'parterrelaw4.WordOnce', WHERE WHAT IT READS IS OF BULK AT MOST 1048576: true; the input reads as it did. -/
def wordOnceUptoRow : OpenClaim := { program := "ytiohfgofoklncaa", sum := "c154ca8aade327e7ca1cfe5bb319f4f9370de0911f35e1436d5fc68583ae3430", func := "parterre/parterrelaw4.WordOnce", spec := "wordOnce", apart := false, narrowed := true }
def WordOnceUptoSaid : Prop := wordOnceUptoRow.holds Try.pinned (OpenSpec.upto wordOnceSpec)

/-- 'parterrelaw4.WordNext', WHERE WHAT IT READS IS OF BULK AT MOST 1048576: true; the input reads as it did. -/
def wordNextUptoRow : OpenClaim := { program := "ytiohfgofoklncaa", sum := "c154ca8aade327e7ca1cfe5bb319f4f9370de0911f35e1436d5fc68583ae3430", func := "parterre/parterrelaw4.WordNext", spec := "wordNext", unfollowed := true, recurses := true, apart := false, narrowed := true }
def WordNextUptoSaid : Prop := wordNextUptoRow.holds Try.pinned (OpenSpec.upto wordNextSpec)

/-- 'parterrelaw4.WordSteps', WHERE WHAT IT READS IS OF BULK AT MOST 1048576: true; the input reads as it did. -/
def wordStepsUptoRow : OpenClaim := { program := "ytiohfgofoklncaa", sum := "c154ca8aade327e7ca1cfe5bb319f4f9370de0911f35e1436d5fc68583ae3430", func := "parterre/parterrelaw4.WordSteps", spec := "wordSteps", apart := false, narrowed := true }
def WordStepsUptoSaid : Prop := wordStepsUptoRow.holds Try.pinned (OpenSpec.upto wordStepsSpec)

/-- 'parterrelaw4.WordChen', WHERE WHAT IT READS IS OF BULK AT MOST 1048576: true; the input reads as it did. -/
def wordChenUptoRow : OpenClaim := { program := "ytiohfgofoklncaa", sum := "c154ca8aade327e7ca1cfe5bb319f4f9370de0911f35e1436d5fc68583ae3430", func := "parterre/parterrelaw4.WordChen", spec := "wordChen", unfollowed := true, recurses := true, apart := false, narrowed := true }
def WordChenUptoSaid : Prop := wordChenUptoRow.holds Try.pinned (OpenSpec.upto wordChenSpec)

/-- 'parterrelaw4.WordGoes', WHERE WHAT IT READS IS OF BULK AT MOST 1048576: true; the input reads as it did. -/
def wordGoesUptoRow : OpenClaim := { program := "ytiohfgofoklncaa", sum := "c154ca8aade327e7ca1cfe5bb319f4f9370de0911f35e1436d5fc68583ae3430", func := "parterre/parterrelaw4.WordGoes", spec := "wordGoes", unfollowed := true, recurses := true, apart := false, narrowed := true }
def WordGoesUptoSaid : Prop := wordGoesUptoRow.holds Try.pinned (OpenSpec.upto wordGoesSpec)

end Rows
end Go.Proofs.Ytiohfgofoklncaa
