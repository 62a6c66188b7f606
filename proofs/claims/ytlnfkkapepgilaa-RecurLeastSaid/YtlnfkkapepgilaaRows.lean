/-
  No cell of these rows narrows 'for every input' (looked for: loops, veiled, ifaces, maps, wideKeys, modest, calm, conditions, laid).
  DERIVED. THE GIVEN ROWS OF THIS SEAT. 9 by the template 'for every input the law returns true; each argument reads behind the call as it read before'; 0 by the template 'total and deterministic' (their statements: YtlnfkkapepgilaaTotals.lean).
  GIVEN WITH THE SEED: the statements are not yours to turn. If you find one false, say at which input.
  Laid BY PROGRAM, IN A SANDBOX (cutbox-rows.mjs): the forced cells as the released guide's own fill.sh prints them over the translation d959bf095f5fa2cc… (all of the seat's roots in one cut). By AI agents, Wed Nov 11 2026. No macro, syntax, notation, axiom, sorry.
-/
import Derived.Test.YtlnfkkapepgilaaChecked
import GoSem.Claim
import GoSem.ClaimJoined
import GoSem.ClaimMapViews
import Derived.JoinedTies
import Derived.KernelRfl
namespace Go.Proofs.Ytlnfkkapepgilaa
/- THE CELL 'sum', in the pinned program and in every row, IS THE sha256 OF THE DUMP (.gsa) THAT YtlnfkkapepgilaaProg.lean LOADS. Nothing in Lean hashes anything: it is a label: what it is worth is what the hold of that sum in a sandbox is worth. -/
noncomputable def Try.pinned : Pinned := { name := "ytlnfkkapepgilaa", sum := "d959bf095f5fa2cca10b86d6ede8d4314f882a6381cfede118ee22ce4f921231", checked := Try.checked }
namespace Rows
def none {H : Type} : Left H := { results := [], args := [] }

/-- 'parterrelaw1.CountPrime': WHATEVER THE INPUT: true; the input reads as it did. -/
def countPrimeSpec : ChangeSpec := { name := "countPrime", fn := fun _ => fun
  | [d1, d2] => { results := [.lit (.bool true)], args := [d1, d2] }
  | _ => none }
def countPrimeRow : OpenClaim := { program := "ytlnfkkapepgilaa", sum := "d959bf095f5fa2cca10b86d6ede8d4314f882a6381cfede118ee22ce4f921231", func := "parterre/parterrelaw1.CountPrime", spec := "countPrime", apart := false }
def CountPrimeSaid : Prop := countPrimeRow.holds Try.pinned (OpenSpec.ofChange countPrimeSpec)

/-- ITS FALSE NEIGHBOUR: 'it returns false'. Refute it at one input. -/
def countPrimeWrong : ChangeSpec := { name := "countPrime", fn := fun _ => fun
  | [d1, d2] => { results := [.lit (.bool false)], args := [d1, d2] }
  | _ => none }
def CountPrimeWrongFalsely : Prop := countPrimeRow.holds Try.pinned (OpenSpec.ofChange countPrimeWrong)

/-- 'parterrelaw1.CountRings': WHATEVER THE INPUT: true; the input reads as it did. -/
def countRingsSpec : ChangeSpec := { name := "countRings", fn := fun _ => fun
  | [d1, d2] => { results := [.lit (.bool true)], args := [d1, d2] }
  | _ => none }
def countRingsRow : OpenClaim := { program := "ytlnfkkapepgilaa", sum := "d959bf095f5fa2cca10b86d6ede8d4314f882a6381cfede118ee22ce4f921231", func := "parterre/parterrelaw1.CountRings", spec := "countRings", apart := false }
def CountRingsSaid : Prop := countRingsRow.holds Try.pinned (OpenSpec.ofChange countRingsSpec)

/-- ITS FALSE NEIGHBOUR: 'it returns false'. Refute it at one input. -/
def countRingsWrong : ChangeSpec := { name := "countRings", fn := fun _ => fun
  | [d1, d2] => { results := [.lit (.bool false)], args := [d1, d2] }
  | _ => none }
def CountRingsWrongFalsely : Prop := countRingsRow.holds Try.pinned (OpenSpec.ofChange countRingsWrong)

/-- 'parterrelaw1.RecurLeast': WHATEVER THE INPUT: true; the input reads as it did. -/
def recurLeastSpec : ChangeSpec := { name := "recurLeast", fn := fun _ => fun
  | [d1, d2] => { results := [.lit (.bool true)], args := [d1, d2] }
  | _ => none }
def recurLeastRow : OpenClaim := { program := "ytlnfkkapepgilaa", sum := "d959bf095f5fa2cca10b86d6ede8d4314f882a6381cfede118ee22ce4f921231", func := "parterre/parterrelaw1.RecurLeast", spec := "recurLeast", unfollowed := true, recurses := true, apart := false }
def RecurLeastSaid : Prop := recurLeastRow.holds Try.pinned (OpenSpec.ofChange recurLeastSpec)

/-- ITS FALSE NEIGHBOUR: 'it returns false'. Refute it at one input. -/
def recurLeastWrong : ChangeSpec := { name := "recurLeast", fn := fun _ => fun
  | [d1, d2] => { results := [.lit (.bool false)], args := [d1, d2] }
  | _ => none }
def RecurLeastWrongFalsely : Prop := recurLeastRow.holds Try.pinned (OpenSpec.ofChange recurLeastWrong)

/-- 'parterrelaw1.RecurFull': WHATEVER THE INPUT: true; the input reads as it did. -/
def recurFullSpec : ChangeSpec := { name := "recurFull", fn := fun _ => fun
  | [d1, d2] => { results := [.lit (.bool true)], args := [d1, d2] }
  | _ => none }
def recurFullRow : OpenClaim := { program := "ytlnfkkapepgilaa", sum := "d959bf095f5fa2cca10b86d6ede8d4314f882a6381cfede118ee22ce4f921231", func := "parterre/parterrelaw1.RecurFull", spec := "recurFull", unfollowed := true, recurses := true, apart := false }
def RecurFullSaid : Prop := recurFullRow.holds Try.pinned (OpenSpec.ofChange recurFullSpec)

/-- ITS FALSE NEIGHBOUR: 'it returns false'. Refute it at one input. -/
def recurFullWrong : ChangeSpec := { name := "recurFull", fn := fun _ => fun
  | [d1, d2] => { results := [.lit (.bool false)], args := [d1, d2] }
  | _ => none }
def RecurFullWrongFalsely : Prop := recurFullRow.holds Try.pinned (OpenSpec.ofChange recurFullWrong)

/-- 'parterrelaw1.RecurRuns': WHATEVER THE INPUT: true; the input reads as it did. -/
def recurRunsSpec : ChangeSpec := { name := "recurRuns", fn := fun _ => fun
  | [d1, d2, d3, d4] => { results := [.lit (.bool true)], args := [d1, d2, d3, d4] }
  | _ => none }
def recurRunsRow : OpenClaim := { program := "ytlnfkkapepgilaa", sum := "d959bf095f5fa2cca10b86d6ede8d4314f882a6381cfede118ee22ce4f921231", func := "parterre/parterrelaw1.RecurRuns", spec := "recurRuns", unfollowed := true, recurses := true, apart := false }
def RecurRunsSaid : Prop := recurRunsRow.holds Try.pinned (OpenSpec.ofChange recurRunsSpec)

/-- ITS FALSE NEIGHBOUR: 'it returns false'. Refute it at one input. -/
def recurRunsWrong : ChangeSpec := { name := "recurRuns", fn := fun _ => fun
  | [d1, d2, d3, d4] => { results := [.lit (.bool false)], args := [d1, d2, d3, d4] }
  | _ => none }
def RecurRunsWrongFalsely : Prop := recurRunsRow.holds Try.pinned (OpenSpec.ofChange recurRunsWrong)

/-- 'parterrelaw1.RecurAdds': WHATEVER THE INPUT: true; the input reads as it did. -/
def recurAddsSpec : ChangeSpec := { name := "recurAdds", fn := fun _ => fun
  | [d1, d2, d3, d4, d5] => { results := [.lit (.bool true)], args := [d1, d2, d3, d4, d5] }
  | _ => none }
def recurAddsRow : OpenClaim := { program := "ytlnfkkapepgilaa", sum := "d959bf095f5fa2cca10b86d6ede8d4314f882a6381cfede118ee22ce4f921231", func := "parterre/parterrelaw1.RecurAdds", spec := "recurAdds", unfollowed := true, recurses := true, apart := false }
def RecurAddsSaid : Prop := recurAddsRow.holds Try.pinned (OpenSpec.ofChange recurAddsSpec)

/-- ITS FALSE NEIGHBOUR: 'it returns false'. Refute it at one input. -/
def recurAddsWrong : ChangeSpec := { name := "recurAdds", fn := fun _ => fun
  | [d1, d2, d3, d4, d5] => { results := [.lit (.bool false)], args := [d1, d2, d3, d4, d5] }
  | _ => none }
def RecurAddsWrongFalsely : Prop := recurAddsRow.holds Try.pinned (OpenSpec.ofChange recurAddsWrong)

/-- 'parterrelaw1.RecurPeriods': WHATEVER THE INPUT: true; the input reads as it did. -/
def recurPeriodsSpec : ChangeSpec := { name := "recurPeriods", fn := fun _ => fun
  | [d1, d2, d3] => { results := [.lit (.bool true)], args := [d1, d2, d3] }
  | _ => none }
def recurPeriodsRow : OpenClaim := { program := "ytlnfkkapepgilaa", sum := "d959bf095f5fa2cca10b86d6ede8d4314f882a6381cfede118ee22ce4f921231", func := "parterre/parterrelaw1.RecurPeriods", spec := "recurPeriods", unfollowed := true, recurses := true, apart := false }
def RecurPeriodsSaid : Prop := recurPeriodsRow.holds Try.pinned (OpenSpec.ofChange recurPeriodsSpec)

/-- ITS FALSE NEIGHBOUR: 'it returns false'. Refute it at one input. -/
def recurPeriodsWrong : ChangeSpec := { name := "recurPeriods", fn := fun _ => fun
  | [d1, d2, d3] => { results := [.lit (.bool false)], args := [d1, d2, d3] }
  | _ => none }
def RecurPeriodsWrongFalsely : Prop := recurPeriodsRow.holds Try.pinned (OpenSpec.ofChange recurPeriodsWrong)

/-- 'parterrelaw1.RecurFound': WHATEVER THE INPUT: true; the input reads as it did. -/
def recurFoundSpec : ChangeSpec := { name := "recurFound", fn := fun _ => fun
  | [d1, d2, d3, d4] => { results := [.lit (.bool true)], args := [d1, d2, d3, d4] }
  | _ => none }
def recurFoundRow : OpenClaim := { program := "ytlnfkkapepgilaa", sum := "d959bf095f5fa2cca10b86d6ede8d4314f882a6381cfede118ee22ce4f921231", func := "parterre/parterrelaw1.RecurFound", spec := "recurFound", unfollowed := true, recurses := true, apart := false }
def RecurFoundSaid : Prop := recurFoundRow.holds Try.pinned (OpenSpec.ofChange recurFoundSpec)

/-- ITS FALSE NEIGHBOUR: 'it returns false'. Refute it at one input. -/
def recurFoundWrong : ChangeSpec := { name := "recurFound", fn := fun _ => fun
  | [d1, d2, d3, d4] => { results := [.lit (.bool false)], args := [d1, d2, d3, d4] }
  | _ => none }
def RecurFoundWrongFalsely : Prop := recurFoundRow.holds Try.pinned (OpenSpec.ofChange recurFoundWrong)

/-- 'parterrelaw1.RecurOnce': WHATEVER THE INPUT: true; the input reads as it did. -/
def recurOnceSpec : ChangeSpec := { name := "recurOnce", fn := fun _ => fun
  | [d1, d2] => { results := [.lit (.bool true)], args := [d1, d2] }
  | _ => none }
def recurOnceRow : OpenClaim := { program := "ytlnfkkapepgilaa", sum := "d959bf095f5fa2cca10b86d6ede8d4314f882a6381cfede118ee22ce4f921231", func := "parterre/parterrelaw1.RecurOnce", spec := "recurOnce", unfollowed := true, recurses := true, apart := false }
def RecurOnceSaid : Prop := recurOnceRow.holds Try.pinned (OpenSpec.ofChange recurOnceSpec)

/-- ITS FALSE NEIGHBOUR: 'it returns false'. Refute it at one input. -/
def recurOnceWrong : ChangeSpec := { name := "recurOnce", fn := fun _ => fun
  | [d1, d2] => { results := [.lit (.bool false)], args := [d1, d2] }
  | _ => none }
def RecurOnceWrongFalsely : Prop := recurOnceRow.holds Try.pinned (OpenSpec.ofChange recurOnceWrong)

/- THE SECOND FORM. 'bulk': how many values and letters a reading holds, each counted each time it is reached (what is shared counts as often as it is met; a slice's spare places count too). A statement '..UptoSaid' is the law's where the arguments, and the package variables that the reading takes, are together of bulk at most 1048576: NARROWER than '..Said'. Prove '..Said' where nothing that the law and all that it calls make is longer than what came in: it says more and counts as full. Else prove '..UptoSaid'. A law counts once. -/
mutual
def uptoBulk {H : Type} : DataW H → Nat
  | .lit (.string bytes) => bytes.length + 1
  | .lit _ => 1
  | .nil => 1
  | .ptr d => uptoBulk d + 1
  | .slice elems spare => uptoBulkAll elems + uptoBulkAll spare + 1
  | .agg parts => uptoBulkAll parts + 1
  | .iface _ d => uptoBulk d + 1
  | .map entries => uptoBulkEntries entries + 1
  | .held _ => 1
def uptoBulkAll {H : Type} : List (DataW H) → Nat
  | [] => 0
  | d :: r => uptoBulk d + uptoBulkAll r
def uptoBulkEntries {H : Type} : List (Lit × DataW H) → Nat
  | [] => 0
  | x :: r => uptoBulkEntry x + uptoBulkEntries r
def uptoBulkEntry {H : Type} : Lit × DataW H → Nat
  | (.string bytes, d) => bytes.length + uptoBulk d + 1
  | (_, d) => uptoBulk d + 1
 end
def uptoSmall : (H : Type) → List (DataW H) → Bool := fun _ ds => decide (uptoBulkAll ds ≤ 1048576)
def OpenSpec.upto (s : _root_.Go.ChangeSpec) : _root_.Go.OpenSpec := { _root_.Go.OpenSpec.ofChange s with cond := some uptoSmall }

/-- 'parterrelaw1.CountPrime', WHERE WHAT IT READS IS OF BULK AT MOST 1048576: true; the input reads as it did. -/
def countPrimeUptoRow : OpenClaim := { program := "ytlnfkkapepgilaa", sum := "d959bf095f5fa2cca10b86d6ede8d4314f882a6381cfede118ee22ce4f921231", func := "parterre/parterrelaw1.CountPrime", spec := "countPrime", apart := false, narrowed := true }
def CountPrimeUptoSaid : Prop := countPrimeUptoRow.holds Try.pinned (OpenSpec.upto countPrimeSpec)

/-- 'parterrelaw1.CountRings', WHERE WHAT IT READS IS OF BULK AT MOST 1048576: true; the input reads as it did. -/
def countRingsUptoRow : OpenClaim := { program := "ytlnfkkapepgilaa", sum := "d959bf095f5fa2cca10b86d6ede8d4314f882a6381cfede118ee22ce4f921231", func := "parterre/parterrelaw1.CountRings", spec := "countRings", apart := false, narrowed := true }
def CountRingsUptoSaid : Prop := countRingsUptoRow.holds Try.pinned (OpenSpec.upto countRingsSpec)

/-- 'parterrelaw1.RecurLeast', WHERE WHAT IT READS IS OF BULK AT MOST 1048576: true; the input reads as it did. -/
def recurLeastUptoRow : OpenClaim := { program := "ytlnfkkapepgilaa", sum := "d959bf095f5fa2cca10b86d6ede8d4314f882a6381cfede118ee22ce4f921231", func := "parterre/parterrelaw1.RecurLeast", spec := "recurLeast", unfollowed := true, recurses := true, apart := false, narrowed := true }
def RecurLeastUptoSaid : Prop := recurLeastUptoRow.holds Try.pinned (OpenSpec.upto recurLeastSpec)

/-- 'parterrelaw1.RecurFull', WHERE WHAT IT READS IS OF BULK AT MOST 1048576: true; the input reads as it did. -/
def recurFullUptoRow : OpenClaim := { program := "ytlnfkkapepgilaa", sum := "d959bf095f5fa2cca10b86d6ede8d4314f882a6381cfede118ee22ce4f921231", func := "parterre/parterrelaw1.RecurFull", spec := "recurFull", unfollowed := true, recurses := true, apart := false, narrowed := true }
def RecurFullUptoSaid : Prop := recurFullUptoRow.holds Try.pinned (OpenSpec.upto recurFullSpec)

/-- 'parterrelaw1.RecurRuns', WHERE WHAT IT READS IS OF BULK AT MOST 1048576: true; the input reads as it did. -/
def recurRunsUptoRow : OpenClaim := { program := "ytlnfkkapepgilaa", sum := "d959bf095f5fa2cca10b86d6ede8d4314f882a6381cfede118ee22ce4f921231", func := "parterre/parterrelaw1.RecurRuns", spec := "recurRuns", unfollowed := true, recurses := true, apart := false, narrowed := true }
def RecurRunsUptoSaid : Prop := recurRunsUptoRow.holds Try.pinned (OpenSpec.upto recurRunsSpec)

/-- 'parterrelaw1.RecurAdds', WHERE WHAT IT READS IS OF BULK AT MOST 1048576: true; the input reads as it did. -/
def recurAddsUptoRow : OpenClaim := { program := "ytlnfkkapepgilaa", sum := "d959bf095f5fa2cca10b86d6ede8d4314f882a6381cfede118ee22ce4f921231", func := "parterre/parterrelaw1.RecurAdds", spec := "recurAdds", unfollowed := true, recurses := true, apart := false, narrowed := true }
def RecurAddsUptoSaid : Prop := recurAddsUptoRow.holds Try.pinned (OpenSpec.upto recurAddsSpec)

/-- 'parterrelaw1.RecurPeriods', WHERE WHAT IT READS IS OF BULK AT MOST 1048576: true; the input reads as it did. -/
def recurPeriodsUptoRow : OpenClaim := { program := "ytlnfkkapepgilaa", sum := "d959bf095f5fa2cca10b86d6ede8d4314f882a6381cfede118ee22ce4f921231", func := "parterre/parterrelaw1.RecurPeriods", spec := "recurPeriods", unfollowed := true, recurses := true, apart := false, narrowed := true }
def RecurPeriodsUptoSaid : Prop := recurPeriodsUptoRow.holds Try.pinned (OpenSpec.upto recurPeriodsSpec)

/-- 'parterrelaw1.RecurFound', WHERE WHAT IT READS IS OF BULK AT MOST 1048576: true; the input reads as it did. -/
def recurFoundUptoRow : OpenClaim := { program := "ytlnfkkapepgilaa", sum := "d959bf095f5fa2cca10b86d6ede8d4314f882a6381cfede118ee22ce4f921231", func := "parterre/parterrelaw1.RecurFound", spec := "recurFound", unfollowed := true, recurses := true, apart := false, narrowed := true }
def RecurFoundUptoSaid : Prop := recurFoundUptoRow.holds Try.pinned (OpenSpec.upto recurFoundSpec)

/-- 'parterrelaw1.RecurOnce', WHERE WHAT IT READS IS OF BULK AT MOST 1048576: true; the input reads as it did. -/
def recurOnceUptoRow : OpenClaim := { program := "ytlnfkkapepgilaa", sum := "d959bf095f5fa2cca10b86d6ede8d4314f882a6381cfede118ee22ce4f921231", func := "parterre/parterrelaw1.RecurOnce", spec := "recurOnce", unfollowed := true, recurses := true, apart := false, narrowed := true }
def RecurOnceUptoSaid : Prop := recurOnceUptoRow.holds Try.pinned (OpenSpec.upto recurOnceSpec)

end Rows
end Go.Proofs.Ytlnfkkapepgilaa
