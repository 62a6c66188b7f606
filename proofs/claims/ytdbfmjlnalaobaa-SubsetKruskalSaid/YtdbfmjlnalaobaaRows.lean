/-
  No cell of these rows narrows 'for every input' (looked for: loops, veiled, ifaces, maps, wideKeys, modest, calm, conditions, laid).
  DERIVED. THE GIVEN ROWS OF THIS SEAT. 8 by the template 'for every input the law returns true; each argument reads behind the call as it read before'; 0 by the template 'total and deterministic' (their statements: YtdbfmjlnalaobaaTotals.lean).
  GIVEN WITH THE SEED: the statements are not yours to turn. If you find one false, say at which input.
  Laid BY PROGRAM, IN A SANDBOX (cutbox-rows.mjs): the forced cells as the released guide's own fill.sh prints them over the translation 430eac366085b481… (all of the seat's roots in one cut). By AI agents, Wed Nov 11 2026. No macro, syntax, notation, axiom, sorry.
-/
import Derived.Test.YtdbfmjlnalaobaaChecked
import GoSem.Claim
import GoSem.ClaimJoined
import GoSem.ClaimMapViews
import Derived.JoinedTies
import Derived.KernelRfl
namespace Go.Proofs.Ytdbfmjlnalaobaa
/- THE CELL 'sum', in the pinned program and in every row, IS THE sha256 OF THE DUMP (.gsa) THAT YtdbfmjlnalaobaaProg.lean LOADS. Nothing in Lean hashes anything: it is a label: what it is worth is what the hold of that sum in a sandbox is worth. -/
noncomputable def Try.pinned : Pinned := { name := "ytdbfmjlnalaobaa", sum := "430eac366085b481d5bae5585a8c026c81b121e95a0e060b1f43199e361fcace", checked := Try.checked }
namespace Rows
def none {H : Type} : Left H := { results := [], args := [] }

/-- 'parterrelaw4.SubsetAsks': WHATEVER THE INPUT: true; the input reads as it did. -/
def subsetAsksSpec : ChangeSpec := { name := "subsetAsks", fn := fun _ => fun
  | [d1, d2] => { results := [.lit (.bool true)], args := [d1, d2] }
  | _ => none }
def subsetAsksRow : OpenClaim := { program := "ytdbfmjlnalaobaa", sum := "430eac366085b481d5bae5585a8c026c81b121e95a0e060b1f43199e361fcace", func := "parterre/parterrelaw4.SubsetAsks", spec := "subsetAsks", unfollowed := true, recurses := true, apart := false }
def SubsetAsksSaid : Prop := subsetAsksRow.holds Try.pinned (OpenSpec.ofChange subsetAsksSpec)

/-- ITS FALSE NEIGHBOUR: 'it returns false'. Refute it at one input. -/
def subsetAsksWrong : ChangeSpec := { name := "subsetAsks", fn := fun _ => fun
  | [d1, d2] => { results := [.lit (.bool false)], args := [d1, d2] }
  | _ => none }
def SubsetAsksWrongFalsely : Prop := subsetAsksRow.holds Try.pinned (OpenSpec.ofChange subsetAsksWrong)

/-- 'parterrelaw4.SubsetRanks': WHATEVER THE INPUT: true; the input reads as it did. -/
def subsetRanksSpec : ChangeSpec := { name := "subsetRanks", fn := fun _ => fun
  | [d1, d2, d3] => { results := [.lit (.bool true)], args := [d1, d2, d3] }
  | _ => none }
def subsetRanksRow : OpenClaim := { program := "ytdbfmjlnalaobaa", sum := "430eac366085b481d5bae5585a8c026c81b121e95a0e060b1f43199e361fcace", func := "parterre/parterrelaw4.SubsetRanks", spec := "subsetRanks", unfollowed := true, recurses := true, named := ["math/bits.divideError", "math/bits.overflowError"], apart := false }
def SubsetRanksSaid : Prop := subsetRanksRow.holds Try.pinned (OpenSpec.ofChange subsetRanksSpec)

/-- ITS FALSE NEIGHBOUR: 'it returns false'. Refute it at one input. -/
def subsetRanksWrong : ChangeSpec := { name := "subsetRanks", fn := fun _ => fun
  | [d1, d2, d3] => { results := [.lit (.bool false)], args := [d1, d2, d3] }
  | _ => none }
def SubsetRanksWrongFalsely : Prop := subsetRanksRow.holds Try.pinned (OpenSpec.ofChange subsetRanksWrong)

/-- 'parterrelaw4.SubsetMakes': WHATEVER THE INPUT: true; the input reads as it did. -/
def subsetMakesSpec : ChangeSpec := { name := "subsetMakes", fn := fun _ => fun
  | [d1, d2, d3] => { results := [.lit (.bool true)], args := [d1, d2, d3] }
  | _ => none }
def subsetMakesRow : OpenClaim := { program := "ytdbfmjlnalaobaa", sum := "430eac366085b481d5bae5585a8c026c81b121e95a0e060b1f43199e361fcace", func := "parterre/parterrelaw4.SubsetMakes", spec := "subsetMakes", unfollowed := true, recurses := true, named := ["math/bits.divideError", "math/bits.overflowError"], apart := false }
def SubsetMakesSaid : Prop := subsetMakesRow.holds Try.pinned (OpenSpec.ofChange subsetMakesSpec)

/-- ITS FALSE NEIGHBOUR: 'it returns false'. Refute it at one input. -/
def subsetMakesWrong : ChangeSpec := { name := "subsetMakes", fn := fun _ => fun
  | [d1, d2, d3] => { results := [.lit (.bool false)], args := [d1, d2, d3] }
  | _ => none }
def SubsetMakesWrongFalsely : Prop := subsetMakesRow.holds Try.pinned (OpenSpec.ofChange subsetMakesWrong)

/-- 'parterrelaw4.SubsetBack': WHATEVER THE INPUT: true; the input reads as it did. -/
def subsetBackSpec : ChangeSpec := { name := "subsetBack", fn := fun _ => fun
  | [d] => { results := [.lit (.bool true)], args := [d] }
  | _ => none }
def subsetBackRow : OpenClaim := { program := "ytdbfmjlnalaobaa", sum := "430eac366085b481d5bae5585a8c026c81b121e95a0e060b1f43199e361fcace", func := "parterre/parterrelaw4.SubsetBack", spec := "subsetBack", unfollowed := true, recurses := true, named := ["math/bits.divideError", "math/bits.overflowError"], apart := false }
def SubsetBackSaid : Prop := subsetBackRow.holds Try.pinned (OpenSpec.ofChange subsetBackSpec)

/-- ITS FALSE NEIGHBOUR: 'it returns false'. Refute it at one input. -/
def subsetBackWrong : ChangeSpec := { name := "subsetBack", fn := fun _ => fun
  | [d] => { results := [.lit (.bool false)], args := [d] }
  | _ => none }
def SubsetBackWrongFalsely : Prop := subsetBackRow.holds Try.pinned (OpenSpec.ofChange subsetBackWrong)

/-- 'parterrelaw4.SubsetLubell': WHATEVER THE INPUT: true; the input reads as it did. -/
def subsetLubellSpec : ChangeSpec := { name := "subsetLubell", fn := fun _ => fun
  | [d1, d2] => { results := [.lit (.bool true)], args := [d1, d2] }
  | _ => none }
def subsetLubellRow : OpenClaim := { program := "ytdbfmjlnalaobaa", sum := "430eac366085b481d5bae5585a8c026c81b121e95a0e060b1f43199e361fcace", func := "parterre/parterrelaw4.SubsetLubell", spec := "subsetLubell", unfollowed := true, recurses := true, named := ["math/bits.divideError", "math/bits.overflowError"], apart := false }
def SubsetLubellSaid : Prop := subsetLubellRow.holds Try.pinned (OpenSpec.ofChange subsetLubellSpec)

/-- ITS FALSE NEIGHBOUR: 'it returns false'. Refute it at one input. -/
def subsetLubellWrong : ChangeSpec := { name := "subsetLubell", fn := fun _ => fun
  | [d1, d2] => { results := [.lit (.bool false)], args := [d1, d2] }
  | _ => none }
def SubsetLubellWrongFalsely : Prop := subsetLubellRow.holds Try.pinned (OpenSpec.ofChange subsetLubellWrong)

/-- 'parterrelaw4.SubsetChained': WHATEVER THE INPUT: true; the input reads as it did. -/
def subsetChainedSpec : ChangeSpec := { name := "subsetChained", fn := fun _ => fun
  | [d] => { results := [.lit (.bool true)], args := [d] }
  | _ => none }
def subsetChainedRow : OpenClaim := { program := "ytdbfmjlnalaobaa", sum := "430eac366085b481d5bae5585a8c026c81b121e95a0e060b1f43199e361fcace", func := "parterre/parterrelaw4.SubsetChained", spec := "subsetChained", unfollowed := true, recurses := true, named := ["math/bits.divideError", "math/bits.overflowError"], apart := false }
def SubsetChainedSaid : Prop := subsetChainedRow.holds Try.pinned (OpenSpec.ofChange subsetChainedSpec)

/-- ITS FALSE NEIGHBOUR: 'it returns false'. Refute it at one input. -/
def subsetChainedWrong : ChangeSpec := { name := "subsetChained", fn := fun _ => fun
  | [d] => { results := [.lit (.bool false)], args := [d] }
  | _ => none }
def SubsetChainedWrongFalsely : Prop := subsetChainedRow.holds Try.pinned (OpenSpec.ofChange subsetChainedWrong)

/-- 'parterrelaw4.SubsetErdos': WHATEVER THE INPUT: true; the input reads as it did. -/
def subsetErdosSpec : ChangeSpec := { name := "subsetErdos", fn := fun _ => fun
  | [d1, d2] => { results := [.lit (.bool true)], args := [d1, d2] }
  | _ => none }
def subsetErdosRow : OpenClaim := { program := "ytdbfmjlnalaobaa", sum := "430eac366085b481d5bae5585a8c026c81b121e95a0e060b1f43199e361fcace", func := "parterre/parterrelaw4.SubsetErdos", spec := "subsetErdos", unfollowed := true, recurses := true, named := ["math/bits.divideError", "math/bits.overflowError"], apart := false }
def SubsetErdosSaid : Prop := subsetErdosRow.holds Try.pinned (OpenSpec.ofChange subsetErdosSpec)

/-- ITS FALSE NEIGHBOUR: 'it returns false'. Refute it at one input. -/
def subsetErdosWrong : ChangeSpec := { name := "subsetErdos", fn := fun _ => fun
  | [d1, d2] => { results := [.lit (.bool false)], args := [d1, d2] }
  | _ => none }
def SubsetErdosWrongFalsely : Prop := subsetErdosRow.holds Try.pinned (OpenSpec.ofChange subsetErdosWrong)

/-- 'parterrelaw4.SubsetKruskal': WHATEVER THE INPUT: true; the input reads as it did. -/
def subsetKruskalSpec : ChangeSpec := { name := "subsetKruskal", fn := fun _ => fun
  | [d1, d2, d3] => { results := [.lit (.bool true)], args := [d1, d2, d3] }
  | _ => none }
def subsetKruskalRow : OpenClaim := { program := "ytdbfmjlnalaobaa", sum := "430eac366085b481d5bae5585a8c026c81b121e95a0e060b1f43199e361fcace", func := "parterre/parterrelaw4.SubsetKruskal", spec := "subsetKruskal", unfollowed := true, recurses := true, named := ["math/bits.divideError", "math/bits.overflowError"], apart := false }
def SubsetKruskalSaid : Prop := subsetKruskalRow.holds Try.pinned (OpenSpec.ofChange subsetKruskalSpec)

/-- ITS FALSE NEIGHBOUR: 'it returns false'. Refute it at one input. -/
def subsetKruskalWrong : ChangeSpec := { name := "subsetKruskal", fn := fun _ => fun
  | [d1, d2, d3] => { results := [.lit (.bool false)], args := [d1, d2, d3] }
  | _ => none }
def SubsetKruskalWrongFalsely : Prop := subsetKruskalRow.holds Try.pinned (OpenSpec.ofChange subsetKruskalWrong)

/- THE SECOND FORM. 'bulk': how many values and letters a reading holds, each counted each time it is reached (what is shared counts as often as it is met; a slice's spare places count too). A statement '..UptoSaid' is the law's where the arguments, and the package variables that the reading takes, are together of bulk at most 1048576: NARROWER than '..Said'. Prove '..Said' where nothing that the law and all that it calls make is longer than what came in: it says more and counts as full. Else prove '..UptoSaid'. A law counts once. -/
mutual
def uptoBulk {H : Type} : DataW H → Nat
  | .lit (.string bytes) => bytes.length + 1
  | .lit _ => 1
  | .nil => 1
  | .ptr d => uptoBulk d + 1
  | .slice elems spare => uptoBulkAll elems + uptoBulkAll spare + 1
  | .agg parts => uptoBulkAll parts + 1
  | .iface _ d => uptoBulk d + 1
  | .map entries => uptoBulkEntries entries + 1
  | .held _ => 1
def uptoBulkAll {H : Type} : List (DataW H) → Nat
  | [] => 0
  | d :: r => uptoBulk d + uptoBulkAll r
def uptoBulkEntries {H : Type} : List (Lit × DataW H) → Nat
  | [] => 0
  | x :: r => uptoBulkEntry x + uptoBulkEntries r
def uptoBulkEntry {H : Type} : Lit × DataW H → Nat
  | (.string bytes, d) => bytes.length + uptoBulk d + 1
  | (_, d) => uptoBulk d + 1
 end
def uptoSmall : (H : Type) → List (DataW H) → Bool := fun _ ds => decide (uptoBulkAll ds ≤ 1048576)
def OpenSpec.upto (s : _root_.Go.ChangeSpec) : _root_.Go.OpenSpec := { _root_.Go.OpenSpec.ofChange s with cond := some uptoSmall }

/-- 'parterrelaw4.SubsetAsks', WHERE WHAT IT READS IS OF BULK AT MOST 1048576: true; the input reads as it did. -/
def subsetAsksUptoRow : OpenClaim := { program := "ytdbfmjlnalaobaa", sum := "430eac366085b481d5bae5585a8c026c81b121e95a0e060b1f43199e361fcace", func := "parterre/parterrelaw4.SubsetAsks", spec := "subsetAsks", unfollowed := true, recurses := true, apart := false, narrowed := true }
def SubsetAsksUptoSaid : Prop := subsetAsksUptoRow.holds Try.pinned (OpenSpec.upto subsetAsksSpec)

/-- 'parterrelaw4.SubsetRanks', WHERE WHAT IT READS IS OF BULK AT MOST 1048576: true; the input reads as it did. -/
def subsetRanksUptoRow : OpenClaim := { program := "ytdbfmjlnalaobaa", sum := "430eac366085b481d5bae5585a8c026c81b121e95a0e060b1f43199e361fcace", func := "parterre/parterrelaw4.SubsetRanks", spec := "subsetRanks", unfollowed := true, recurses := true, named := ["math/bits.divideError", "math/bits.overflowError"], apart := false, narrowed := true }
def SubsetRanksUptoSaid : Prop := subsetRanksUptoRow.holds Try.pinned (OpenSpec.upto subsetRanksSpec)

/-- 'parterrelaw4.SubsetMakes', WHERE WHAT IT READS IS OF BULK AT MOST 1048576: true; the input reads as it did. -/
def subsetMakesUptoRow : OpenClaim := { program := "ytdbfmjlnalaobaa", sum := "430eac366085b481d5bae5585a8c026c81b121e95a0e060b1f43199e361fcace", func := "parterre/parterrelaw4.SubsetMakes", spec := "subsetMakes", unfollowed := true, recurses := true, named := ["math/bits.divideError", "math/bits.overflowError"], apart := false, narrowed := true }
def SubsetMakesUptoSaid : Prop := subsetMakesUptoRow.holds Try.pinned (OpenSpec.upto subsetMakesSpec)

/-- 'parterrelaw4.SubsetBack', WHERE WHAT IT READS IS OF BULK AT MOST 1048576: true; the input reads as it did. -/
def subsetBackUptoRow : OpenClaim := { program := "ytdbfmjlnalaobaa", sum := "430eac366085b481d5bae5585a8c026c81b121e95a0e060b1f43199e361fcace", func := "parterre/parterrelaw4.SubsetBack", spec := "subsetBack", unfollowed := true, recurses := true, named := ["math/bits.divideError", "math/bits.overflowError"], apart := false, narrowed := true }
def SubsetBackUptoSaid : Prop := subsetBackUptoRow.holds Try.pinned (OpenSpec.upto subsetBackSpec)

/-- 'parterrelaw4.SubsetLubell', WHERE WHAT IT READS IS OF BULK AT MOST 1048576: true; the input reads as it did. -/
def subsetLubellUptoRow : OpenClaim := { program := "ytdbfmjlnalaobaa", sum := "430eac366085b481d5bae5585a8c026c81b121e95a0e060b1f43199e361fcace", func := "parterre/parterrelaw4.SubsetLubell", spec := "subsetLubell", unfollowed := true, recurses := true, named := ["math/bits.divideError", "math/bits.overflowError"], apart := false, narrowed := true }
def SubsetLubellUptoSaid : Prop := subsetLubellUptoRow.holds Try.pinned (OpenSpec.upto subsetLubellSpec)

/-- 'parterrelaw4.SubsetChained', WHERE WHAT IT READS IS OF BULK AT MOST 1048576: true; the input reads as it did. -/
def subsetChainedUptoRow : OpenClaim := { program := "ytdbfmjlnalaobaa", sum := "430eac366085b481d5bae5585a8c026c81b121e95a0e060b1f43199e361fcace", func := "parterre/parterrelaw4.SubsetChained", spec := "subsetChained", unfollowed := true, recurses := true, named := ["math/bits.divideError", "math/bits.overflowError"], apart := false, narrowed := true }
def SubsetChainedUptoSaid : Prop := subsetChainedUptoRow.holds Try.pinned (OpenSpec.upto subsetChainedSpec)

/-- 'parterrelaw4.SubsetErdos', WHERE WHAT IT READS IS OF BULK AT MOST 1048576: true; the input reads as it did. -/
def subsetErdosUptoRow : OpenClaim := { program := "ytdbfmjlnalaobaa", sum := "430eac366085b481d5bae5585a8c026c81b121e95a0e060b1f43199e361fcace", func := "parterre/parterrelaw4.SubsetErdos", spec := "subsetErdos", unfollowed := true, recurses := true, named := ["math/bits.divideError", "math/bits.overflowError"], apart := false, narrowed := true }
def SubsetErdosUptoSaid : Prop := subsetErdosUptoRow.holds Try.pinned (OpenSpec.upto subsetErdosSpec)

/-- 'parterrelaw4.SubsetKruskal', WHERE WHAT IT READS IS OF BULK AT MOST 1048576: true; the input reads as it did. -/
def subsetKruskalUptoRow : OpenClaim := { program := "ytdbfmjlnalaobaa", sum := "430eac366085b481d5bae5585a8c026c81b121e95a0e060b1f43199e361fcace", func := "parterre/parterrelaw4.SubsetKruskal", spec := "subsetKruskal", unfollowed := true, recurses := true, named := ["math/bits.divideError", "math/bits.overflowError"], apart := false, narrowed := true }
def SubsetKruskalUptoSaid : Prop := subsetKruskalUptoRow.holds Try.pinned (OpenSpec.upto subsetKruskalSpec)

end Rows
end Go.Proofs.Ytdbfmjlnalaobaa
