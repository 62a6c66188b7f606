/-
  No cell of these rows narrows 'for every input' (looked for: loops, veiled, ifaces, maps, wideKeys, modest, calm, conditions, laid).
  DERIVED. THE GIVEN ROWS OF THIS SEAT. 5 by the template 'for every input the law returns true; each argument reads behind the call as it read before'; 0 by the template 'total and deterministic' (their statements: YtgfdddknajeknaaTotals.lean).
  GIVEN WITH THE SEED: the statements are not yours to turn. If you find one false, say at which input.
  Laid BY PROGRAM, IN A SANDBOX (cutbox-rows.mjs): the forced cells as the released guide's own fill.sh prints them over the translation 676f3e1058e73b93… (all of the seat's roots in one cut). By AI agents, Wed Nov 11 2026. No macro, syntax, notation, axiom, sorry.
-/
import Derived.Test.YtgfdddknajeknaaChecked
import GoSem.Claim
import GoSem.ClaimJoined
import GoSem.ClaimMapViews
import Derived.JoinedTies
import Derived.KernelRfl
namespace Go.Proofs.Ytgfdddknajeknaa
/- THE CELL 'sum', in the pinned program and in every row, IS THE sha256 OF THE DUMP (.gsa) THAT YtgfdddknajeknaaProg.lean LOADS. Nothing in Lean hashes anything: it is a label: what it is worth is what the hold of that sum in a sandbox is worth. -/
noncomputable def Try.pinned : Pinned := { name := "ytgfdddknajeknaa", sum := "676f3e1058e73b937c314f797bfdd32a44edde3c70d5e1ca2b506e6c57c4fb27", checked := Try.checked }
namespace Rows
def none {H : Type} : Left H := { results := [], args := [] }

/-- 'parterrelaw1.PermPairs': WHATEVER THE INPUT: true; the input reads as it did. -/
def permPairsSpec : ChangeSpec := { name := "permPairs", fn := fun _ => fun
  | [d1, d2] => { results := [.lit (.bool true)], args := [d1, d2] }
  | _ => none }
def permPairsRow : OpenClaim := { program := "ytgfdddknajeknaa", sum := "676f3e1058e73b937c314f797bfdd32a44edde3c70d5e1ca2b506e6c57c4fb27", func := "parterre/parterrelaw1.PermPairs", spec := "permPairs", apart := false }
def PermPairsSaid : Prop := permPairsRow.holds Try.pinned (OpenSpec.ofChange permPairsSpec)

/-- ITS FALSE NEIGHBOUR: 'it returns false'. Refute it at one input. -/
def permPairsWrong : ChangeSpec := { name := "permPairs", fn := fun _ => fun
  | [d1, d2] => { results := [.lit (.bool false)], args := [d1, d2] }
  | _ => none }
def PermPairsWrongFalsely : Prop := permPairsRow.holds Try.pinned (OpenSpec.ofChange permPairsWrong)

/-- 'parterrelaw1.PermGroup': WHATEVER THE INPUT: true; the input reads as it did. -/
def permGroupSpec : ChangeSpec := { name := "permGroup", fn := fun _ => fun
  | [d1, d2, d3] => { results := [.lit (.bool true)], args := [d1, d2, d3] }
  | _ => none }
def permGroupRow : OpenClaim := { program := "ytgfdddknajeknaa", sum := "676f3e1058e73b937c314f797bfdd32a44edde3c70d5e1ca2b506e6c57c4fb27", func := "parterre/parterrelaw1.PermGroup", spec := "permGroup", apart := false }
def PermGroupSaid : Prop := permGroupRow.holds Try.pinned (OpenSpec.ofChange permGroupSpec)

/-- ITS FALSE NEIGHBOUR: 'it returns false'. Refute it at one input. -/
def permGroupWrong : ChangeSpec := { name := "permGroup", fn := fun _ => fun
  | [d1, d2, d3] => { results := [.lit (.bool false)], args := [d1, d2, d3] }
  | _ => none }
def PermGroupWrongFalsely : Prop := permGroupRow.holds Try.pinned (OpenSpec.ofChange permGroupWrong)

/-- 'parterrelaw1.PermAsks': WHATEVER THE INPUT: true; the input reads as it did. -/
def permAsksSpec : ChangeSpec := { name := "permAsks", fn := fun _ => fun
  | [d] => { results := [.lit (.bool true)], args := [d] }
  | _ => none }
def permAsksRow : OpenClaim := { program := "ytgfdddknajeknaa", sum := "676f3e1058e73b937c314f797bfdd32a44edde3c70d5e1ca2b506e6c57c4fb27", func := "parterre/parterrelaw1.PermAsks", spec := "permAsks", apart := false }
def PermAsksSaid : Prop := permAsksRow.holds Try.pinned (OpenSpec.ofChange permAsksSpec)

/-- ITS FALSE NEIGHBOUR: 'it returns false'. Refute it at one input. -/
def permAsksWrong : ChangeSpec := { name := "permAsks", fn := fun _ => fun
  | [d] => { results := [.lit (.bool false)], args := [d] }
  | _ => none }
def PermAsksWrongFalsely : Prop := permAsksRow.holds Try.pinned (OpenSpec.ofChange permAsksWrong)

/-- 'parterrelaw1.PermPowers': WHATEVER THE INPUT: true; the input reads as it did. -/
def permPowersSpec : ChangeSpec := { name := "permPowers", fn := fun _ => fun
  | [d1, d2, d3, d4] => { results := [.lit (.bool true)], args := [d1, d2, d3, d4] }
  | _ => none }
def permPowersRow : OpenClaim := { program := "ytgfdddknajeknaa", sum := "676f3e1058e73b937c314f797bfdd32a44edde3c70d5e1ca2b506e6c57c4fb27", func := "parterre/parterrelaw1.PermPowers", spec := "permPowers", apart := false }
def PermPowersSaid : Prop := permPowersRow.holds Try.pinned (OpenSpec.ofChange permPowersSpec)

/-- ITS FALSE NEIGHBOUR: 'it returns false'. Refute it at one input. -/
def permPowersWrong : ChangeSpec := { name := "permPowers", fn := fun _ => fun
  | [d1, d2, d3, d4] => { results := [.lit (.bool false)], args := [d1, d2, d3, d4] }
  | _ => none }
def PermPowersWrongFalsely : Prop := permPowersRow.holds Try.pinned (OpenSpec.ofChange permPowersWrong)

/-- 'parterrelaw1.PermTurned': WHATEVER THE INPUT: true; the input reads as it did. -/
def permTurnedSpec : ChangeSpec := { name := "permTurned", fn := fun _ => fun
  | [d1, d2, d3] => { results := [.lit (.bool true)], args := [d1, d2, d3] }
  | _ => none }
def permTurnedRow : OpenClaim := { program := "ytgfdddknajeknaa", sum := "676f3e1058e73b937c314f797bfdd32a44edde3c70d5e1ca2b506e6c57c4fb27", func := "parterre/parterrelaw1.PermTurned", spec := "permTurned", apart := false }
def PermTurnedSaid : Prop := permTurnedRow.holds Try.pinned (OpenSpec.ofChange permTurnedSpec)

/-- ITS FALSE NEIGHBOUR: 'it returns false'. Refute it at one input. -/
def permTurnedWrong : ChangeSpec := { name := "permTurned", fn := fun _ => fun
  | [d1, d2, d3] => { results := [.lit (.bool false)], args := [d1, d2, d3] }
  | _ => none }
def PermTurnedWrongFalsely : Prop := permTurnedRow.holds Try.pinned (OpenSpec.ofChange permTurnedWrong)

/- THE SECOND FORM. 'bulk': how many values and letters a reading holds, each counted each time it is reached (what is shared counts as often as it is met; a slice's spare places count too). A statement '..UptoSaid' is the law's where the arguments, and the package variables that the reading takes, are together of bulk at most 1048576: NARROWER than '..Said'. Prove '..Said' where nothing that the law and all that it calls make is longer than what came in: it says more and counts as full. Else prove '..UptoSaid'. A law counts once. -/
mutual
def uptoBulk {H : Type} : DataW H → Nat
  | .lit (.string bytes) => bytes.length + 1
  | .lit _ => 1
  | .nil => 1
  | .ptr d => uptoBulk d + 1
  | .slice elems spare => uptoBulkAll elems + uptoBulkAll spare + 1
  | .agg parts => uptoBulkAll parts + 1
  | .iface _ d => uptoBulk d + 1
  | .map entries => uptoBulkEntries entries + 1
  | .held _ => 1
def uptoBulkAll {H : Type} : List (DataW H) → Nat
  | [] => 0
  | d :: r => uptoBulk d + uptoBulkAll r
def uptoBulkEntries {H : Type} : List (Lit × DataW H) → Nat
  | [] => 0
  | x :: r => uptoBulkEntry x + uptoBulkEntries r
def uptoBulkEntry {H : Type} : Lit × DataW H → Nat
  | (.string bytes, d) => bytes.length + uptoBulk d + 1
  | (_, d) => uptoBulk d + 1
 end
def uptoSmall : (H : Type) → List (DataW H) → Bool := fun _ ds => decide (uptoBulkAll ds ≤ 1048576)
def OpenSpec.upto (s : _root_.Go.ChangeSpec) : _root_.Go.OpenSpec := { _root_.Go.OpenSpec.ofChange s with cond := some uptoSmall }

/-- 'parterrelaw1.PermPairs', WHERE WHAT IT READS IS OF BULK AT MOST 1048576: true; the input reads as it did. -/
def permPairsUptoRow : OpenClaim := { program := "ytgfdddknajeknaa", sum := "676f3e1058e73b937c314f797bfdd32a44edde3c70d5e1ca2b506e6c57c4fb27", func := "parterre/parterrelaw1.PermPairs", spec := "permPairs", apart := false, narrowed := true }
def PermPairsUptoSaid : Prop := permPairsUptoRow.holds Try.pinned (OpenSpec.upto permPairsSpec)

/-- 'parterrelaw1.PermGroup', WHERE WHAT IT READS IS OF BULK AT MOST 1048576: true; the input reads as it did. -/
def permGroupUptoRow : OpenClaim := { program := "ytgfdddknajeknaa", sum := "676f3e1058e73b937c314f797bfdd32a44edde3c70d5e1ca2b506e6c57c4fb27", func := "parterre/parterrelaw1.PermGroup", spec := "permGroup", apart := false, narrowed := true }
def PermGroupUptoSaid : Prop := permGroupUptoRow.holds Try.pinned (OpenSpec.upto permGroupSpec)

/-- 'parterrelaw1.PermAsks', WHERE WHAT IT READS IS OF BULK AT MOST 1048576: true; the input reads as it did. -/
def permAsksUptoRow : OpenClaim := { program := "ytgfdddknajeknaa", sum := "676f3e1058e73b937c314f797bfdd32a44edde3c70d5e1ca2b506e6c57c4fb27", func := "parterre/parterrelaw1.PermAsks", spec := "permAsks", apart := false, narrowed := true }
def PermAsksUptoSaid : Prop := permAsksUptoRow.holds Try.pinned (OpenSpec.upto permAsksSpec)

/-- 'parterrelaw1.PermPowers', WHERE WHAT IT READS IS OF BULK AT MOST 1048576: true; the input reads as it did. -/
def permPowersUptoRow : OpenClaim := { program := "ytgfdddknajeknaa", sum := "676f3e1058e73b937c314f797bfdd32a44edde3c70d5e1ca2b506e6c57c4fb27", func := "parterre/parterrelaw1.PermPowers", spec := "permPowers", apart := false, narrowed := true }
def PermPowersUptoSaid : Prop := permPowersUptoRow.holds Try.pinned (OpenSpec.upto permPowersSpec)

/-- 'parterrelaw1.PermTurned', WHERE WHAT IT READS IS OF BULK AT MOST 1048576: true; the input reads as it did. -/
def permTurnedUptoRow : OpenClaim := { program := "ytgfdddknajeknaa", sum := "676f3e1058e73b937c314f797bfdd32a44edde3c70d5e1ca2b506e6c57c4fb27", func := "parterre/parterrelaw1.PermTurned", spec := "permTurned", apart := false, narrowed := true }
def PermTurnedUptoSaid : Prop := permTurnedUptoRow.holds Try.pinned (OpenSpec.upto permTurnedSpec)

end Rows
end Go.Proofs.Ytgfdddknajeknaa
