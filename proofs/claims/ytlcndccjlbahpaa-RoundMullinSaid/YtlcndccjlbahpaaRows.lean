/-
  No cell of these rows narrows 'for every input' (looked for: loops, veiled, ifaces, maps, wideKeys, modest, calm, conditions, laid).
  DERIVED. THE GIVEN ROWS OF THIS SEAT. 5 by the template 'for every input the law returns true; each argument reads behind the call as it read before'; 0 by the template 'total and deterministic' (their statements: YtlcndccjlbahpaaTotals.lean).
  GIVEN WITH THE SEED: the statements are not yours to turn. If you find one false, say at which input.
  Laid BY PROGRAM, IN A SANDBOX (cutbox-rows.mjs): the forced cells as the released guide's own fill.sh prints them over the translation 03e399cc2f3e35ea… (all of the seat's roots in one cut). By AI agents, Wed Nov 11 2026. No macro, syntax, notation, axiom, sorry.
-/
import Derived.Test.YtlcndccjlbahpaaChecked
import GoSem.Claim
import GoSem.ClaimJoined
import GoSem.ClaimMapViews
import Derived.JoinedTies
import Derived.KernelRfl
namespace Go.Proofs.Ytlcndccjlbahpaa
/- THE CELL 'sum', in the pinned program and in every row, IS THE sha256 OF THE DUMP (.gsa) THAT YtlcndccjlbahpaaProg.lean LOADS. Nothing in Lean hashes anything: it is a label: what it is worth is what the hold of that sum in a sandbox is worth. -/
noncomputable def Try.pinned : Pinned := { name := "ytlcndccjlbahpaa", sum := "03e399cc2f3e35ea4bf82502aa7e996b6cd05f2aec63acf622ba94e853c40515", checked := Try.checked }
namespace Rows
def none {H : Type} : Left H := { results := [], args := [] }

/-- 'parterrelaw4.RoundMakes': WHATEVER THE INPUT: true; the input reads as it did. -/
def roundMakesSpec : ChangeSpec := { name := "roundMakes", fn := fun _ => fun
  | [d1, d2, d3] => { results := [.lit (.bool true)], args := [d1, d2, d3] }
  | _ => none }
def roundMakesRow : OpenClaim := { program := "ytlcndccjlbahpaa", sum := "03e399cc2f3e35ea4bf82502aa7e996b6cd05f2aec63acf622ba94e853c40515", func := "parterre/parterrelaw4.RoundMakes", spec := "roundMakes", plainKeys := false, apart := false }
def RoundMakesSaid : Prop := roundMakesRow.holds Try.pinned (OpenSpec.ofChange roundMakesSpec)

/-- ITS FALSE NEIGHBOUR: 'it returns false'. Refute it at one input. -/
def roundMakesWrong : ChangeSpec := { name := "roundMakes", fn := fun _ => fun
  | [d1, d2, d3] => { results := [.lit (.bool false)], args := [d1, d2, d3] }
  | _ => none }
def RoundMakesWrongFalsely : Prop := roundMakesRow.holds Try.pinned (OpenSpec.ofChange roundMakesWrong)

/-- 'parterrelaw4.RoundChecks': WHATEVER THE INPUT: true; the input reads as it did. -/
def roundChecksSpec : ChangeSpec := { name := "roundChecks", fn := fun _ => fun
  | [d1, d2, d3] => { results := [.lit (.bool true)], args := [d1, d2, d3] }
  | _ => none }
def roundChecksRow : OpenClaim := { program := "ytlcndccjlbahpaa", sum := "03e399cc2f3e35ea4bf82502aa7e996b6cd05f2aec63acf622ba94e853c40515", func := "parterre/parterrelaw4.RoundChecks", spec := "roundChecks", unfollowed := true, recurses := true, plainKeys := false, apart := false }
def RoundChecksSaid : Prop := roundChecksRow.holds Try.pinned (OpenSpec.ofChange roundChecksSpec)

/-- ITS FALSE NEIGHBOUR: 'it returns false'. Refute it at one input. -/
def roundChecksWrong : ChangeSpec := { name := "roundChecks", fn := fun _ => fun
  | [d1, d2, d3] => { results := [.lit (.bool false)], args := [d1, d2, d3] }
  | _ => none }
def RoundChecksWrongFalsely : Prop := roundChecksRow.holds Try.pinned (OpenSpec.ofChange roundChecksWrong)

/-- 'parterrelaw4.RoundKotzig': WHATEVER THE INPUT: true; the input reads as it did. -/
def roundKotzigSpec : ChangeSpec := { name := "roundKotzig", fn := fun _ => fun
  | [d] => { results := [.lit (.bool true)], args := [d] }
  | _ => none }
def roundKotzigRow : OpenClaim := { program := "ytlcndccjlbahpaa", sum := "03e399cc2f3e35ea4bf82502aa7e996b6cd05f2aec63acf622ba94e853c40515", func := "parterre/parterrelaw4.RoundKotzig", spec := "roundKotzig", unfollowed := true, recurses := true, plainKeys := false, apart := false }
def RoundKotzigSaid : Prop := roundKotzigRow.holds Try.pinned (OpenSpec.ofChange roundKotzigSpec)

/-- ITS FALSE NEIGHBOUR: 'it returns false'. Refute it at one input. -/
def roundKotzigWrong : ChangeSpec := { name := "roundKotzig", fn := fun _ => fun
  | [d] => { results := [.lit (.bool false)], args := [d] }
  | _ => none }
def RoundKotzigWrongFalsely : Prop := roundKotzigRow.holds Try.pinned (OpenSpec.ofChange roundKotzigWrong)

/-- 'parterrelaw4.RoundAll': WHATEVER THE INPUT: true; the input reads as it did. -/
def roundAllSpec : ChangeSpec := { name := "roundAll", fn := fun _ => fun
  | [d1, d2, d3] => { results := [.lit (.bool true)], args := [d1, d2, d3] }
  | _ => none }
def roundAllRow : OpenClaim := { program := "ytlcndccjlbahpaa", sum := "03e399cc2f3e35ea4bf82502aa7e996b6cd05f2aec63acf622ba94e853c40515", func := "parterre/parterrelaw4.RoundAll", spec := "roundAll", unfollowed := true, recurses := true, plainKeys := false, apart := false }
def RoundAllSaid : Prop := roundAllRow.holds Try.pinned (OpenSpec.ofChange roundAllSpec)

/-- ITS FALSE NEIGHBOUR: 'it returns false'. Refute it at one input. -/
def roundAllWrong : ChangeSpec := { name := "roundAll", fn := fun _ => fun
  | [d1, d2, d3] => { results := [.lit (.bool false)], args := [d1, d2, d3] }
  | _ => none }
def RoundAllWrongFalsely : Prop := roundAllRow.holds Try.pinned (OpenSpec.ofChange roundAllWrong)

/-- 'parterrelaw4.RoundMullin': WHATEVER THE INPUT: true; the input reads as it did. -/
def roundMullinSpec : ChangeSpec := { name := "roundMullin", fn := fun _ => fun
  | [d1, d2] => { results := [.lit (.bool true)], args := [d1, d2] }
  | _ => none }
def roundMullinRow : OpenClaim := { program := "ytlcndccjlbahpaa", sum := "03e399cc2f3e35ea4bf82502aa7e996b6cd05f2aec63acf622ba94e853c40515", func := "parterre/parterrelaw4.RoundMullin", spec := "roundMullin", unfollowed := true, recurses := true, plainKeys := false, apart := false }
def RoundMullinSaid : Prop := roundMullinRow.holds Try.pinned (OpenSpec.ofChange roundMullinSpec)

/-- ITS FALSE NEIGHBOUR: 'it returns false'. Refute it at one input. -/
def roundMullinWrong : ChangeSpec := { name := "roundMullin", fn := fun _ => fun
  | [d1, d2] => { results := [.lit (.bool false)], args := [d1, d2] }
  | _ => none }
def RoundMullinWrongFalsely : Prop := roundMullinRow.holds Try.pinned (OpenSpec.ofChange roundMullinWrong)

/- THE SECOND FORM. 'bulk': how many values and letters a reading holds, each counted each time it is reached (what is shared counts as often as it is met; a slice's spare places count too). A statement '..UptoSaid' is the law's where the arguments, and the package variables that the reading takes, are together of bulk at most 1048576: NARROWER than '..Said'. Prove '..Said' where nothing that the law and all that it calls make is longer than what came in: it says more and counts as full. Else prove '..UptoSaid'. A law counts once. -/
mutual
def uptoBulk {H : Type} : DataW H → Nat
  | .lit (.string bytes) => bytes.length + 1
  | .lit _ => 1
  | .nil => 1
  | .ptr d => uptoBulk d + 1
  | .slice elems spare => uptoBulkAll elems + uptoBulkAll spare + 1
  | .agg parts => uptoBulkAll parts + 1
  | .iface _ d => uptoBulk d + 1
  | .map entries => uptoBulkEntries entries + 1
  | .held _ => 1
def uptoBulkAll {H : Type} : List (DataW H) → Nat
  | [] => 0
  | d :: r => uptoBulk d + uptoBulkAll r
def uptoBulkEntries {H : Type} : List (Lit × DataW H) → Nat
  | [] => 0
  | x :: r => uptoBulkEntry x + uptoBulkEntries r
def uptoBulkEntry {H : Type} : Lit × DataW H → Nat
  | (.string bytes, d) => bytes.length + uptoBulk d + 1
  | (_, d) => uptoBulk d + 1
 end
def uptoSmall : (H : Type) → List (DataW H) → Bool := fun _ ds => decide (uptoBulkAll ds ≤ 1048576)
def OpenSpec.upto (s : _root_.Go.ChangeSpec) : _root_.Go.OpenSpec := { _root_.Go.OpenSpec.ofChange s with cond := some uptoSmall }

/-- 'parterrelaw4.RoundMakes', WHERE WHAT IT READS IS OF BULK AT MOST 1048576: true; the input reads as it did. -/
def roundMakesUptoRow : OpenClaim := { program := "ytlcndccjlbahpaa", sum := "03e399cc2f3e35ea4bf82502aa7e996b6cd05f2aec63acf622ba94e853c40515", func := "parterre/parterrelaw4.RoundMakes", spec := "roundMakes", plainKeys := false, apart := false, narrowed := true }
def RoundMakesUptoSaid : Prop := roundMakesUptoRow.holds Try.pinned (OpenSpec.upto roundMakesSpec)

/-- 'parterrelaw4.RoundChecks', WHERE WHAT IT READS IS OF BULK AT MOST 1048576: true; the input reads as it did. -/
def roundChecksUptoRow : OpenClaim := { program := "ytlcndccjlbahpaa", sum := "03e399cc2f3e35ea4bf82502aa7e996b6cd05f2aec63acf622ba94e853c40515", func := "parterre/parterrelaw4.RoundChecks", spec := "roundChecks", unfollowed := true, recurses := true, plainKeys := false, apart := false, narrowed := true }
def RoundChecksUptoSaid : Prop := roundChecksUptoRow.holds Try.pinned (OpenSpec.upto roundChecksSpec)

/-- 'parterrelaw4.RoundKotzig', WHERE WHAT IT READS IS OF BULK AT MOST 1048576: true; the input reads as it did. -/
def roundKotzigUptoRow : OpenClaim := { program := "ytlcndccjlbahpaa", sum := "03e399cc2f3e35ea4bf82502aa7e996b6cd05f2aec63acf622ba94e853c40515", func := "parterre/parterrelaw4.RoundKotzig", spec := "roundKotzig", unfollowed := true, recurses := true, plainKeys := false, apart := false, narrowed := true }
def RoundKotzigUptoSaid : Prop := roundKotzigUptoRow.holds Try.pinned (OpenSpec.upto roundKotzigSpec)

/-- 'parterrelaw4.RoundAll', WHERE WHAT IT READS IS OF BULK AT MOST 1048576: true; the input reads as it did. -/
def roundAllUptoRow : OpenClaim := { program := "ytlcndccjlbahpaa", sum := "03e399cc2f3e35ea4bf82502aa7e996b6cd05f2aec63acf622ba94e853c40515", func := "parterre/parterrelaw4.RoundAll", spec := "roundAll", unfollowed := true, recurses := true, plainKeys := false, apart := false, narrowed := true }
def RoundAllUptoSaid : Prop := roundAllUptoRow.holds Try.pinned (OpenSpec.upto roundAllSpec)

/-- 'parterrelaw4.RoundMullin', WHERE WHAT IT READS IS OF BULK AT MOST 1048576: true; the input reads as it did. -/
def roundMullinUptoRow : OpenClaim := { program := "ytlcndccjlbahpaa", sum := "03e399cc2f3e35ea4bf82502aa7e996b6cd05f2aec63acf622ba94e853c40515", func := "parterre/parterrelaw4.RoundMullin", spec := "roundMullin", unfollowed := true, recurses := true, plainKeys := false, apart := false, narrowed := true }
def RoundMullinUptoSaid : Prop := roundMullinUptoRow.holds Try.pinned (OpenSpec.upto roundMullinSpec)

end Rows
end Go.Proofs.Ytlcndccjlbahpaa
