/-
  No cell of these rows narrows 'for every input' (looked for: loops, veiled, ifaces, maps, wideKeys, modest, calm, conditions, laid).
  DERIVED. THE GIVEN ROWS OF THIS SEAT. 11 by the template 'for every input the law returns true; each argument reads behind the call as it read before'; 0 by the template 'total and deterministic' (their statements: YtnbgnoimanpjnaaTotals.lean).
  GIVEN WITH THE SEED: the statements are not yours to turn. If you find one false, say at which input.
  Laid BY PROGRAM, IN A SANDBOX (cutbox-rows.mjs): the forced cells as the released guide's own fill.sh prints them over the translation 0fcb458527d862f8… (all of the seat's roots in one cut). By AI agents, Wed Nov 11 2026. No macro, syntax, notation, axiom, sorry.
-/
import Derived.Test.YtnbgnoimanpjnaaChecked
import GoSem.Claim
import GoSem.ClaimJoined
import GoSem.ClaimMapViews
import Derived.JoinedTies
import Derived.KernelRfl
namespace Go.Proofs.Ytnbgnoimanpjnaa
/- THE CELL 'sum', in the pinned program and in every row, IS THE sha256 OF THE DUMP (.gsa) THAT YtnbgnoimanpjnaaProg.lean LOADS. Nothing in Lean hashes anything: it is a label: what it is worth is what the hold of that sum in a sandbox is worth. -/
noncomputable def Try.pinned : Pinned := { name := "ytnbgnoimanpjnaa", sum := "0fcb458527d862f810d94d0307cdb8dd5f453fd0c2bc059599a8f6b8e0dc8c76", checked := Try.checked }
namespace Rows
def none {H : Type} : Left H := { results := [], args := [] }

/-- 'parterrelaw1.GroupOrders': WHATEVER THE INPUT: true; the input reads as it did. -/
def groupOrdersSpec : ChangeSpec := { name := "groupOrders", fn := fun _ => fun
  | [d1, d2, d3, d4] => { results := [.lit (.bool true)], args := [d1, d2, d3, d4] }
  | _ => none }
def groupOrdersRow : OpenClaim := { program := "ytnbgnoimanpjnaa", sum := "0fcb458527d862f810d94d0307cdb8dd5f453fd0c2bc059599a8f6b8e0dc8c76", func := "parterre/parterrelaw1.GroupOrders", spec := "groupOrders", unfollowed := true, recurses := true, plainKeys := false, apart := false }
def GroupOrdersSaid : Prop := groupOrdersRow.holds Try.pinned (OpenSpec.ofChange groupOrdersSpec)

/-- ITS FALSE NEIGHBOUR: 'it returns false'. Refute it at one input. -/
def groupOrdersWrong : ChangeSpec := { name := "groupOrders", fn := fun _ => fun
  | [d1, d2, d3, d4] => { results := [.lit (.bool false)], args := [d1, d2, d3, d4] }
  | _ => none }
def GroupOrdersWrongFalsely : Prop := groupOrdersRow.holds Try.pinned (OpenSpec.ofChange groupOrdersWrong)

/-- 'parterrelaw1.GroupCloses': WHATEVER THE INPUT: true; the input reads as it did. -/
def groupClosesSpec : ChangeSpec := { name := "groupCloses", fn := fun _ => fun
  | [d1, d2, d3, d4] => { results := [.lit (.bool true)], args := [d1, d2, d3, d4] }
  | _ => none }
def groupClosesRow : OpenClaim := { program := "ytnbgnoimanpjnaa", sum := "0fcb458527d862f810d94d0307cdb8dd5f453fd0c2bc059599a8f6b8e0dc8c76", func := "parterre/parterrelaw1.GroupCloses", spec := "groupCloses", unfollowed := true, recurses := true, plainKeys := false, apart := false }
def GroupClosesSaid : Prop := groupClosesRow.holds Try.pinned (OpenSpec.ofChange groupClosesSpec)

/-- ITS FALSE NEIGHBOUR: 'it returns false'. Refute it at one input. -/
def groupClosesWrong : ChangeSpec := { name := "groupCloses", fn := fun _ => fun
  | [d1, d2, d3, d4] => { results := [.lit (.bool false)], args := [d1, d2, d3, d4] }
  | _ => none }
def GroupClosesWrongFalsely : Prop := groupClosesRow.holds Try.pinned (OpenSpec.ofChange groupClosesWrong)

/-- 'parterrelaw1.GroupParts': WHATEVER THE INPUT: true; the input reads as it did. -/
def groupPartsSpec : ChangeSpec := { name := "groupParts", fn := fun _ => fun
  | [d1, d2] => { results := [.lit (.bool true)], args := [d1, d2] }
  | _ => none }
def groupPartsRow : OpenClaim := { program := "ytnbgnoimanpjnaa", sum := "0fcb458527d862f810d94d0307cdb8dd5f453fd0c2bc059599a8f6b8e0dc8c76", func := "parterre/parterrelaw1.GroupParts", spec := "groupParts", unfollowed := true, recurses := true, plainKeys := false, apart := false }
def GroupPartsSaid : Prop := groupPartsRow.holds Try.pinned (OpenSpec.ofChange groupPartsSpec)

/-- ITS FALSE NEIGHBOUR: 'it returns false'. Refute it at one input. -/
def groupPartsWrong : ChangeSpec := { name := "groupParts", fn := fun _ => fun
  | [d1, d2] => { results := [.lit (.bool false)], args := [d1, d2] }
  | _ => none }
def GroupPartsWrongFalsely : Prop := groupPartsRow.holds Try.pinned (OpenSpec.ofChange groupPartsWrong)

/-- 'parterrelaw1.GroupDivides': WHATEVER THE INPUT: true; the input reads as it did. -/
def groupDividesSpec : ChangeSpec := { name := "groupDivides", fn := fun _ => fun
  | [d1, d2, d3] => { results := [.lit (.bool true)], args := [d1, d2, d3] }
  | _ => none }
def groupDividesRow : OpenClaim := { program := "ytnbgnoimanpjnaa", sum := "0fcb458527d862f810d94d0307cdb8dd5f453fd0c2bc059599a8f6b8e0dc8c76", func := "parterre/parterrelaw1.GroupDivides", spec := "groupDivides", unfollowed := true, recurses := true, plainKeys := false, apart := false }
def GroupDividesSaid : Prop := groupDividesRow.holds Try.pinned (OpenSpec.ofChange groupDividesSpec)

/-- ITS FALSE NEIGHBOUR: 'it returns false'. Refute it at one input. -/
def groupDividesWrong : ChangeSpec := { name := "groupDivides", fn := fun _ => fun
  | [d1, d2, d3] => { results := [.lit (.bool false)], args := [d1, d2, d3] }
  | _ => none }
def GroupDividesWrongFalsely : Prop := groupDividesRow.holds Try.pinned (OpenSpec.ofChange groupDividesWrong)

/-- 'parterrelaw1.GroupBurnside': WHATEVER THE INPUT: true; the input reads as it did. -/
def groupBurnsideSpec : ChangeSpec := { name := "groupBurnside", fn := fun _ => fun
  | [d1, d2] => { results := [.lit (.bool true)], args := [d1, d2] }
  | _ => none }
def groupBurnsideRow : OpenClaim := { program := "ytnbgnoimanpjnaa", sum := "0fcb458527d862f810d94d0307cdb8dd5f453fd0c2bc059599a8f6b8e0dc8c76", func := "parterre/parterrelaw1.GroupBurnside", spec := "groupBurnside", unfollowed := true, recurses := true, plainKeys := false, apart := false }
def GroupBurnsideSaid : Prop := groupBurnsideRow.holds Try.pinned (OpenSpec.ofChange groupBurnsideSpec)

/-- ITS FALSE NEIGHBOUR: 'it returns false'. Refute it at one input. -/
def groupBurnsideWrong : ChangeSpec := { name := "groupBurnside", fn := fun _ => fun
  | [d1, d2] => { results := [.lit (.bool false)], args := [d1, d2] }
  | _ => none }
def GroupBurnsideWrongFalsely : Prop := groupBurnsideRow.holds Try.pinned (OpenSpec.ofChange groupBurnsideWrong)

/-- 'parterrelaw1.GroupDeepest': WHATEVER THE INPUT: true; the input reads as it did. -/
def groupDeepestSpec : ChangeSpec := { name := "groupDeepest", fn := fun _ => fun
  | [d1, d2] => { results := [.lit (.bool true)], args := [d1, d2] }
  | _ => none }
def groupDeepestRow : OpenClaim := { program := "ytnbgnoimanpjnaa", sum := "0fcb458527d862f810d94d0307cdb8dd5f453fd0c2bc059599a8f6b8e0dc8c76", func := "parterre/parterrelaw1.GroupDeepest", spec := "groupDeepest", unfollowed := true, recurses := true, plainKeys := false, apart := false }
def GroupDeepestSaid : Prop := groupDeepestRow.holds Try.pinned (OpenSpec.ofChange groupDeepestSpec)

/-- ITS FALSE NEIGHBOUR: 'it returns false'. Refute it at one input. -/
def groupDeepestWrong : ChangeSpec := { name := "groupDeepest", fn := fun _ => fun
  | [d1, d2] => { results := [.lit (.bool false)], args := [d1, d2] }
  | _ => none }
def GroupDeepestWrongFalsely : Prop := groupDeepestRow.holds Try.pinned (OpenSpec.ofChange groupDeepestWrong)

/-- 'parterrelaw1.GroupPoints': WHATEVER THE INPUT: true; the input reads as it did. -/
def groupPointsSpec : ChangeSpec := { name := "groupPoints", fn := fun _ => fun
  | [d1, d2] => { results := [.lit (.bool true)], args := [d1, d2] }
  | _ => none }
def groupPointsRow : OpenClaim := { program := "ytnbgnoimanpjnaa", sum := "0fcb458527d862f810d94d0307cdb8dd5f453fd0c2bc059599a8f6b8e0dc8c76", func := "parterre/parterrelaw1.GroupPoints", spec := "groupPoints", unfollowed := true, recurses := true, plainKeys := false, apart := false }
def GroupPointsSaid : Prop := groupPointsRow.holds Try.pinned (OpenSpec.ofChange groupPointsSpec)

/-- ITS FALSE NEIGHBOUR: 'it returns false'. Refute it at one input. -/
def groupPointsWrong : ChangeSpec := { name := "groupPoints", fn := fun _ => fun
  | [d1, d2] => { results := [.lit (.bool false)], args := [d1, d2] }
  | _ => none }
def GroupPointsWrongFalsely : Prop := groupPointsRow.holds Try.pinned (OpenSpec.ofChange groupPointsWrong)

/-- 'parterrelaw1.CountColours': WHATEVER THE INPUT: true; the input reads as it did. -/
def countColoursSpec : ChangeSpec := { name := "countColours", fn := fun _ => fun
  | [d1, d2, d3] => { results := [.lit (.bool true)], args := [d1, d2, d3] }
  | _ => none }
def countColoursRow : OpenClaim := { program := "ytnbgnoimanpjnaa", sum := "0fcb458527d862f810d94d0307cdb8dd5f453fd0c2bc059599a8f6b8e0dc8c76", func := "parterre/parterrelaw1.CountColours", spec := "countColours", unfollowed := true, recurses := true, plainKeys := false, apart := false }
def CountColoursSaid : Prop := countColoursRow.holds Try.pinned (OpenSpec.ofChange countColoursSpec)

/-- ITS FALSE NEIGHBOUR: 'it returns false'. Refute it at one input. -/
def countColoursWrong : ChangeSpec := { name := "countColours", fn := fun _ => fun
  | [d1, d2, d3] => { results := [.lit (.bool false)], args := [d1, d2, d3] }
  | _ => none }
def CountColoursWrongFalsely : Prop := countColoursRow.holds Try.pinned (OpenSpec.ofChange countColoursWrong)

/-- 'parterrelaw1.CountContent': WHATEVER THE INPUT: true; the input reads as it did. -/
def countContentSpec : ChangeSpec := { name := "countContent", fn := fun _ => fun
  | [d1, d2, d3] => { results := [.lit (.bool true)], args := [d1, d2, d3] }
  | _ => none }
def countContentRow : OpenClaim := { program := "ytnbgnoimanpjnaa", sum := "0fcb458527d862f810d94d0307cdb8dd5f453fd0c2bc059599a8f6b8e0dc8c76", func := "parterre/parterrelaw1.CountContent", spec := "countContent", unfollowed := true, recurses := true, plainKeys := false, apart := false }
def CountContentSaid : Prop := countContentRow.holds Try.pinned (OpenSpec.ofChange countContentSpec)

/-- ITS FALSE NEIGHBOUR: 'it returns false'. Refute it at one input. -/
def countContentWrong : ChangeSpec := { name := "countContent", fn := fun _ => fun
  | [d1, d2, d3] => { results := [.lit (.bool false)], args := [d1, d2, d3] }
  | _ => none }
def CountContentWrongFalsely : Prop := countContentRow.holds Try.pinned (OpenSpec.ofChange countContentWrong)

/-- 'parterrelaw1.CountRound': WHATEVER THE INPUT: true; the input reads as it did. -/
def countRoundSpec : ChangeSpec := { name := "countRound", fn := fun _ => fun
  | [d1, d2] => { results := [.lit (.bool true)], args := [d1, d2] }
  | _ => none }
def countRoundRow : OpenClaim := { program := "ytnbgnoimanpjnaa", sum := "0fcb458527d862f810d94d0307cdb8dd5f453fd0c2bc059599a8f6b8e0dc8c76", func := "parterre/parterrelaw1.CountRound", spec := "countRound", unfollowed := true, recurses := true, plainKeys := false, apart := false }
def CountRoundSaid : Prop := countRoundRow.holds Try.pinned (OpenSpec.ofChange countRoundSpec)

/-- ITS FALSE NEIGHBOUR: 'it returns false'. Refute it at one input. -/
def countRoundWrong : ChangeSpec := { name := "countRound", fn := fun _ => fun
  | [d1, d2] => { results := [.lit (.bool false)], args := [d1, d2] }
  | _ => none }
def CountRoundWrongFalsely : Prop := countRoundRow.holds Try.pinned (OpenSpec.ofChange countRoundWrong)

/-- 'parterrelaw1.CountPolya': WHATEVER THE INPUT: true; the input reads as it did. -/
def countPolyaSpec : ChangeSpec := { name := "countPolya", fn := fun _ => fun
  | [d1, d2, d3] => { results := [.lit (.bool true)], args := [d1, d2, d3] }
  | _ => none }
def countPolyaRow : OpenClaim := { program := "ytnbgnoimanpjnaa", sum := "0fcb458527d862f810d94d0307cdb8dd5f453fd0c2bc059599a8f6b8e0dc8c76", func := "parterre/parterrelaw1.CountPolya", spec := "countPolya", unfollowed := true, recurses := true, plainKeys := false, apart := false }
def CountPolyaSaid : Prop := countPolyaRow.holds Try.pinned (OpenSpec.ofChange countPolyaSpec)

/-- ITS FALSE NEIGHBOUR: 'it returns false'. Refute it at one input. -/
def countPolyaWrong : ChangeSpec := { name := "countPolya", fn := fun _ => fun
  | [d1, d2, d3] => { results := [.lit (.bool false)], args := [d1, d2, d3] }
  | _ => none }
def CountPolyaWrongFalsely : Prop := countPolyaRow.holds Try.pinned (OpenSpec.ofChange countPolyaWrong)

/- THE SECOND FORM. 'bulk': how many values and letters a reading holds, each counted each time it is reached (what is shared counts as often as it is met; a slice's spare places count too). A statement '..UptoSaid' is the law's where the arguments, and the package variables that the reading takes, are together of bulk at most 1048576: NARROWER than '..Said'. Prove '..Said' where nothing that the law and all that it calls make is longer than what came in: it says more and counts as full. Else prove '..UptoSaid'. A law counts once. -/
mutual
def uptoBulk {H : Type} : DataW H → Nat
  | .lit (.string bytes) => bytes.length + 1
  | .lit _ => 1
  | .nil => 1
  | .ptr d => uptoBulk d + 1
  | .slice elems spare => uptoBulkAll elems + uptoBulkAll spare + 1
  | .agg parts => uptoBulkAll parts + 1
  | .iface _ d => uptoBulk d + 1
  | .map entries => uptoBulkEntries entries + 1
  | .held _ => 1
def uptoBulkAll {H : Type} : List (DataW H) → Nat
  | [] => 0
  | d :: r => uptoBulk d + uptoBulkAll r
def uptoBulkEntries {H : Type} : List (Lit × DataW H) → Nat
  | [] => 0
  | x :: r => uptoBulkEntry x + uptoBulkEntries r
def uptoBulkEntry {H : Type} : Lit × DataW H → Nat
  | (.string bytes, d) => bytes.length + uptoBulk d + 1
  | (_, d) => uptoBulk d + 1
 end
def uptoSmall : (H : Type) → List (DataW H) → Bool := fun _ ds => decide (uptoBulkAll ds ≤ 1048576)
def OpenSpec.upto (s : _root_.Go.ChangeSpec) : _root_.Go.OpenSpec := { _root_.Go.OpenSpec.ofChange s with cond := some uptoSmall }

/-- 'parterrelaw1.GroupOrders', WHERE WHAT IT READS IS OF BULK AT MOST 1048576: true; the input reads as it did. -/
def groupOrdersUptoRow : OpenClaim := { program := "ytnbgnoimanpjnaa", sum := "0fcb458527d862f810d94d0307cdb8dd5f453fd0c2bc059599a8f6b8e0dc8c76", func := "parterre/parterrelaw1.GroupOrders", spec := "groupOrders", unfollowed := true, recurses := true, plainKeys := false, apart := false, narrowed := true }
def GroupOrdersUptoSaid : Prop := groupOrdersUptoRow.holds Try.pinned (OpenSpec.upto groupOrdersSpec)

/-- 'parterrelaw1.GroupCloses', WHERE WHAT IT READS IS OF BULK AT MOST 1048576: true; the input reads as it did. -/
def groupClosesUptoRow : OpenClaim := { program := "ytnbgnoimanpjnaa", sum := "0fcb458527d862f810d94d0307cdb8dd5f453fd0c2bc059599a8f6b8e0dc8c76", func := "parterre/parterrelaw1.GroupCloses", spec := "groupCloses", unfollowed := true, recurses := true, plainKeys := false, apart := false, narrowed := true }
def GroupClosesUptoSaid : Prop := groupClosesUptoRow.holds Try.pinned (OpenSpec.upto groupClosesSpec)

/-- 'parterrelaw1.GroupParts', WHERE WHAT IT READS IS OF BULK AT MOST 1048576: true; the input reads as it did. -/
def groupPartsUptoRow : OpenClaim := { program := "ytnbgnoimanpjnaa", sum := "0fcb458527d862f810d94d0307cdb8dd5f453fd0c2bc059599a8f6b8e0dc8c76", func := "parterre/parterrelaw1.GroupParts", spec := "groupParts", unfollowed := true, recurses := true, plainKeys := false, apart := false, narrowed := true }
def GroupPartsUptoSaid : Prop := groupPartsUptoRow.holds Try.pinned (OpenSpec.upto groupPartsSpec)

/-- 'parterrelaw1.GroupDivides', WHERE WHAT IT READS IS OF BULK AT MOST 1048576: true; the input reads as it did. -/
def groupDividesUptoRow : OpenClaim := { program := "ytnbgnoimanpjnaa", sum := "0fcb458527d862f810d94d0307cdb8dd5f453fd0c2bc059599a8f6b8e0dc8c76", func := "parterre/parterrelaw1.GroupDivides", spec := "groupDivides", unfollowed := true, recurses := true, plainKeys := false, apart := false, narrowed := true }
def GroupDividesUptoSaid : Prop := groupDividesUptoRow.holds Try.pinned (OpenSpec.upto groupDividesSpec)

/-- 'parterrelaw1.GroupBurnside', WHERE WHAT IT READS IS OF BULK AT MOST 1048576: true; the input reads as it did. -/
def groupBurnsideUptoRow : OpenClaim := { program := "ytnbgnoimanpjnaa", sum := "0fcb458527d862f810d94d0307cdb8dd5f453fd0c2bc059599a8f6b8e0dc8c76", func := "parterre/parterrelaw1.GroupBurnside", spec := "groupBurnside", unfollowed := true, recurses := true, plainKeys := false, apart := false, narrowed := true }
def GroupBurnsideUptoSaid : Prop := groupBurnsideUptoRow.holds Try.pinned (OpenSpec.upto groupBurnsideSpec)

/-- 'parterrelaw1.GroupDeepest', WHERE WHAT IT READS IS OF BULK AT MOST 1048576: true; the input reads as it did. -/
def groupDeepestUptoRow : OpenClaim := { program := "ytnbgnoimanpjnaa", sum := "0fcb458527d862f810d94d0307cdb8dd5f453fd0c2bc059599a8f6b8e0dc8c76", func := "parterre/parterrelaw1.GroupDeepest", spec := "groupDeepest", unfollowed := true, recurses := true, plainKeys := false, apart := false, narrowed := true }
def GroupDeepestUptoSaid : Prop := groupDeepestUptoRow.holds Try.pinned (OpenSpec.upto groupDeepestSpec)

/-- 'parterrelaw1.GroupPoints', WHERE WHAT IT READS IS OF BULK AT MOST 1048576: true; the input reads as it did. -/
def groupPointsUptoRow : OpenClaim := { program := "ytnbgnoimanpjnaa", sum := "0fcb458527d862f810d94d0307cdb8dd5f453fd0c2bc059599a8f6b8e0dc8c76", func := "parterre/parterrelaw1.GroupPoints", spec := "groupPoints", unfollowed := true, recurses := true, plainKeys := false, apart := false, narrowed := true }
def GroupPointsUptoSaid : Prop := groupPointsUptoRow.holds Try.pinned (OpenSpec.upto groupPointsSpec)

/-- 'parterrelaw1.CountColours', WHERE WHAT IT READS IS OF BULK AT MOST 1048576: true; the input reads as it did. -/
def countColoursUptoRow : OpenClaim := { program := "ytnbgnoimanpjnaa", sum := "0fcb458527d862f810d94d0307cdb8dd5f453fd0c2bc059599a8f6b8e0dc8c76", func := "parterre/parterrelaw1.CountColours", spec := "countColours", unfollowed := true, recurses := true, plainKeys := false, apart := false, narrowed := true }
def CountColoursUptoSaid : Prop := countColoursUptoRow.holds Try.pinned (OpenSpec.upto countColoursSpec)

/-- 'parterrelaw1.CountContent', WHERE WHAT IT READS IS OF BULK AT MOST 1048576: true; the input reads as it did. -/
def countContentUptoRow : OpenClaim := { program := "ytnbgnoimanpjnaa", sum := "0fcb458527d862f810d94d0307cdb8dd5f453fd0c2bc059599a8f6b8e0dc8c76", func := "parterre/parterrelaw1.CountContent", spec := "countContent", unfollowed := true, recurses := true, plainKeys := false, apart := false, narrowed := true }
def CountContentUptoSaid : Prop := countContentUptoRow.holds Try.pinned (OpenSpec.upto countContentSpec)

/-- 'parterrelaw1.CountRound', WHERE WHAT IT READS IS OF BULK AT MOST 1048576: true; the input reads as it did. -/
def countRoundUptoRow : OpenClaim := { program := "ytnbgnoimanpjnaa", sum := "0fcb458527d862f810d94d0307cdb8dd5f453fd0c2bc059599a8f6b8e0dc8c76", func := "parterre/parterrelaw1.CountRound", spec := "countRound", unfollowed := true, recurses := true, plainKeys := false, apart := false, narrowed := true }
def CountRoundUptoSaid : Prop := countRoundUptoRow.holds Try.pinned (OpenSpec.upto countRoundSpec)

/-- 'parterrelaw1.CountPolya', WHERE WHAT IT READS IS OF BULK AT MOST 1048576: true; the input reads as it did. -/
def countPolyaUptoRow : OpenClaim := { program := "ytnbgnoimanpjnaa", sum := "0fcb458527d862f810d94d0307cdb8dd5f453fd0c2bc059599a8f6b8e0dc8c76", func := "parterre/parterrelaw1.CountPolya", spec := "countPolya", unfollowed := true, recurses := true, plainKeys := false, apart := false, narrowed := true }
def CountPolyaUptoSaid : Prop := countPolyaUptoRow.holds Try.pinned (OpenSpec.upto countPolyaSpec)

end Rows
end Go.Proofs.Ytnbgnoimanpjnaa
