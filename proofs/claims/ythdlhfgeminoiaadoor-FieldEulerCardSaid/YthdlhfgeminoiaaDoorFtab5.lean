/-
  The powers of a generating element of each field, checked by the kernel: degree 5. The tables are printed by a small program (ftab.py). No program in sight.
-/
import Derived.Test.YthdlhfgeminoiaaDoorFtab
namespace Go.Proofs.YthdlhfgeminoiaaDoor
set_option linter.unusedVariables false
open Go.RowKit

def fT50 : Nat × Nat × Nat × List Nat × Nat × Nat := (2, 5, 5, [1, 0, 1, 0, 0], 0x122562d765e3d560c1834db7dd70e1d168d50a150204081, 0x3d838d40965569c58745e2845cc2146c67432d3142481000)
theorem chT50 : chT fT50 = true := by decide +kernel
def fT51 : Nat × Nat × Nat × List Nat × Nat × Nat := (2, 5, 9, [1, 0, 0, 1, 0], 0x1428558b45c3875df6d960c18355e3d375a352250204081, 0x50c2584c849155b35e2866442d71d069d14358f702381000)
theorem chT51 : chT fT51 = true := by decide +kernel
def fT52 : Nat × Nat × Nat × List Nat × Nat × Nat := (2, 5, 15, [1, 1, 1, 1, 0], 0x1770e1d428555d65b68d45f60c18358b4894de3d0204081, 0x40659d51354f78b5da1c944415c48e2992036cd602301000)
theorem chT52 : chT fT52 = true := by decide +kernel
def fT53 : Nat × Nat × Nat × List Nat × Nat × Nat := (2, 5, 23, [1, 1, 1, 0, 1], 0x1b58b78f70e1d83060da35d5514d225f50a1595d0204081, 0x29b41979219615d3c934c3846984557082c35d41c24c1000)
theorem chT53 : chT fT53 = true := by decide +kernel
def fT54 : Nat × Nat × Nat × List Nat × Nat × Nat := (2, 5, 27, [1, 1, 0, 1, 1], 0x1d4d42857d22594555d62d83060dc38778f68d6d0204081, 0x64978c1475904d251c75854420b18f45b5c328e682341000)
theorem chT54 : chT fT54 = true := by decide +kernel
def fT55 : Nat × Nat × Nat × List Nat × Nat × Nat := (2, 5, 29, [1, 0, 1, 1, 1], 0x1e3d948968d60c1837d158b6d35d550a15c387750204081, 0x4de1483d971735130b39b48474761640a683195242501000)
theorem chT55 : chT fT55 = true := by decide +kernel
def fT5 : List (Nat × Nat × Nat × List Nat × Nat × Nat) := [fT50, fT51, fT52, fT53, fT54, fT55]
theorem chT5 : fT5.all chT = true := by
  simp only [fT5, List.all_cons, List.all_nil, chT50, chT51, chT52, chT53, chT54, chT55, Bool.and_self]
end Go.Proofs.YthdlhfgeminoiaaDoor
