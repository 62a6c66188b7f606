/-
  To the power of the prime sums add; traces are below the prime, as often each; half of all are squares: by the kernel, on the tables. No program in sight.
-/
import Derived.Test.YthdlhfgeminoiaaDoorFtab8
namespace Go.Proofs.YthdlhfgeminoiaaDoor
set_option linter.unusedVariables false
open Go.RowKit

theorem chU60 : chU fT60 = true := by decide +kernel
theorem chU61 : chU fT61 = true := by decide +kernel
theorem chU62 : chU fT62 = true := by decide +kernel
theorem chU63 : chU fT63 = true := by decide +kernel
theorem chU64 : chU fT64 = true := by decide +kernel
theorem chU65 : chU fT65 = true := by decide +kernel
theorem chU66 : chU fT66 = true := by decide +kernel
theorem chU67 : chU fT67 = true := by decide +kernel
theorem chU68 : chU fT68 = true := by decide +kernel
theorem chU6 : fT6.all chU = true := by
  simp only [fT6, List.all_cons, List.all_nil, chU60, chU61, chU62, chU63, chU64, chU65, chU66, chU67, chU68, Bool.and_self]
end Go.Proofs.YthdlhfgeminoiaaDoor
