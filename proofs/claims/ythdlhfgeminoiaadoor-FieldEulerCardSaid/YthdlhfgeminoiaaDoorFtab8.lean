/-
  To the power of the prime sums add; traces are below the prime, as often each; half of all are squares: by the kernel, on the tables. No program in sight.
-/
import Derived.Test.YthdlhfgeminoiaaDoorFlaw
namespace Go.Proofs.YthdlhfgeminoiaaDoor
set_option linter.unusedVariables false
open Go.RowKit

/-- To the power of the prime, by the tables. -/
def frT (P K e l x : Nat) : Nat := if x == 0 then 0 else eT e (eT l x * P % (P ^ K - 1))
def trTa (P K e l x : Nat) : Nat → Nat
  | 0 => x
  | i + 1 => frT P K e l (trTa P K e l x i)
def trTs (P K e l x : Nat) : Nat → Nat
  | 0 => 0
  | i + 1 => addF P K (trTs P K e l x i) (trTa P K e l x i)
/-- Is it a square, by the tables? -/
def sqT (P K l x : Nat) : Bool := x != 0 && Nat.blt x (P ^ K) && (P ^ K % 2 == 0 || eT l x % 2 == 0)
def chC (P K e l : Nat) : Bool := (List.range (P ^ K)).all fun x => (List.range K).all fun i => frT P K e l (addF P K x (P ^ i)) == addF P K (frT P K e l x) (frT P K e l (P ^ i))
def chD (P K e l : Nat) : Bool := ((List.range K).all fun i => Nat.blt (trTs P K e l (P ^ i) K) P) && (List.range P).all fun u => ((List.range (P ^ K)).filter fun x => trTs P K e l x K == u).length == P ^ K / P
def chE (P K l : Nat) : Bool := ((List.range 64).filter (sqT P K l)).length == if P ^ K % 2 == 0 then P ^ K - 1 else (P ^ K - 1) / 2
def chU : Nat × Nat × Nat × List Nat × Nat × Nat → Bool
  | (P, K, _, _, e, l) => chC P K e l && chD P K e l && chE P K l
theorem chU1 : fT1.all chU = true := by decide +kernel
theorem chU2 : fT2.all chU = true := by decide +kernel
theorem chU3 : fT3.all chU = true := by decide +kernel
theorem chU4 : fT4.all chU = true := by decide +kernel
theorem chU50 : chU fT50 = true := by decide +kernel
theorem chU51 : chU fT51 = true := by decide +kernel
theorem chU52 : chU fT52 = true := by decide +kernel
theorem chU53 : chU fT53 = true := by decide +kernel
theorem chU54 : chU fT54 = true := by decide +kernel
theorem chU55 : chU fT55 = true := by decide +kernel
theorem chU5 : fT5.all chU = true := by
  simp only [fT5, List.all_cons, List.all_nil, chU50, chU51, chU52, chU53, chU54, chU55, Bool.and_self]
end Go.Proofs.YthdlhfgeminoiaaDoor
