/-
  The powers of a generating element of each field, checked by the kernel: degree 6, and that these are all. The tables are printed by a small program (ftab.py). No program in sight.
-/
import Derived.Test.YthdlhfgeminoiaaDoorFtab6
namespace Go.Proofs.YthdlhfgeminoiaaDoor
set_option linter.unusedVariables false
open Go.RowKit

def fT65 : Nat × Nat × Nat × List Nat × Nat × Nat := (2, 6, 39, [1, 1, 1, 0, 0, 1], 0x33a95e6f912277a14285c6b993e9df6d9618e247bb97e1c387c183060f267fb162f66fe7fc78fd1a375a67810204081, 0x590ace92dee1d9220bf98c5dea3a95c3d1f51afa799e6a053cdb2044a5dc894f34bb894431f25b4f3dc379ac82641000)
theorem chT65 : chT fT65 = true := by decide +kernel
def fT66 : Nat × Nat × Nat × List Nat × Nat × Nat := (2, 6, 45, [1, 0, 1, 1, 0, 1], 0x366fbae39e591227267a77870e1f5b162f3be1993fe9891f9fe6a57c78fc6e5fda14285d1a37060c183ded810204081, 0x8df51af327701feb0fa345cc9d61abedc893e65e37ea1985799c6ff4eccb56a6d293680462e34aa51d43b49402201000)
theorem chT66 : chT fT66 = true := by decide +kernel
def fT67 : Nat × Nat × Nat × List Nat × Nat × Nat := (2, 6, 51, [1, 1, 0, 0, 1, 1], 0x3996bb162fc78ff9fd9bd1a37f993c183060f870e1fa777891c61a6dbee5f26758e850a17b91227d9ea573810204081, 0xbb52b83a2fa683353119676b6586bbf086d226df4d4df705d37865cb056a5fa1d1b0c784da4be9e502c38e83c29c1000)
theorem chT67 : chT fT67 = true := by decide +kernel
def fT68 : Nat × Nat × Nat × List Nat × Nat × Nat := (2, 6, 53, [1, 0, 1, 0, 1, 1], 0x2cdfee57368608ad991c9dd2ead5389e2860ad6c91ee6a5c108f2f78efa5a17e6c7c50c12fd923a9d3f560cd13c50c1, 0x23c6d2658edaf4db4915c4df3a29bed6e2b8c5483376b58656ac32961d37e971d1b0c11e0cbe50be99368e808f067000)
theorem chT68 : chT fT68 = true := by decide +kernel
def fT6 : List (Nat × Nat × Nat × List Nat × Nat × Nat) := [fT60, fT61, fT62, fT63, fT64, fT65, fT66, fT67, fT68]
theorem chT6 : fT6.all chT = true := by
  simp only [fT6, List.all_cons, List.all_nil, chT60, chT61, chT62, chT63, chT64, chT65, chT66, chT67, chT68, Bool.and_self]
def inT (f : List (Nat × Nat × Nat × List Nat × Nat × Nat)) (P K n : Nat) : Bool := f.any fun t => t.1 == P && t.2.1 == K && t.2.2.1 == n
def allT (f : List (Nat × Nat × Nat × List Nat × Nat × Nat)) (K P : Nat) : Bool := !(Nat.blt (P ^ K) 65 && primeB P) || (List.range (P ^ K)).all fun n => !(irB P K (dgL P n 7)) || inT f P K n
theorem allT2 : (List.range 9).all (allT fT2 2) = true := by decide +kernel
theorem allT3 : (List.range 9).all (allT fT3 3) = true := by decide +kernel
theorem allT4 : (List.range 9).all (allT fT4 4) = true := by decide +kernel
theorem allT5 : (List.range 9).all (allT fT5 5) = true := by decide +kernel
theorem allT6 : (List.range 9).all (allT fT6 6) = true := by decide +kernel
theorem allT1 : (prL.all fun p => inT fT1 p.toNat 1 0) = true := by decide +kernel
theorem tim1 : (prL.all fun p => (List.range p.toNat).all fun n => timF p.toNat 1 (dgL p.toNat n 1) 1 1 == 1) = true := by decide +kernel
end Go.Proofs.YthdlhfgeminoiaaDoor
