/-
  The powers of a generating element of each field, checked by the kernel: degree 6. The tables are printed by a small program (ftab.py). No program in sight.
-/
import Derived.Test.YthdlhfgeminoiaaDoorFtab5
namespace Go.Proofs.YthdlhfgeminoiaaDoor
set_option linter.unusedVariables false
open Go.RowKit

def fT60 : Nat × Nat × Nat × List Nat × Nat × Nat := (2, 6, 3, [1, 1, 0, 0, 0, 0], 0x21c79f7ff9fb97a95af468d9f266ddfa76fd9bb162e4489973e1c387891a75efc78f993a142858f060c183810204081, 0xeb9ed456af1dae75b27aef4aa37b25cf55cfbd17e22d9f85e13a5c9b1b49da4d0e42160449bc088cd803687302181000)
theorem chT60 : chT fT60 = true := by decide +kernel
def fT61 : Nat × Nat × Nat × List Nat × Nat × Nat := (2, 6, 9, [1, 0, 0, 1, 0, 0], 0x38be278a182e5737c50c13bb9ac68608fd5d2b670437aa17f2a609dd2feb5b247e96d53d923bdb239a591ccd13c50c1, 0xa58334c13dfe88f46715eb64f6f5cb9a176c6c92072bc81c7fb6865ae96bd92a3340e1230cdd7267a56a5390b1078000)
theorem chT61 : chT fT61 = true := by decide +kernel
def fT62 : Nat × Nat × Nat × List Nat × Nat × Nat := (2, 6, 23, [1, 1, 1, 0, 1, 0], 0x328eca6aad9e96fd5fa774bd217f896e6bb91ce5737648ede0b5b247c10f66be8608d53f14304c6278a182cd13c50c1, 0xd735cfa3796c7e246f17e2d956a77ce7aed4c96ae7f4ab9eb49c66729e13936d0e4211180e08cdc086d268708c046000)
theorem chT62 : chT fT62 = true := by decide +kernel
def fT63 : Nat × Nat × Nat × List Nat × Nat × Nat := (2, 6, 27, [1, 1, 0, 1, 1, 0], 0x2def060c183b162e850a16fe9d8fc78fa959fe7e2465ff2661f73d1a36be1c387b97993912269e71d77d9b810204081, 0x86676cf6f2d720725b7202bcc13fb76293349d188fb6478596bb9619a7fb4b6a3340e8c4a9567ad72343539c42e01000)
theorem chT63 : chT fT63 = true := by decide +kernel
def fT64 : Nat × Nat × Nat × List Nat × Nat × Nat := (2, 6, 33, [1, 0, 0, 0, 0, 1], 0x3060c183c6850a17267c78fdeb96247870e1f3a64489d1a3766fdb97eed993e6c58bd6a57a77e7ffbe78e1810204081, 0x28c73264e56abde4619b4e7e25b614b90978217b641ec1852f1369760cfd6933f75a3ac4c287fc4b68839fbd42e81000)
theorem chT64 : chT fT64 = true := by decide +kernel
end Go.Proofs.YthdlhfgeminoiaaDoor
