/-
  math/bits.Len off the kit's shelf, laid by hand; the walks over slices.pdqsortOrdered and slices.Sort of few ints. Conditions: the slice is the call's own, of 1 to 12 numbers.
-/
import Derived.Test.YthbpdfkaacgpoaaSortI
import Derived.Shelf.Small.Bits
namespace Go.Proofs.Ythbpdfkaacgpoaa
set_option linter.unusedVariables false
open Go.RowKit Go.Shelf

def lenLaysRen : Ren := ⟨fun x => match x with | 125 => 54 | 128 => 66 | 129 => 67 | n => n, fun x => match x with | 46 => 73 | 3 => 3 | 51 => 86 | 53 => 88 | 4 => 4 | 5 => 5 | 9 => 9 | n => n, fun n => n⟩
theorem lenLays : Lays.n125 Try.prog lenLaysRen where
  mixed := by kernel_rfl
  f125 := Try.func54.trans (congrArg some (by kernel_rfl))
  f128 := Try.func66.trans (congrArg some (by kernel_rfl))
  f129 := Try.func67.trans (congrArg some (by kernel_rfl))
  t3 := Try.underlying3
  a3 := Try.isAgg3
  z3 := Try.sizeOf3
  v3 := Try.zeroValue3
  t4 := Try.underlying4
  a4 := Try.isAgg4
  z4 := Try.sizeOf4
  v4 := Try.zeroValue4
  t5 := Try.underlying5
  a5 := Try.isAgg5
  z5 := Try.sizeOf5
  v5 := Try.zeroValue5
  t9 := Try.underlying9
  a9 := Try.isAgg9
  z9 := Try.sizeOf9
  v9 := Try.zeroValue9
  t46 := Try.underlying73
  a46 := Try.isAgg73
  z46 := Try.sizeOf73
  v46 := Try.zeroValue73
  t51 := Try.underlying86
  a51 := Try.isAgg86
  z51 := Try.sizeOf86
  v51 := Try.zeroValue86
  t53 := Try.underlying88
  a53 := Try.isAgg88
  z53 := Try.sizeOf88
  v53 := Try.zeroValue88
theorem bitsLen_any (x : Nat) (w : World) (h : x ≤ 1000) :
    Calls Try.prog 54 #[.int .u64 x] w fun e w' => (∃ n : Nat, n ≤ 64 ∧ e = .returned (.int .i64 n)) ∧ w' = w := by
  have := Any.bits_Len lenLays x w (by omega) (by omega)
  refine this.mono ?_
  rintro e w' ⟨he, hw⟩
  exact ⟨⟨_, Lib.bitLen_le _ 64 (by omega) (by rw [Int.toNat_natCast]; omega), he⟩, hw⟩
set_option maxHeartbeats 1000000 in
set_option maxRecDepth 100000 in
theorem pdq_ok (B g N c n : Nat) (l : List Int) (w : World) (hO : OI B w (.slice (some ⟨g, 0, none⟩) N c) l) (hl : l.length = N) (hN1 : 1 ≤ N) (hN : N ≤ 12) (hn : n ≤ 64) :
    Calls Try.prog 57 #[.slice (some ⟨g, 0, none⟩) N c, .int .i64 0, .int .i64 N, .int .i64 n] w fun e w' => e = .returned (.tuple #[]) ∧ OI B w' (.slice (some ⟨g, 0, none⟩) N c) (insI ltI 0 N l) ∧ w.grownBy w' (some g) := by
  have HS := hid (insort_ok B g N c l w hO hl hN1 hN)
  clear hO hl
  have h12 : (N : Int) ≤ 12 := by omega
  go_enter Try.func57, Try.ntmps57
  go_wp2
  go_loopw [1, 2] (fun x y wr => x = .int .i64 0 ∧ y = .int .i64 N ∧ wr = w) (fun _ _ _ => 0)
  case atStart => exact ⟨rfl, rfl, rfl⟩
  case round =>
    obtain ⟨rfl, rfl, rfl⟩ := hrel
    go_wp2_with fail
    refine HS.out.mono ?_
    rintro e w2 ⟨rfl, h2⟩
    have HX := hid h2
    clear h2
    go_wp2
    first | go_end0 | refine bodyPost_ret (results_none rfl _ _ _) rfl ?_
    exact ⟨rfl, HX.out⟩
set_option maxHeartbeats 1000000 in
set_option maxRecDepth 100000 in
theorem sort_ok (B g N c : Nat) (l : List Int) (w : World) (hO : OI B w (.slice (some ⟨g, 0, none⟩) N c) l) (hl : l.length = N) (hN1 : 1 ≤ N) (hN : N ≤ 12) :
    Calls Try.prog 51 #[.slice (some ⟨g, 0, none⟩) N c] w fun e w' => e = .returned (.tuple #[]) ∧ OI B w' (.slice (some ⟨g, 0, none⟩) N c) (insI ltI 0 N l) ∧ w.grownBy w' (some g) := by
  have HB := hid (bitsLen_any N w (by omega))
  have HP := hid (fun n (hn : n ≤ 64) => pdq_ok B g N c n l w hO hl hN1 hN hn)
  clear hO hl
  have hmod : (N : Int) % 18446744073709551616 = (N : Int) := by omega
  go_enter Try.func51, Try.ntmps51
  go_wp2_with fail
  refine HB.out.mono ?_
  rintro e w1 ⟨⟨n, hn, rfl⟩, rfl⟩
  go_wp2_with fail
  refine (HP.out n hn).mono ?_
  rintro e w2 ⟨rfl, h2⟩
  have HX := hid h2
  clear h2
  go_wp2
  go_end0
  exact ⟨rfl, HX.out⟩
end Go.Proofs.Ythbpdfkaacgpoaa
