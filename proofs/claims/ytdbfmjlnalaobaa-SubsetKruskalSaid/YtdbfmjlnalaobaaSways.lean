/-
  math/bits.Mul64's contract off the kit's shelf, laid at this program by hand; math/bits.Div64 where the high word is 0; the walk over subset.ways for small numbers. Conditions: n at most 61, k at most 30.
-/
import Derived.Test.YtdbfmjlnalaobaaUnb
import Derived.Shelf.Bits.Mul64
import Derived.Deep.QuietTactic
import Derived.BigQuiet
namespace Go.Proofs.Ytdbfmjlnalaobaa
set_option linter.unusedVariables false
open Go.RowKit Go.Shelf

def mulLaysRen : Ren := ⟨fun x => match x with | 264 => 53 | n => n, fun x => match x with | 53 => 63 | 46 => 67 | n => n, fun n => n⟩
theorem mulLays : Lays.n264 Try.prog mulLaysRen where
  mixed := by kernel_rfl
  f264 := Try.func53.trans (congrArg some (by kernel_rfl))
  t46 := Try.underlying67
  a46 := Try.isAgg67
  z46 := Try.sizeOf67
  v46 := Try.zeroValue67
  t53 := Try.underlying63
  a53 := Try.isAgg63
  z53 := Try.sizeOf63
  v53 := Try.zeroValue63

theorem mul64_ok (x y : Nat) (w : World) (hx : x < 18446744073709551616) (hy : y < 18446744073709551616) (hp : x * y < 18446744073709551616) :
    Calls Try.prog 53 #[.int .u64 x, .int .u64 y] w fun e w' => e = .returned (.tuple #[.int .u64 0, .int .u64 (x * y : Nat)]) ∧ w = w' := by
  refine (show Calls Try.prog 53 #[.int .u64 x, .int .u64 y] w _ from Any.bits_Mul64 mulLays x y hx hy w).mono ?_
  rintro e w' ⟨rfl, rfl⟩
  rw [Nat.div_eq_of_lt hp, Nat.mod_eq_of_lt hp]
  exact ⟨rfl, rfl⟩

theorem div64_low (x y : Nat) (w : World) (hx : x < 18446744073709551616) (hy : y < 18446744073709551616) (h0 : 0 < y) :
    Calls Try.prog 54 #[.int .u64 0, .int .u64 x, .int .u64 y] w fun e w' => e = .returned (.tuple #[.int .u64 (x / y : Nat), .int .u64 (x % y : Nat)]) ∧ ∃ n, w' = w.drewN n := by
  have hy0 : ¬ (y : Int) = 0 := by omega
  have hyl : ¬ (y : Int) ≤ 0 := by omega
  have e1 : (x : Int).tdiv (y : Int) = ((x / y : Nat) : Int) := by rw [← Int.ofNat_tdiv]
  have e2 : (x : Int).tmod (y : Int) = ((x % y : Nat) : Int) := by rw [← Int.ofNat_tmod]
  have b1 : x / y ≤ x := Nat.div_le_self _ _
  have b2 : x % y ≤ x := Nat.mod_le _ _
  generalize x / y = q at *
  generalize x % y = r at *
  go_enter Try.func54, Try.ntmps54
  go_wp2
  go_quiet (fail)
  go_wp2
  go_ret2
  exact ⟨rfl, nq, rfl⟩

set_option maxRecDepth 100000 in
set_option maxHeartbeats 2000000 in
theorem ways_ok (n k : Nat) (w : World) (hn : n ≤ 61) (hk : k ≤ 30) :
    Calls Try.prog 44 #[.int .i64 n, .int .i64 k] w fun e w' => e = .returned (.int .i64 (bin n k : Nat)) ∧ ∃ n, w' = w.drewN n := by
  by_cases hnk : n < k
  · rw [bin_none n k hnk]
    go_enter Try.func44, Try.ntmps44
    go_wp2
    go_ret
    exact ⟨rfl, 0, rfl⟩
  · obtain ⟨d, hd⟩ : ∃ d, n = d + k := ⟨n - k, by omega⟩
    have hnd : (n : Int) - (k : Int) = (d : Int) := by omega
    have HM := hid (fun (x y : Nat) (w : World) => mul64_ok x y w)
    have HD := hid (fun (x y : Nat) (w : World) => div64_low x y w)
    have HA := hid (fun j => bin_absorb (d + j) j)
    have HB := hid (fun j (h : d + j ≤ 61) => bin61 (d + j) j h)
    have H0 := hid (bin_zero (d + 0))
    obtain ⟨B, hB⟩ : ∃ B : Nat → Nat, B = fun j => bin (d + j) j := ⟨_, rfl⟩
    have HA' : Hid (∀ j, B j * (d + j + 1) = B (j + 1) * (j + 1)) := hid (fun j => by rw [hB]; exact (HA.out j).symm)
    have HB' : Hid (∀ j, d + j ≤ 61 → B j ≤ 232714176627630544) := hid (fun j h => by rw [hB]; exact HB.out j h)
    have H0' : Hid (B 0 = 1) := hid (by rw [hB]; exact H0.out)
    have HK' : bin n k = B k := by rw [hB, hd]
    rw [HK']
    clear HA HB H0 HK' hB
    have HND := hid hd
    have hdk : d + k ≤ 61 := by omega
    clear hd
    go_enter Try.func44, Try.ntmps44
    go_wp2
    go_loopw [5, 6] (fun o i wr => ∃ j q : Nat, j ≤ k ∧ i = .int .i64 ((j : Int) + 1) ∧ o = .int .u64 (B j : Nat) ∧ wr = w.drewN q) (fun _ i _ => k + 2 - (intOf i).toNat)
    case atStart => exact ⟨0, 0, Nat.zero_le _, rfl, by rw [H0'.out]; rfl, rfl⟩
    case round =>
      obtain ⟨j, q, hj, rfl, rfl, rfl⟩ := hrel
      have hbj := HB'.out j (by omega)
      by_cases hlt : j < k
      · have hb1 := HB'.out (j + 1) (by omega)
        have hA := HA'.out j
        have hp : B (j + 1) * (j + 1) < 18446744073709551616 := by
          have : B (j + 1) * (j + 1) ≤ 232714176627630544 * 30 := Nat.mul_le_mul hb1 (by omega)
          omega
        have hM := HM.out (B j) (d + j + 1) (w.drewN q) (by omega) (by omega) (by rw [hA]; exact hp)
        rw [hA] at hM
        have hD := HD.out (B (j + 1) * (j + 1)) (j + 1) (w.drewN q) hp (by omega) (by omega)
        rw [Nat.mul_div_cancel _ (by omega)] at hD
        rw [show ((d + j + 1 : Nat) : Int) = (d : Int) + ((j : Int) + 1) by omega] at hM
        rw [show ((j + 1 : Nat) : Int) = (j : Int) + 1 by omega] at hD
        have HMM := hid hM
        have HDD := hid hD
        clear hM hD hA hp
        generalize B (j + 1) * (j + 1) = p at *
        generalize p % (j + 1) = pm at *
        go_wp2_with fail
        refine HMM.out.mono ?_
        rintro e w1 ⟨rfl, rfl⟩
        go_wp2_with fail
        refine HDD.out.mono ?_
        rintro e w1 ⟨rfl, q2, rfl⟩
        go_wp2
        go_roundw
        case rel => exact ⟨j + 1, q + q2, by omega, by go_num, rfl, rfl⟩
        case measure => simp [intOf] <;> omega
      · obtain rfl : j = k := by omega
        go_wp2
        go_ret
        exact ⟨rfl, q, rfl⟩
end Go.Proofs.Ytdbfmjlnalaobaa
