/-
  The walks over word.power: a number's power, or that it is above a bound. Conditions: the numbers' ranges, as each theorem states.
-/
import Derived.Test.YtiohfgofoklncaaBase
namespace Go.Proofs.Ytiohfgofoklncaa
open Go.RowKit

theorem pow_step (k j : Nat) : k ^ (j + 1) = k ^ j * k := Nat.pow_succ k j
/-- No further: the next power is above. -/
theorem pow_div {p k : Nat} {z : Int} (hk : 1 ≤ k) : z / (k : Int) < (p : Int) ↔ z < ((p * k : Nat) : Int) := by
  rw [Int.ediv_lt_iff_lt_mul (by omega)]
  simp
theorem pow_up {k i n : Nat} (hk : 1 ≤ k) (h : i ≤ n) : k ^ i ≤ k ^ n := Nat.pow_le_pow_right hk h

theorem power_ok (k n : Nat) (z : Int) (w : World) (hk : 1 ≤ k) (hz0 : 0 ≤ z) (hz : z ≤ 1000000000000000000) (hn : n ≤ 100) (h : ((k ^ n : Nat) : Int) ≤ z) :
    Calls Try.prog 34 #[.int .i64 k, .int .i64 n, .int .i64 z] w fun e w' => e = .returned (.tuple #[.int .i64 (k ^ n : Nat), .bool true]) ∧ w = w' := by
  obtain ⟨r, hr⟩ : ∃ r, r = k ^ n := ⟨_, rfl⟩
  rw [← hr] at h ⊢
  have HR := hid hr
  clear hr
  go_enter Try.func34, Try.ntmps34
  go_wp2
  go_loop [8, 10] (fun o i => ∃ j p : Nat, j ≤ n ∧ i = .int .i64 j ∧ o = .int .i64 p ∧ Hid (p = k ^ j)) (fun _ i => n - (intOf i).toNat)
  case atStart => exact ⟨0, 1, Nat.zero_le _, rfl, rfl, hid rfl⟩
  case round =>
    obtain ⟨j, p, hj, rfl, rfl, hp⟩ := hrel
    by_cases hlt : j < n
    · have hpk : p * k ≤ r := by rw [hp.out, ← pow_step, HR.out]; exact pow_up hk hlt
      have h1 : ¬ z / (k : Int) < (p : Int) := by rw [pow_div hk]; omega
      have h2 : (p : Int) * (k : Int) ≤ 1000000000000000000 := by
        have : ((p * k : Nat) : Int) = (p : Int) * (k : Int) := by simp
        omega
      have h3 : 0 ≤ (p : Int) * (k : Int) := Int.mul_nonneg (by omega) (by omega)
      clear hpk
      go_wp2
      go_round
      case rel => exact ⟨j + 1, p * k, by omega, by go_num, by simp, hid (by rw [hp.out, pow_step])⟩
      case measure => simp [intOf] <;> omega
    · obtain rfl : j = n := by omega
      obtain rfl : p = r := by rw [hp.out, HR.out]
      go_wp2
      go_ret2
      exact ⟨rfl, rfl⟩

theorem power_no (k n : Nat) (z : Int) (w : World) (hk : 1 ≤ k) (hz0 : 1 ≤ z) (hz : z ≤ 1000000000000000000) (hn : n ≤ 100) (h : z < ((k ^ n : Nat) : Int)) :
    Calls Try.prog 34 #[.int .i64 k, .int .i64 n, .int .i64 z] w fun e w' => e = .returned (.tuple #[.int .i64 0, .bool false]) ∧ w = w' := by
  obtain ⟨r, hr⟩ : ∃ r, r = k ^ n := ⟨_, rfl⟩
  rw [← hr] at h
  have HR := hid hr
  clear hr
  go_enter Try.func34, Try.ntmps34
  go_wp2
  go_loop [8, 10] (fun o i => ∃ j p : Nat, j ≤ n ∧ i = .int .i64 j ∧ o = .int .i64 p ∧ Hid (p = k ^ j) ∧ (p : Int) ≤ z) (fun _ i => n - (intOf i).toNat)
  case atStart => exact ⟨0, 1, Nat.zero_le _, rfl, rfl, hid rfl, hz0⟩
  case round =>
    obtain ⟨j, p, hj, rfl, rfl, hp, hpz⟩ := hrel
    by_cases hlt : j < n
    · by_cases h1 : z / (k : Int) < (p : Int)
      · go_wp2
        go_ret2
        exact ⟨rfl, rfl⟩
      · have h4 : ((p * k : Nat) : Int) ≤ z := by rw [pow_div hk] at h1; omega
        have h5 : ((p * k : Nat) : Int) = (p : Int) * (k : Int) := by simp
        have h2 : (p : Int) * (k : Int) ≤ 1000000000000000000 := by omega
        have h3 : 0 ≤ (p : Int) * (k : Int) := Int.mul_nonneg (by omega) (by omega)
        have H4 := hid h4
        clear h4 h5
        go_wp2
        go_round
        case rel => exact ⟨j + 1, p * k, by omega, by go_num, by simp, hid (by rw [hp.out, pow_step]), H4.out⟩
        case measure => simp [intOf] <;> omega
    · exfalso
      obtain rfl : j = n := by omega
      obtain rfl : p = r := by rw [hp.out, HR.out]
      omega
end Go.Proofs.Ytiohfgofoklncaa
