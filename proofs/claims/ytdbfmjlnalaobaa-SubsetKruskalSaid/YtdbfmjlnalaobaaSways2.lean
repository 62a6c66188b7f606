/-
  The walk over subset.ways for numbers that may be great: cut at 2^60. Conditions: n at most 1000000031, k at most 30.
-/
import Derived.Test.YtdbfmjlnalaobaaDiv64
namespace Go.Proofs.Ytdbfmjlnalaobaa
set_option linter.unusedVariables false
open Go.RowKit Go.Shelf

theorem mul64_any (x y : Nat) (w : World) (hx : x < 18446744073709551616) (hy : y < 18446744073709551616) :
    Calls Try.prog 53 #[.int .u64 x, .int .u64 y] w fun e w' => e = .returned (.tuple #[.int .u64 (x * y / 18446744073709551616 : Nat), .int .u64 (x * y % 18446744073709551616 : Nat)]) ∧ w = w' := by
  refine (show Calls Try.prog 53 #[.int .u64 x, .int .u64 y] w _ from Any.bits_Mul64 mulLays x y hx hy w).mono ?_
  rintro e w' ⟨rfl, rfl⟩
  exact ⟨rfl, rfl⟩
def cut60 (x : Nat) : Nat := if x ≤ 1152921504606846976 then x else 1152921504606846976
theorem diag_up (d : Nat) : ∀ j, bin (d + j) j ≤ bin (d + (j + 1)) (j + 1) := by
  intro j
  have h := bin_absorb (d + j) j
  have h2 : bin (d + j) j * (j + 1) ≤ bin (d + j) j * (d + j + 1) := Nat.mul_le_mul_left _ (by omega)
  rw [← h] at h2
  exact Nat.le_of_mul_le_mul_right h2 (by omega)
theorem diag_mono (d : Nat) {a b : Nat} (h : a ≤ b) : bin (d + a) a ≤ bin (d + b) b := by
  induction b with
  | zero => rw [show a = 0 by omega]; exact Nat.le_refl _
  | succ b ih =>
    by_cases e : a = b + 1
    · rw [e]; exact Nat.le_refl _
    · exact Nat.le_trans (ih (by omega)) (diag_up d b)
theorem cut_small {x : Nat} (h : x ≤ 1152921504606846976) : cut60 x = x := if_pos h
theorem cut_big {x : Nat} (h : 1152921504606846976 ≤ x) : cut60 x = 1152921504606846976 := by
  unfold cut60
  by_cases e : x ≤ 1152921504606846976
  · rw [if_pos e]; omega
  · rw [if_neg e]
theorem div_hi (p i : Nat) (hi : 0 < i) (h : i ≤ p / 18446744073709551616) (q : Nat) (hq : p = q * i) : 1152921504606846976 ≤ q := by
  have h1 : i * 18446744073709551616 ≤ p := (Nat.le_div_iff_mul_le (by omega)).1 h
  rw [hq, Nat.mul_comm] at h1
  have := Nat.le_of_mul_le_mul_right h1 hi
  omega

set_option maxRecDepth 100000 in
set_option maxHeartbeats 1000000 in
theorem ways_any (n k : Nat) (w : World) (hn : n ≤ 1000000031) (hk : k ≤ 30) :
    Calls Try.prog 44 #[.int .i64 n, .int .i64 k] w fun e w' => e = .returned (.int .i64 (cut60 (bin n k) : Nat)) ∧ ∃ q, w' = w.drewN q := by
  by_cases hnk : n < k
  · rw [bin_none n k hnk]
    go_enter Try.func44, Try.ntmps44
    go_wp2
    go_ret
    exact ⟨rfl, 0, rfl⟩
  · obtain ⟨d, hd⟩ : ∃ d, n = d + k := ⟨n - k, by omega⟩
    have hnd : (n : Int) - (k : Int) = (d : Int) := by omega
    have HM := hid (fun (x y : Nat) (w : World) => mul64_any x y w)
    have HD := hid (fun (x y z : Nat) (w : World) => div64_any x y z w)
    obtain ⟨B, hB⟩ : ∃ B : Nat → Nat, B = fun j => bin (d + j) j := ⟨_, rfl⟩
    have HA' : Hid (∀ j, B j * (d + j + 1) = B (j + 1) * (j + 1)) := hid (fun j => by rw [hB]; exact (bin_absorb (d + j) j).symm)
    have HMO : Hid (∀ a b, a ≤ b → B a ≤ B b) := hid (fun a b h => by rw [hB]; exact diag_mono d h)
    have H0' : Hid (B 0 = 1) := hid (by rw [hB]; exact bin_zero _)
    have HK' : bin n k = B k := by rw [hB, hd]
    rw [HK']
    have hdk : d ≤ 1000000031 := by omega
    have HDK := hid hd
    clear HK' hB hd
    obtain ⟨R, hR⟩ : ∃ R, R = cut60 (B k) := ⟨_, rfl⟩
    have HBIG : Hid (1152921504606846976 ≤ B k → R = 1152921504606846976) := hid (fun h => by rw [hR]; exact cut_big h)
    have HSM : Hid (B k ≤ 1152921504606846976 → R = B k) := hid (fun h => by rw [hR]; exact cut_small h)
    rw [← hR]
    clear hR
    go_enter Try.func44, Try.ntmps44
    go_wp2
    go_loopw [5, 6] (fun o i wr => ∃ j q : Nat, j ≤ k ∧ i = .int .i64 ((j : Int) + 1) ∧ o = .int .u64 (B j : Nat) ∧ B j ≤ 1152921504606846976 ∧ wr = w.drewN q) (fun _ i _ => k + 2 - (intOf i).toNat)
    case atStart => exact ⟨0, 0, Nat.zero_le _, rfl, by rw [H0'.out]; rfl, by rw [H0'.out]; omega, rfl⟩
    case round =>
      obtain ⟨j, q, hj, rfl, rfl, hbj, rfl⟩ := hrel
      by_cases hlt : j < k
      · have hA := HA'.out j
        have hM := HM.out (B j) (d + j + 1) (w.drewN q) (by omega) (by omega)
        rw [hA] at hM
        rw [show ((d + j + 1 : Nat) : Int) = (d : Int) + ((j : Int) + 1) by omega] at hM
        have hpb : B (j + 1) * (j + 1) < 340282366920938463463374607431768211456 := by
          rw [← hA]
          have : B j * (d + j + 1) ≤ 1152921504606846976 * 1000000062 := Nat.mul_le_mul hbj (by omega)
          omega
        obtain ⟨p, hp⟩ : ∃ p, p = B (j + 1) * (j + 1) := ⟨_, rfl⟩
        rw [← hp] at hM hpb
        obtain ⟨h, hh⟩ : ∃ h, h = p / 18446744073709551616 := ⟨_, rfl⟩
        obtain ⟨lo, hlo⟩ : ∃ lo, lo = p % 18446744073709551616 := ⟨_, rfl⟩
        have hlb : lo < 18446744073709551616 := by rw [hlo]; exact Nat.mod_lt _ (by omega)
        have hhb : h < 18446744073709551616 := by omega
        rw [← hh, ← hlo] at hM
        have HMM := hid hM
        have HBK := hid (HMO.out (j + 1) k (by omega))
        by_cases hhi : j + 1 ≤ h
        · have HR : Hid (R = 1152921504606846976) := hid (HBIG.out (Nat.le_trans (div_hi p (j + 1) (by omega) (by rw [← hh]; exact hhi) _ hp) HBK.out))
          clear hM hA hpb hp hh hlo
          go_wp2_with fail
          refine HMM.out.mono ?_
          rintro e w1 ⟨rfl, rfl⟩
          go_wp2
          go_ret
          exact ⟨by rw [HR.out]; rfl, q, rfl⟩
        · have hD := HD.out h lo (j + 1) (w.drewN q) (by omega) (by omega) hlb
          rw [show h * 18446744073709551616 + lo = p by rw [hh, hlo, Nat.mul_comm]; exact Nat.div_add_mod _ _, hp, Nat.mul_div_cancel _ (by omega)] at hD
          rw [show ((j + 1 : Nat) : Int) = (j : Int) + 1 by omega] at hD
          have hqb : B (j + 1) < 18446744073709551616 := by
            have h1 : p < (j + 1) * 18446744073709551616 := (Nat.div_lt_iff_lt_mul (by omega)).1 (by rw [← hh]; omega)
            rw [hp, Nat.mul_comm (j + 1)] at h1
            exact Nat.lt_of_mul_lt_mul_right h1
          have HDD := hid hD
          have hhi' : ¬ (j : Int) + 1 ≤ (h : Int) := by omega
          by_cases hbig : 1152921504606846976 < B (j + 1)
          · have HR : Hid (R = 1152921504606846976) := hid (HBIG.out (Nat.le_trans (Nat.le_of_lt hbig) HBK.out))
            have hbig' : (1152921504606846976 : Int) < (B (j + 1) : Int) := by omega
            clear hM hA hpb hp hh hlo hD hbig
            generalize B (j + 1) = b1 at *
            go_wp2_with fail
            refine HMM.out.mono ?_
            rintro e w1 ⟨rfl, rfl⟩
            go_wp2_with fail
            refine HDD.out.mono ?_
            rintro e w1 ⟨⟨r, rfl⟩, q2, rfl⟩
            go_wp2
            go_ret
            exact ⟨by rw [HR.out]; rfl, q + q2, by simp⟩
          · have hsm : B (j + 1) ≤ 1152921504606846976 := by omega
            have hsm' : ¬ (1152921504606846976 : Int) < (B (j + 1) : Int) := by omega
            clear hM hA hpb hp hh hlo hD hbig
            have HB1 := hid hsm
            obtain ⟨b1, hb1⟩ : ∃ b1, b1 = B (j + 1) := ⟨_, rfl⟩
            rw [← hb1] at HDD hsm hsm' hqb
            have HB2 := hid hb1
            clear hb1
            go_wp2_with fail
            refine HMM.out.mono ?_
            rintro e w1 ⟨rfl, rfl⟩
            go_wp2_with fail
            refine HDD.out.mono ?_
            rintro e w1 ⟨⟨r, rfl⟩, q2, rfl⟩
            go_wp2
            go_roundw
            case rel => exact ⟨j + 1, q + q2, by omega, by go_num, by rw [HB2.out], HB1.out, rfl⟩
            case measure => simp [intOf] <;> omega
      · obtain rfl : j = k := by omega
        have HR := hid (HSM.out hbj)
        go_wp2
        go_ret
        exact ⟨by rw [HR.out]; rfl, q, rfl⟩
end Go.Proofs.Ytdbfmjlnalaobaa
