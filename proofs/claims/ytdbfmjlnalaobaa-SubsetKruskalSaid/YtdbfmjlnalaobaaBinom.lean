/-
  The walks over parterreref4.binomial (cut at 2^31) and CascadeOf. No condition.
-/
import Derived.Test.YtdbfmjlnalaobaaCasc
namespace Go.Proofs.Ytdbfmjlnalaobaa
set_option linter.unusedVariables false
open Go.RowKit Go.Shelf

def cut31 (x : Nat) : Nat := if x ≤ 2147483648 then x else 2147483648
theorem cut31_small {x : Nat} (h : x ≤ 2147483648) : cut31 x = x := if_pos h
theorem cut31_big {x : Nat} (h : 2147483648 ≤ x) : cut31 x = 2147483648 := by
  unfold cut31
  by_cases e : x ≤ 2147483648
  · rw [if_pos e]; omega
  · rw [if_neg e]

set_option maxRecDepth 100000 in
theorem binomial_ok (n k : Nat) (w : World) (hn : n ≤ 1000000031) (hk : k ≤ 30) (hkn : k ≤ n) :
    Calls Try.prog 47 #[.int .i64 n, .int .i64 k] w fun e w' => e = .returned (.int .i64 (cut31 (bin n k) : Nat)) ∧ w = w' := by
  obtain ⟨d, hd⟩ : ∃ d, n = d + k := ⟨n - k, by omega⟩
  have hnd : (n : Int) - (k : Int) = (d : Int) := by omega
  obtain ⟨B, hB⟩ : ∃ B : Nat → Nat, B = fun j => bin (d + j) j := ⟨_, rfl⟩
  have HA' : Hid (∀ j, B j * (d + j + 1) = B (j + 1) * (j + 1)) := hid (fun j => by rw [hB]; exact (bin_absorb (d + j) j).symm)
  have HMO : Hid (∀ a b, a ≤ b → B a ≤ B b) := hid (fun a b h => by rw [hB]; exact diag_mono d h)
  have H0' : Hid (B 0 = 1) := hid (by rw [hB]; exact bin_zero _)
  have HK' : bin n k = B k := by rw [hB, hd]
  rw [HK']
  have hdk : d ≤ 1000000031 := by omega
  have HDK := hid hd
  have hkn' : ¬ (n : Int) < (k : Int) := by omega
  clear HK' hB hd
  obtain ⟨R, hR⟩ : ∃ R, R = cut31 (B k) := ⟨_, rfl⟩
  have HBIG : Hid (2147483648 ≤ B k → R = 2147483648) := hid (fun h => by rw [hR]; exact cut31_big h)
  have HSM : Hid (B k ≤ 2147483648 → R = B k) := hid (fun h => by rw [hR]; exact cut31_small h)
  rw [← hR]
  clear hR
  go_enter Try.func47, Try.ntmps47
  go_wp2
  go_loop [5, 6] (fun o i => ∃ j : Nat, j ≤ k ∧ i = .int .i64 ((j : Int) + 1) ∧ o = .int .i64 (B j : Nat) ∧ B j ≤ 2147483648) (fun _ i => k + 2 - (intOf i).toNat)
  case atStart => exact ⟨0, Nat.zero_le _, rfl, by rw [H0'.out]; rfl, by rw [H0'.out]; omega⟩
  case round =>
    obtain ⟨j, hj, rfl, rfl, hbj⟩ := hrel
    by_cases hlt : j < k
    · have hA := HA'.out j
      have HBK := hid (HMO.out (j + 1) k (by omega))
      obtain ⟨p, hp⟩ : ∃ p, p = B j * (d + j + 1) := ⟨_, rfl⟩
      have hpb : p ≤ 2147483648 * 1000000062 := by rw [hp]; exact Nat.mul_le_mul hbj (by omega)
      have hpi : (B j : Int) * ((d : Int) + ((j : Int) + 1)) = (p : Int) := by rw [hp, Int.natCast_mul]; congr 1
      have hdv : (p : Int).tdiv ((j : Int) + 1) = (B (j + 1) : Int) := by
        rw [hp, hA, show (j : Int) + 1 = ((j + 1 : Nat) : Int) by omega, ← Int.ofNat_tdiv, Nat.mul_div_cancel _ (by omega)]
      have hbp : B (j + 1) ≤ p := by rw [hp, hA]; exact Nat.le_mul_of_pos_right _ (by omega)
      have hj0 : ¬ (j : Int) + 1 = 0 := by omega
      clear hA hp
      by_cases hbig : 2147483648 < B (j + 1)
      · have HR : Hid (R = 2147483648) := hid (HBIG.out (Nat.le_trans (Nat.le_of_lt hbig) HBK.out))
        have hbig' : (2147483648 : Int) < (B (j + 1) : Int) := by omega
        generalize B (j + 1) = b1 at *
        go_wp2
        go_ret
        exact ⟨by rw [HR.out]; rfl, rfl⟩
      · have hsm : B (j + 1) ≤ 2147483648 := by omega
        have hsm' : ¬ (2147483648 : Int) < (B (j + 1) : Int) := by omega
        have HB1 := hid hsm
        obtain ⟨b1, hb1⟩ : ∃ b1, b1 = B (j + 1) := ⟨_, rfl⟩
        rw [← hb1] at hdv hsm hsm' hbp hbig
        have HB2 := hid hb1
        clear hb1
        go_wp2
        go_round
        case rel => exact ⟨j + 1, by omega, by go_num, by rw [HB2.out], HB1.out⟩
        case measure => simp [intOf] <;> omega
    · obtain rfl : j = k := by omega
      have HR := hid (HSM.out hbj)
      go_wp2
      go_ret
      exact ⟨by rw [HR.out]; rfl, rfl⟩
end Go.Proofs.Ytdbfmjlnalaobaa
