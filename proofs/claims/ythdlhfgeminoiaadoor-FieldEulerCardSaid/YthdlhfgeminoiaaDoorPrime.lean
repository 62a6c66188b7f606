/-
  The walk over parterreref1.IsPrime. Condition: the number is one of 64 bits.
-/
import Derived.Test.YthdlhfgeminoiaaDoorRing
import Derived.Test.YthdlhfgeminoiaaDoorBase
namespace Go.Proofs.YthdlhfgeminoiaaDoor
set_option linter.unusedVariables false
open Go.RowKit

theorem prime_any (n : Int) (w : World) (_ : I64 n) :
    Calls Tryd.prog 52 #[.int .i64 n] w fun e w' => e = .returned (.bool (primeB n.toNat)) ∧ w = w' := by
  by_cases h : n < 2 ∨ 100000 < n
  · rw [prime_lo (by omega)]
    by_cases h1 : n < 2
    · go_enter Tryd.func52, Tryd.ntmps52
      go_wp2
      all_goals (go_ret; exact ⟨rfl, rfl⟩)
    · have h2 : 100000 < n := by omega
      go_enter Tryd.func52, Tryd.ntmps52
      go_wp2
      all_goals (go_ret; exact ⟨rfl, rfl⟩)
  · obtain ⟨n, rfl⟩ : ∃ m : Nat, n = (m : Int) := ⟨n.toNat, by omega⟩
    rw [Int.toNat_natCast]
    have h1 : 2 ≤ n := by omega
    have h2 : n ≤ 100000 := by omega
    obtain ⟨b, hb⟩ : ∃ b, b = primeB n := ⟨_, rfl⟩
    rw [← hb]
    have HB := hid hb
    clear h hb
    go_enter Tryd.func52, Tryd.ntmps52
    go_wp2
    go_loop [3] (fun i => ∃ d : Nat, 2 ≤ d ∧ d ≤ 100000 ∧ i = .int .i64 d ∧ Hid (∀ e, 2 ≤ e → e < d → n % e ≠ 0)) (fun i => 100001 - (intOf i).toNat)
    case atStart => exact ⟨2, by omega, by omega, rfl, hid (fun e h1 h2 => by omega)⟩
    case round =>
      obtain ⟨d, hd1, hd2, rfl, hd⟩ := hrel
      have hdd : ((d * d : Nat) : Int) = (d : Int) * (d : Int) := by simp
      have hdd2 : d * d ≤ 100000 * 100000 := Nat.mul_le_mul hd2 hd2
      have hdd3 : 2 * d ≤ d * d := Nat.mul_le_mul_right _ hd1
      by_cases hlt : d * d ≤ n
      · have g1 : (d : Int) * (d : Int) ≤ (n : Int) := by omega
        have g2 : 0 ≤ (d : Int) * (d : Int) := by omega
        have g3 : 0 ≤ (n : Int) % (d : Int) := Int.emod_nonneg _ (by omega)
        by_cases hm : n % d = 0
        · have hb1 : (((n : Int) % (d : Int)) == 0) = true := by simp; omega
          obtain rfl : b = false := by rw [HB.out]; exact prime_no hd1 hlt hm
          clear hdd hm HB
          go_wp2
          go_ret
          exact ⟨rfl, rfl⟩
        · have hb1 : (((n : Int) % (d : Int)) == 0) = false := by simp; omega
          have HD : Hid (∀ e, 2 ≤ e → e < d + 1 → n % e ≠ 0) := hid (fun e h1 h2 => by
            by_cases h3 : e = d
            · subst h3; exact hm
            · exact hd.out e h1 (by omega))
          have hd3 : d + 1 ≤ 100000 := by omega
          clear hdd hm hd hdd2 hdd3 hlt
          go_wp2
          go_round
          case rel => exact ⟨d + 1, by omega, by omega, by go_num, HD⟩
          case measure => simp [intOf] <;> omega
      · have g1 : ¬ (d : Int) * (d : Int) ≤ (n : Int) := by omega
        have g2 : 0 ≤ (d : Int) * (d : Int) := by omega
        have g3 : (d : Int) * (d : Int) ≤ 10000000000 := by omega
        obtain rfl : b = true := by rw [HB.out]; exact prime_yes h1 h2 (by omega) hd.out
        clear hdd hd HB hdd2 hdd3 hlt
        go_wp2
        go_ret
        exact ⟨rfl, rfl⟩
end Go.Proofs.YthdlhfgeminoiaaDoor
