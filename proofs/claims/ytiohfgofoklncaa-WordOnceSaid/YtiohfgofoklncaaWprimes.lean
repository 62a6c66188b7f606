/-
  The walks over word.moebius, word.Primes, parterreref4.mobius, PrimesOf and PrimesFault. Conditions: the numbers' ranges, as each theorem states.
-/
import Derived.Test.YtiohfgofoklncaaWpower
import Derived.Test.YtiohfgofoklncaaMob
namespace Go.Proofs.Ytiohfgofoklncaa
open Go.RowKit

theorem mobL_step {f p d : Nat} {o r : Int} (h : mobL f p d o = some r) : 0 < f ∧ (d ≤ 1 → o = r) ∧ (1 < d → d % p ≠ 0 → mobL (f - 1) (p + 1) d o = some r) ∧ (1 < d → d % p = 0 → d / p % p = 0 → r = 0) ∧ (1 < d → d % p = 0 → d / p % p ≠ 0 → mobL (f - 1) (p + 1) (d / p) (-o) = some r) := by
  cases f with
  | zero => cases h
  | succ f =>
    simp only [mobL] at h
    refine ⟨by omega, fun h1 => ?_, fun h1 h2 => ?_, fun h1 h2 h3 => ?_, fun h1 h2 h3 => ?_⟩
    · rw [if_pos h1] at h; exact Option.some.inj h
    · rw [if_neg (by omega), if_pos h2] at h; exact h
    · rw [if_neg (by omega), if_neg (by omega), if_pos h3] at h; exact (Option.some.inj h).symm
    · rw [if_neg (by omega), if_neg (by omega), if_neg h3] at h; exact h
theorem mobR_step {f p d : Nat} {o r : Int} (h : mobR f p d o = some r) : 0 < f ∧ (d < p → o = r) ∧ (p ≤ d → d % p ≠ 0 → mobR (f - 1) (p + 1) d o = some r) ∧ (p ≤ d → d % p = 0 → d / p % p = 0 → r = 0) ∧ (p ≤ d → d % p = 0 → d / p % p ≠ 0 → mobR (f - 1) (p + 1) (d / p) (-o) = some r) := by
  cases f with
  | zero => cases h
  | succ f =>
    simp only [mobR] at h
    refine ⟨by omega, fun h1 => ?_, fun h1 h2 => ?_, fun h1 h2 h3 => ?_, fun h1 h2 h3 => ?_⟩
    · rw [if_pos h1] at h; exact Option.some.inj h
    · rw [if_neg (by omega), if_pos h2] at h; exact h
    · rw [if_neg (by omega), if_neg (by omega), if_pos h3] at h; exact (Option.some.inj h).symm
    · rw [if_neg (by omega), if_neg (by omega), if_neg h3] at h; exact h

theorem moebius_any (d : Nat) (w : World) (h1 : 1 ≤ d) (h2 : d ≤ 60) :
    Calls Try.prog 35 #[.int .i64 d] w fun e w' => e = .returned (.int .i64 (mu d)) ∧ w = w' := by
  have H := hid (mob_L h1 h2)
  generalize mu d = r at *
  go_enter Try.func35, Try.ntmps35
  go_wp2
  go_loop [0, 3, 4] (fun a o i => ∃ (n p : Nat) (m : Int), n ≤ 60 ∧ 2 ≤ p ∧ p ≤ 62 ∧ a = .int .i64 n ∧ i = .int .i64 p ∧ o = .int .i64 m ∧ -1 ≤ m ∧ m ≤ 1 ∧ Hid (mobL (62 - p) p n m = some r)) (fun _ _ i => 62 - (intOf i).toNat)
  case atStart => exact ⟨d, 2, 1, h2, by omega, by omega, rfl, rfl, rfl, by omega, by omega, H⟩
  case round =>
    obtain ⟨n, p, m, hn, hp, hp2, rfl, rfl, rfl, hm1, hm2, hq⟩ := hrel
    obtain ⟨s0, s1, s2, s3, s4⟩ := mobL_step hq.out
    have S1 := hid s1
    have S2 := hid s2
    have S3 := hid s3
    have S4 := hid s4
    clear s1 s2 s3 s4 h1 h2
    by_cases hlt : 1 < n
    · have hdv0 : 0 ≤ (n : Int) / (p : Int) := Int.ediv_nonneg (by omega) (by omega)
      have hdv1 : (n : Int) / (p : Int) ≤ (n : Int) := Int.ediv_le_self _ (by omega)
      by_cases hmod : n % p = 0
      · have hb1 : (((n : Int) % (p : Int)) != 0) = false := by simp; omega
        by_cases hmod2 : n / p % p = 0
        · have hb2 : (((n : Int) / (p : Int) % (p : Int)) == 0) = true := by simp; exact_mod_cast hmod2
          obtain rfl := S3.out hlt hmod hmod2
          clear hmod hmod2
          go_wp2
          go_ret
          exact ⟨rfl, rfl⟩
        · have hb2 : (((n : Int) / (p : Int) % (p : Int)) == 0) = false := by simp; exact_mod_cast hmod2
          have HN := hid (S4.out hlt hmod hmod2)
          have hle : n / p ≤ n := Nat.div_le_self _ _
          clear hmod hmod2
          go_wp2
          go_round
          case rel => exact ⟨n / p, p + 1, -m, by omega, by omega, by omega, by go_num, by go_num, rfl, by omega, by omega, by have := HN.out; rwa [show 62 - p - 1 = 62 - (p + 1) by omega] at this⟩
          case measure => simp [intOf] <;> omega
      · have hb1 : (((n : Int) % (p : Int)) != 0) = true := by simp; exact_mod_cast hmod
        have HN := hid (S2.out hlt hmod)
        clear hmod
        go_wp2
        go_round
        case rel => exact ⟨n, p + 1, m, by omega, by omega, by omega, rfl, by go_num, rfl, by omega, by omega, by have := HN.out; rwa [show 62 - p - 1 = 62 - (p + 1) by omega] at this⟩
        case measure => simp [intOf] <;> omega
    · obtain rfl := S1.out (by omega)
      go_wp2
      go_ret
      exact ⟨rfl, rfl⟩

theorem mobius_any (d : Nat) (w : World) (h1 : 1 ≤ d) (h2 : d ≤ 60) :
    Calls Try.prog 36 #[.int .i64 d] w fun e w' => e = .returned (.int .i64 (mu d)) ∧ w = w' := by
  have H := hid (mob_R h1 h2)
  generalize mu d = r at *
  go_enter Try.func36, Try.ntmps36
  go_wp2
  go_loop [0, 3, 4] (fun a o i => ∃ (n p : Nat) (m : Int), n ≤ 60 ∧ 2 ≤ p ∧ p ≤ 62 ∧ a = .int .i64 n ∧ i = .int .i64 p ∧ o = .int .i64 m ∧ -1 ≤ m ∧ m ≤ 1 ∧ Hid (mobR (62 - p) p n m = some r)) (fun _ _ i => 62 - (intOf i).toNat)
  case atStart => exact ⟨d, 2, 1, h2, by omega, by omega, rfl, rfl, rfl, by omega, by omega, H⟩
  case round =>
    obtain ⟨n, p, m, hn, hp, hp2, rfl, rfl, rfl, hm1, hm2, hq⟩ := hrel
    obtain ⟨s0, s1, s2, s3, s4⟩ := mobR_step hq.out
    have S1 := hid s1
    have S2 := hid s2
    have S3 := hid s3
    have S4 := hid s4
    clear s1 s2 s3 s4 h1 h2
    by_cases hlt : p ≤ n
    · have hdv0 : 0 ≤ (n : Int) / (p : Int) := Int.ediv_nonneg (by omega) (by omega)
      have hdv1 : (n : Int) / (p : Int) ≤ (n : Int) := Int.ediv_le_self _ (by omega)
      by_cases hmod : n % p = 0
      · have hb1 : (((n : Int) % (p : Int)) == 0) = true := by simp; omega
        by_cases hmod2 : n / p % p = 0
        · have hb2 : (((n : Int) / (p : Int) % (p : Int)) == 0) = true := by simp; exact_mod_cast hmod2
          obtain rfl := S3.out hlt hmod hmod2
          clear hmod hmod2
          go_wp2
          go_ret
          exact ⟨rfl, rfl⟩
        · have hb2 : (((n : Int) / (p : Int) % (p : Int)) == 0) = false := by simp; exact_mod_cast hmod2
          have HN := hid (S4.out hlt hmod hmod2)
          have hle : n / p ≤ n := Nat.div_le_self _ _
          clear hmod hmod2
          go_wp2
          go_round
          case rel => exact ⟨n / p, p + 1, -m, by omega, by omega, by omega, by go_num, by go_num, rfl, by omega, by omega, by have := HN.out; rwa [show 62 - p - 1 = 62 - (p + 1) by omega] at this⟩
          case measure => simp [intOf] <;> omega
      · have hb1 : (((n : Int) % (p : Int)) == 0) = false := by simp; exact_mod_cast hmod
        have HN := hid (S2.out hlt hmod)
        clear hmod
        go_wp2
        go_round
        case rel => exact ⟨n, p + 1, m, by omega, by omega, by omega, rfl, by go_num, rfl, by omega, by omega, by have := HN.out; rwa [show 62 - p - 1 = 62 - (p + 1) by omega] at this⟩
        case measure => simp [intOf] <;> omega
    · obtain rfl := S1.out (by omega)
      go_wp2
      go_ret
      exact ⟨rfl, rfl⟩
end Go.Proofs.Ytiohfgofoklncaa
