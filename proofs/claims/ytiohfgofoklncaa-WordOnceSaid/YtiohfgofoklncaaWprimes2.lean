/-
  The walks over word.Primes, parterreref4.PrimesOf and PrimesFault. Conditions: the numbers' ranges, as each theorem states.
-/
import Derived.Test.YtiohfgofoklncaaWprimes
namespace Go.Proofs.Ytiohfgofoklncaa
open Go.RowKit

theorem primesfault_range (k n : Int) (w : World) (h : k < 1 ∨ n < 1 ∨ 60 < n) :
    Calls Try.prog 21 #[.int .i64 k, .int .i64 n] w fun e w' => e = .returned (.int .i64 1) ∧ w = w' := by
  by_cases h1 : k < 1
  · go_enter Try.func21, Try.ntmps21
    go_wp2
    all_goals (go_ret; exact ⟨rfl, rfl⟩)
  by_cases h2 : n < 1
  · go_enter Try.func21, Try.ntmps21
    go_wp2
    all_goals (go_ret; exact ⟨rfl, rfl⟩)
  · have h3 : 60 < n := by omega
    go_enter Try.func21, Try.ntmps21
    go_wp2
    all_goals (go_ret; exact ⟨rfl, rfl⟩)

theorem primesfault_full (k n : Nat) (w : World) (hk : 1 ≤ k) (hn1 : 1 ≤ n) (hn : n ≤ 60) (h : 1000000000000000000 < k ^ n) :
    Calls Try.prog 21 #[.int .i64 k, .int .i64 n] w fun e w' => e = .returned (.int .i64 3) ∧ w = w' := by
  obtain ⟨r, hr⟩ : ∃ r, r = k ^ n := ⟨_, rfl⟩
  rw [← hr] at h
  have HR := hid hr
  clear hr
  go_enter Try.func21, Try.ntmps21
  go_wp2
  go_loop [5, 6] (fun o i => ∃ j p : Nat, j ≤ n ∧ i = .int .i64 j ∧ o = .int .i64 p ∧ Hid (p = k ^ j) ∧ p ≤ 1000000000000000000) (fun _ i => n - (intOf i).toNat)
  case atStart => exact ⟨0, 1, Nat.zero_le _, rfl, rfl, hid rfl, by omega⟩
  case round =>
    obtain ⟨j, p, hj, rfl, rfl, hp, hpz⟩ := hrel
    by_cases hlt : j < n
    · by_cases h1 : (1000000000000000000 : Int) / (k : Int) < (p : Int)
      · go_wp2
        go_ret
        exact ⟨rfl, rfl⟩
      · have h4 : ((p * k : Nat) : Int) ≤ 1000000000000000000 := by rw [pow_div hk] at h1; omega
        have h5 : ((p * k : Nat) : Int) = (p : Int) * (k : Int) := by simp
        have h2 : (p : Int) * (k : Int) ≤ 1000000000000000000 := by omega
        have h3 : 0 ≤ (p : Int) * (k : Int) := Int.mul_nonneg (by omega) (by omega)
        have H4 : Hid (p * k ≤ 1000000000000000000) := hid (by omega)
        clear h4 h5
        go_wp2
        go_round
        case rel => exact ⟨j + 1, p * k, by omega, by go_num, by simp, hid (by rw [hp.out, pow_step]), H4.out⟩
        case measure => simp [intOf] <;> omega
    · exfalso
      obtain rfl : j = n := by omega
      obtain rfl : p = r := by rw [hp.out, HR.out]
      omega

theorem primesfault_ok (k n : Nat) (w : World) (hk : 1 ≤ k) (hn1 : 1 ≤ n) (hn : n ≤ 60) (h : k ^ n ≤ 1000000000000000000) :
    Calls Try.prog 21 #[.int .i64 k, .int .i64 n] w fun e w' => e = .returned (.int .i64 0) ∧ w = w' := by
  obtain ⟨r, hr⟩ : ∃ r, r = k ^ n := ⟨_, rfl⟩
  rw [← hr] at h
  have HR := hid hr
  clear hr
  go_enter Try.func21, Try.ntmps21
  go_wp2
  go_loop [5, 6] (fun o i => ∃ j p : Nat, j ≤ n ∧ i = .int .i64 j ∧ o = .int .i64 p ∧ Hid (p = k ^ j)) (fun _ i => n - (intOf i).toNat)
  case atStart => exact ⟨0, 1, Nat.zero_le _, rfl, rfl, hid rfl⟩
  case round =>
    obtain ⟨j, p, hj, rfl, rfl, hp⟩ := hrel
    by_cases hlt : j < n
    · have hpk : p * k ≤ r := by rw [hp.out, ← pow_step, HR.out]; exact pow_up hk hlt
      have h5 : ((p * k : Nat) : Int) = (p : Int) * (k : Int) := by simp
      have h1 : ¬ (1000000000000000000 : Int) / (k : Int) < (p : Int) := by rw [pow_div hk]; omega
      have h2 : (p : Int) * (k : Int) ≤ 1000000000000000000 := by omega
      have h3 : 0 ≤ (p : Int) * (k : Int) := Int.mul_nonneg (by omega) (by omega)
      clear hpk h5
      go_wp2
      go_round
      case rel => exact ⟨j + 1, p * k, by omega, by go_num, by simp, hid (by rw [hp.out, pow_step])⟩
      case measure => simp [intOf] <;> omega
    · go_wp2
      go_ret
      exact ⟨rfl, rfl⟩

theorem Primes_range (k n : Int) (w : World) (h : k < 1 ∨ n < 1 ∨ 60 < n) :
    Calls Try.prog 22 #[.int .i64 k, .int .i64 n] w fun e w' => e = .returned (.tuple #[.int .i64 0, .int .i64 1]) ∧ w = w' := by
  by_cases h1 : k < 1
  · go_enter Try.func22, Try.ntmps22
    go_wp2
    all_goals (go_ret2; exact ⟨rfl, rfl⟩)
  by_cases h2 : n < 1
  · go_enter Try.func22, Try.ntmps22
    go_wp2
    all_goals (go_ret2; exact ⟨rfl, rfl⟩)
  · have h3 : 60 < n := by omega
    go_enter Try.func22, Try.ntmps22
    go_wp2
    all_goals (go_ret2; exact ⟨rfl, rfl⟩)

theorem Primes_full (k n : Nat) (w : World) (hk : 1 ≤ k) (hn1 : 1 ≤ n) (hn : n ≤ 60) (h : 1000000000000000000 < k ^ n) :
    Calls Try.prog 22 #[.int .i64 k, .int .i64 n] w fun e w' => e = .returned (.tuple #[.int .i64 0, .int .i64 3]) ∧ w = w' := by
  have H := hid h
  clear h
  go_enter Try.func22, Try.ntmps22
  go_wp2_with fail
  refine (power_no k n _ w hk (by decide) (by decide) (by omega) (by have := H.out; omega)).mono ?_
  rintro e w' ⟨rfl, rfl⟩
  go_wp2
  go_ret2
  exact ⟨rfl, rfl⟩

theorem Primes_ok (k n : Nat) (w : World) (hk : 1 ≤ k) (hn1 : 1 ≤ n) (hn : n ≤ 60) (h : k ^ n ≤ 1000000000000000000) :
    Calls Try.prog 22 #[.int .i64 k, .int .i64 n] w fun e w' => e = .returned (.tuple #[.int .i64 ((sumA k n n).tdiv n), .int .i64 0]) ∧ w = w' := by
  have H := hid h
  clear h
  go_enter Try.func22, Try.ntmps22
  go_wp2_with fail
  refine (power_ok k n _ w hk (by decide) (by decide) (by omega) (by have := H.out; omega)).mono ?_
  rintro e w' ⟨rfl, rfl⟩
  go_wp2
  go_loop [8, 9] (fun s i => ∃ (d : Nat) (z : Int), 1 ≤ d ∧ d ≤ n + 1 ∧ i = .int .i64 d ∧ s = .int .i64 z ∧ Hid (z = sumA k n (d - 1))) (fun _ i => n + 1 - (intOf i).toNat)
  case atStart => exact ⟨1, 0, by omega, by omega, rfl, rfl, hid rfl⟩
  case round =>
    obtain ⟨d, z, hd1, hd2, rfl, rfl, hz⟩ := hrel
    by_cases hlt : d ≤ n
    · have hbd := sumA_bd hk hn H.out (d - 1) (by omega)
      rw [← hz.out] at hbd
      have hbd1 := hbd.1
      have hbd3 := hbd.2.1
      have hbd2 := sumA_bd hk hn H.out d hlt
      have hs : sumA k n d = z + if n % d = 0 then mu d * ((k ^ (n / d) : Nat) : Int) else 0 := by
        rw [hz.out]
        obtain ⟨e, rfl⟩ : ∃ e, d = e + 1 := ⟨d - 1, by omega⟩
        rfl
      by_cases hd : n % d = 0
      · have hb1 : (((n : Int) % (d : Int)) == 0) = true := by simp; exact_mod_cast hd
        rw [if_pos hd] at hs
        have hq1 : 1 ≤ n / d := by rw [Nat.le_div_iff_mul_le (by omega)]; omega
        have hq2 : n / d ≤ n := Nat.div_le_self _ _
        have hpw : k ^ (n / d) ≤ 1000000000000000000 := Nat.le_trans (pow_up hk hq2) H.out
        have hqc : ((n / d : Nat) : Int) = (n : Int) / (d : Int) := by simp
        have hmu := mu_bd (d := d) hd1 (by omega)
        have hmm := mul_mu hmu.1 hmu.2 hpw
        have hi1 : 0 ≤ (n : Int) / (d : Int) := by omega
        have hi2 : (n : Int) / (d : Int) ≤ 60 := by omega
        rw [hs] at hbd2
        obtain ⟨hx1, hx2, _⟩ := hbd2
        obtain ⟨hm1, hm2⟩ := hmm
        have HS := hid hs
        have HC := hid hqc
        have HP := hid hpw
        clear hs hqc hpw hbd hd
        go_wp2_with fail
        rw [← HC.out]
        refine (power_ok k (n / d) _ w hk (by decide) (by decide) (by omega) (by have := HP.out; omega)).mono ?_
        rintro e w' ⟨rfl, rfl⟩
        generalize k ^ (n / d) = P at *
        go_wp2_with fail
        refine (moebius_any d w hd1 (by omega)).mono ?_
        rintro e w' ⟨rfl, rfl⟩
        generalize mu d = m at *
        go_wp2
        go_round
        case rel => exact ⟨d + 1, z + m * (P : Int), by omega, by omega, by go_num, by go_num, hid (by rw [← HS.out]; rfl)⟩
        case measure => simp [intOf] <;> omega
      · have hb1 : (((n : Int) % (d : Int)) == 0) = false := by simp; exact_mod_cast hd
        rw [if_neg hd] at hs
        have HS := hid hs
        clear hs hbd hbd2 hd
        go_wp2
        go_round
        case rel => exact ⟨d + 1, z, by omega, by omega, by go_num, rfl, hid (by have := HS.out; simp only [Nat.add_sub_cancel]; omega)⟩
        case measure => simp [intOf] <;> omega
    · obtain rfl : d = n + 1 := by omega
      have hbd := sumA_bd hk hn H.out n (Nat.le_refl _)
      obtain rfl : z = sumA k n n := hz.out
      obtain ⟨hx1, hx2, _⟩ := hbd
      go_wp2
      go_ret2
      exact ⟨rfl, rfl⟩

/-- k times itself, d times. -/
theorem PrimesOf_ok (k n : Nat) (w : World) (hk : 1 ≤ k) (hn1 : 1 ≤ n) (hn : n ≤ 60) (h : k ^ n ≤ 1000000000000000000) :
    Calls Try.prog 23 #[.int .i64 k, .int .i64 n] w fun e w' => e = .returned (.int .i64 ((sumB k n n).tdiv n)) ∧ w = w' := by
  have H := hid h
  clear h
  go_enter Try.func23, Try.ntmps23
  go_wp2
  go_loop [5, 6] (fun s i => ∃ (d : Nat) (z : Int), 1 ≤ d ∧ d ≤ n + 1 ∧ i = .int .i64 d ∧ s = .int .i64 z ∧ Hid (z = sumB k n (d - 1))) (fun _ i => n + 1 - (intOf i).toNat)
  case atStart => exact ⟨1, 0, by omega, by omega, rfl, rfl, hid rfl⟩
  case round =>
    obtain ⟨d, z, hd1, hd2, rfl, rfl, hz⟩ := hrel
    by_cases hlt : d ≤ n
    · have hbd := sumB_bd hk hn H.out (d - 1) (by omega)
      rw [← hz.out] at hbd
      have hbd1 := hbd.1
      have hbd3 := hbd.2.1
      have hbd2 := sumB_bd hk hn H.out d hlt
      have hs : sumB k n d = z + if n % d = 0 then mu (n / d) * ((k ^ d : Nat) : Int) else 0 := by
        rw [hz.out]
        obtain ⟨e, rfl⟩ : ∃ e, d = e + 1 := ⟨d - 1, by omega⟩
        rfl
      by_cases hd : n % d = 0
      · have hb1 : (((n : Int) % (d : Int)) == 0) = true := by simp; exact_mod_cast hd
        rw [if_pos hd] at hs
        have hq1 : 1 ≤ n / d := by rw [Nat.le_div_iff_mul_le (by omega)]; omega
        have hq2 : n / d ≤ n := Nat.div_le_self _ _
        have hpw : k ^ d ≤ 1000000000000000000 := Nat.le_trans (pow_up hk hlt) H.out
        have hqc : ((n / d : Nat) : Int) = (n : Int) / (d : Int) := by simp
        have hmu := mu_bd (d := n / d) hq1 (by omega)
        have hmm := mul_mu hmu.1 hmu.2 hpw
        have hi1 : 0 ≤ (n : Int) / (d : Int) := by omega
        have hi2 : (n : Int) / (d : Int) ≤ 60 := by omega
        rw [hs] at hbd2
        obtain ⟨hx1, hx2, _⟩ := hbd2
        obtain ⟨hm1, hm2⟩ := hmm
        have HS := hid hs
        have HC := hid hqc
        have HP := hid hpw
        clear hs hqc hpw hbd hd
        go_wp2
        go_loop [7, 8] (fun o i => ∃ j p : Nat, j ≤ d ∧ i = .int .i64 j ∧ o = .int .i64 p ∧ Hid (p = k ^ j)) (fun _ i => d - (intOf i).toNat)
        case atStart => exact ⟨0, 1, Nat.zero_le _, rfl, rfl, hid rfl⟩
        case round =>
          obtain ⟨j, p, hj, rfl, rfl, hp⟩ := hrel
          by_cases hlt2 : j < d
          · have hpk : p * k ≤ k ^ d := by rw [hp.out, ← pow_step]; exact pow_up hk hlt2
            have hpk2 : p * k ≤ 1000000000000000000 := Nat.le_trans hpk HP.out
            have h5 : ((p * k : Nat) : Int) = (p : Int) * (k : Int) := by simp
            have h2 : (p : Int) * (k : Int) ≤ 1000000000000000000 := by omega
            have h3 : 0 ≤ (p : Int) * (k : Int) := Int.mul_nonneg (by omega) (by omega)
            clear hpk h5 hpk2
            go_wp2
            go_round
            case rel => exact ⟨j + 1, p * k, by omega, by go_num, by simp, hid (by rw [hp.out, pow_step])⟩
            case measure => simp [intOf] <;> omega
          · obtain rfl : j = d := by omega
            rw [← hp.out] at hm1 hm2 hx1 hx2
            have HS2 := hid (show sumB k n j = z + mu (n / j) * (p : Int) by rw [hp.out]; exact HS.out)
            clear HS HP hp
            go_wp2_with fail
            rw [← HC.out]
            refine (mobius_any (n / j) w hq1 (by omega)).mono ?_
            rintro e w' ⟨rfl, rfl⟩
            generalize mu (n / j) = m at *
            go_wp2
            go_round
            case rel => exact ⟨j + 1, z + m * (p : Int), by omega, by omega, by go_num, by go_num, hid (by rw [← HS2.out]; rfl)⟩
            case measure => simp [intOf] <;> omega
      · have hb1 : (((n : Int) % (d : Int)) == 0) = false := by simp; exact_mod_cast hd
        rw [if_neg hd] at hs
        have HS := hid hs
        clear hs hbd hbd2 hd
        go_wp2
        go_round
        case rel => exact ⟨d + 1, z, by omega, by omega, by go_num, rfl, hid (by have := HS.out; simp only [Nat.add_sub_cancel]; omega)⟩
        case measure => simp [intOf] <;> omega
    · obtain rfl : d = n + 1 := by omega
      have hbd := sumB_bd hk hn H.out n (Nat.le_refl _)
      obtain rfl : z = sumB k n n := hz.out
      obtain ⟨hx1, hx2, _⟩ := hbd
      go_wp2
      go_ret
      exact ⟨rfl, rfl⟩
end Go.Proofs.Ytiohfgofoklncaa
