/-
  The walk over count.Bracelets. Conditions: the numbers' ranges, as each theorem states.
-/
import Derived.Test.YtlnfkkapepgilaaCbeads
namespace Go.Proofs.Ytlnfkkapepgilaa
set_option linter.unusedVariables false
open Go.RowKit

/-- Rings that are their own mirror. -/
def ownN (n k : Nat) : Nat := if n % 2 = 1 then k ^ ((n + 1) / 2) else (k ^ (n / 2) + k ^ (n / 2 + 1)) / 2
def bracN (n k : Nat) : Int := if k = 1 then 1 else (bsum k n n + (ownN n k : Int)) / 2
theorem own_even {n k : Nat} (h1 : 1 ≤ n) (h : n % 2 = 0) : (k ^ (n / 2) + k ^ (n / 2 + 1)) % 2 = 0 := by
  obtain ⟨m, hm⟩ : ∃ m, n / 2 = m + 1 := ⟨n / 2 - 1, by omega⟩
  rw [hm, Nat.pow_succ, Nat.pow_succ k (m + 1), Nat.pow_succ]
  generalize k ^ m = q
  rcases Nat.mod_two_eq_zero_or_one k with e | e
  · have h1 : q * k % 2 = 0 := by rw [Nat.mul_mod, e]; simp
    have h2 : q * k * k % 2 = 0 := by rw [Nat.mul_mod, e]; simp
    omega
  · have h2 : q * k * k % 2 = q * k % 2 := by rw [Nat.mul_mod, e]; simp
    omega
theorem brac_odd {n k : Nat} (h1 : 1 ≤ n) (hn : n < 61) (h : n % 2 = 1) : ((turnS k n n : Nat) : Int) + (n : Int) * ((k ^ ((n + 1) / 2) : Nat) : Int) = (n : Int) * (bsum k n n + (ownN n k : Int)) := by
  rw [turn_bsum k n hn, Int.mul_add]
  unfold ownN
  rw [if_pos h]
theorem brac_even {n k : Nat} (h1 : 1 ≤ n) (hn : n < 61) (h : n % 2 = 0) : ((turnS k n n : Nat) : Int) + ((n / 2 : Nat) : Int) * (((k ^ (n / 2) : Nat) : Int) + ((k ^ (n / 2 + 1) : Nat) : Int)) = (n : Int) * (bsum k n n + (ownN n k : Int)) := by
  rw [turn_bsum k n hn]
  have e := own_even (k := k) h1 h
  have hw : ((k ^ (n / 2) : Nat) : Int) + ((k ^ (n / 2 + 1) : Nat) : Int) = 2 * (ownN n k : Int) := by
    unfold ownN
    rw [if_neg (by omega)]
    omega
  have hn2 : (n : Int) = ((n / 2 : Nat) : Int) * 2 := by omega
  rw [hw, Int.mul_add, ← Int.mul_assoc, ← hn2]
theorem brac_div {n k : Nat} (h1 : 1 ≤ n) : (n : Int) * (bsum k n n + (ownN n k : Int)) / (2 * (n : Int)) = (bsum k n n + (ownN n k : Int)) / 2 := by
  rw [Int.mul_comm 2]
  exact Int.mul_ediv_mul_of_pos _ _ (by omega)

theorem Bracelets_bad (n k : Int) (w : World) (i1 : I64 n) (i2 : I64 k) (h : ringE n k ≠ 0) :
    Calls Try.prog 16 #[.int .i64 n, .int .i64 k] w fun e w' => e = .returned (.tuple #[.int .i64 0, .int .i64 (ringE n k)]) ∧ w = w' := by
  have hb : (ringE n k != 0) = true := by simpa using h
  have H := hid (ccheck_any n k w i1 i2)
  generalize ringE n k = z at *
  go_enter Try.func16, Try.ntmps16
  go_wp2_with fail
  refine H.out.mono ?_
  rintro e w' ⟨rfl, rfl⟩
  go_wp2
  go_ret2
  exact ⟨rfl, rfl⟩

theorem Bracelets_one (n : Nat) (w : World) (hn : 1 ≤ n) (i1 : I64 n) :
    Calls Try.prog 16 #[.int .i64 n, .int .i64 (1 : Nat)] w fun e w' => e = .returned (.tuple #[.int .i64 (bracN n 1), .int .i64 0]) ∧ ∃ m, w' = w.drewN m := by
  have H := hid (ccheck_any n (1 : Nat) w i1 (by unfold I64; omega))
  rw [ringE_ok hn (by omega) (by rw [Nat.one_pow]; omega)] at H
  have e1 : bracN n 1 = 1 := if_pos rfl
  rw [e1]
  go_enter Try.func16, Try.ntmps16
  go_wp2_with fail
  refine H.out.mono ?_
  rintro e w' ⟨rfl, rfl⟩
  go_wp2
  go_ret2
  exact ⟨rfl, 0, rfl⟩

set_option maxHeartbeats 1000000 in
theorem Bracelets_more (n k : Nat) (w : World) (hn : 1 ≤ n) (hk : 2 ≤ k) (i1 : I64 n) (i2 : I64 k) (h : k ^ n ≤ 1000000000000000000) :
    Calls Try.prog 16 #[.int .i64 n, .int .i64 k] w fun e w' => e = .returned (.tuple #[.int .i64 (bracN n k), .int .i64 0]) ∧ ∃ m, w' = w.drewN m := by
  have H := hid (ccheck_any n k w i1 i2)
  rw [ringE_ok hn (by omega) h] at H
  have e1 : bracN n k = (bsum k n n + (ownN n k : Int)) / 2 := if_neg (by omega)
  have hn60 := fits60 (k := k) (by omega) h
  rw [e1, ← brac_div hn]
  have hb : ((k : Int) == 1) = false := by simp; omega
  have HT := hid (fun w => turned_ok n k w (by omega) h)
  have hbd := turn_bd (k := k) (n := n) (by omega) h n (Nat.le_refl _)
  have hp1 : k ^ ((n + 1) / 2) ≤ 1000000000000000000 := Nat.le_trans (pow_upc (by omega) (by omega)) h
  have hp2 : k ^ (n / 2 + 1) ≤ 1000000000000000000 := Nat.le_trans (pow_upc (by omega) (by omega)) h
  have P1 := hid (fun w => cpower_ok k ((n + 1) / 2) w (by omega) hp1)
  have P2 := hid (fun w => cpower_ok k (n / 2 + 1) w (by omega) hp2)
  have hlow : n * k ^ ((n + 1) / 2) ≤ 3000000000000000000 := by
    by_cases h3 : n ≤ 2
    · have : n * k ^ ((n + 1) / 2) ≤ 2 * 1000000000000000000 := Nat.mul_le_mul h3 hp1
      omega
    · have h4 : k ^ ((n + 1) / 2) * k ≤ k ^ n := by
        rw [← pow_stepc]
        exact pow_upc (by omega) (by omega)
      have h6 : k ^ ((n + 1) / 2) * 2 ≤ k ^ ((n + 1) / 2) * k := Nat.mul_le_mul_left _ hk
      by_cases h7 : n ≤ 5
      · have : n * k ^ ((n + 1) / 2) ≤ 5 * k ^ ((n + 1) / 2) := Nat.mul_le_mul_right _ h7
        omega
      · have h5 : k ^ ((n + 1) / 2) * (k ^ 2) ≤ k ^ n := by
          rw [← Nat.pow_add]
          exact pow_upc (by omega) (by omega)
        by_cases h8 : n ≤ 11
        · have h9 : 2 ^ 2 ≤ k ^ 2 := Nat.pow_le_pow_left hk 2
          have h10 : k ^ ((n + 1) / 2) * 4 ≤ k ^ ((n + 1) / 2) * k ^ 2 := Nat.mul_le_mul_left _ h9
          have : n * k ^ ((n + 1) / 2) ≤ 11 * k ^ ((n + 1) / 2) := Nat.mul_le_mul_right _ h8
          omega
        · have h5 : k ^ ((n + 1) / 2) * (k ^ 5) ≤ k ^ n := by
            rw [← Nat.pow_add]
            exact pow_upc (by omega) (by omega)
          have h9 : 2 ^ 5 ≤ k ^ 5 := Nat.pow_le_pow_left hk 5
          have h10 : k ^ ((n + 1) / 2) * 32 ≤ k ^ ((n + 1) / 2) * k ^ 5 := Nat.mul_le_mul_left _ h9
          have : n * k ^ ((n + 1) / 2) ≤ 60 * k ^ ((n + 1) / 2) := Nat.mul_le_mul_right _ (by omega)
          omega
  have hlow2 : ((n * k ^ ((n + 1) / 2) : Nat) : Int) = (n : Int) * ((k ^ ((n + 1) / 2) : Nat) : Int) := by simp
  have hlow3 : 0 ≤ (n : Int) * ((k ^ ((n + 1) / 2) : Nat) : Int) := by omega
  have hlow4 : (n : Int) * ((k ^ ((n + 1) / 2) : Nat) : Int) ≤ 3000000000000000000 := by omega
  clear hlow hlow2
  rcases Nat.mod_two_eq_zero_or_one n with hpar | hpar
  · have hh : (n + 1) / 2 = n / 2 := by omega
    have E := brac_even (k := k) hn (by omega) hpar
    have hp1' := hp1
    rw [hh] at P1 hlow3 hlow4 hp1'
    have hbig : n / 2 * (k ^ (n / 2) + k ^ (n / 2 + 1)) ≤ 4000000000000000000 := by
      have h20 : n / 2 * k ^ (n / 2) ≤ n * k ^ (n / 2) := Nat.mul_le_mul_right _ (by omega)
      have h21 : n / 2 * k ^ (n / 2 + 1) ≤ 1000000000000000000 := by
        by_cases h3 : n ≤ 2
        · have : n / 2 * k ^ (n / 2 + 1) ≤ 1 * 1000000000000000000 := Nat.mul_le_mul (by omega) hp2
          omega
        · have h22 : n / 2 ≤ k ^ (n / 2 - 1) := by
            have h23 : 2 ^ (n / 2 - 1) ≤ k ^ (n / 2 - 1) := Nat.pow_le_pow_left hk _
            have h24 : n / 2 - 1 < 2 ^ (n / 2 - 1) := Nat.lt_two_pow_self
            omega
          have h25 : n / 2 * k ^ (n / 2 + 1) ≤ k ^ (n / 2 - 1) * k ^ (n / 2 + 1) := Nat.mul_le_mul_right _ h22
          rw [← Nat.pow_add, show n / 2 - 1 + (n / 2 + 1) = n by omega] at h25
          omega
      rw [Nat.mul_add]
      have h26 : ((n * k ^ (n / 2) : Nat) : Int) = (n : Int) * ((k ^ (n / 2) : Nat) : Int) := by simp
      omega
    have hb2 : ((n : Int) % 2 == 0) = true := by rw [beq_iff_eq]; omega
    rw [← E]
    have hc1 : ((n : Int) + 1) / 2 = ((n / 2 : Nat) : Int) := by omega
    have hc2 : (n : Int) / 2 + 1 = ((n / 2 + 1 : Nat) : Int) := by omega
    have hc3 : ((n / 2 : Nat) : Int) = (n : Int) / 2 := by omega
    have hbig2 : ((n / 2 * (k ^ (n / 2) + k ^ (n / 2 + 1)) : Nat) : Int) = ((n / 2 : Nat) : Int) * (((k ^ (n / 2) : Nat) : Int) + ((k ^ (n / 2 + 1) : Nat) : Int)) := by simp
    rw [hc3] at hbig2 ⊢
    have C1 := hid hc1
    have C2 := hid hc2
    clear E hh hc1 hc2 hc3 hp1
    generalize turnS k n n = T at *
    generalize k ^ (n / 2) = X at *
    generalize k ^ (n / 2 + 1) = Y at *
    have g1 : 0 ≤ (n : Int) / 2 * ((X : Int) + (Y : Int)) := by omega
    have g2 : (n : Int) / 2 * ((X : Int) + (Y : Int)) ≤ 4000000000000000000 := by omega
    have g3 : 0 ≤ ((T : Int) + (n : Int) / 2 * ((X : Int) + (Y : Int))) / (2 * (n : Int)) := Int.ediv_nonneg (by omega) (by omega)
    have g4 : ((T : Int) + (n : Int) / 2 * ((X : Int) + (Y : Int))) / (2 * (n : Int)) ≤ ((T : Int) + (n : Int) / 2 * ((X : Int) + (Y : Int))) := Int.ediv_le_self _ (by omega)
    clear hbig hbig2 hpar e1
    go_enter Try.func16, Try.ntmps16
    go_wp2_with fail
    refine H.out.mono ?_
    rintro e w' ⟨rfl, rfl⟩
    go_wp2_with fail
    rw [C1.out]
    refine (P1.out _).mono ?_
    rintro e w' ⟨rfl, rfl⟩
    go_wp2_with fail
    rw [C2.out]
    refine (P2.out _).mono ?_
    rintro e w' ⟨rfl, rfl⟩
    go_wp2_with fail
    refine (HT.out _).mono ?_
    rintro e w' ⟨rfl, m, rfl⟩
    go_wp2
    go_ret2
    exact ⟨rfl, m, rfl⟩
  · have E := brac_odd (k := k) hn (by omega) hpar
    have hb2 : ((n : Int) % 2 == 0) = false := by rw [beq_eq_false_iff_ne]; omega
    rw [← E]
    have hc1 : ((n : Int) + 1) / 2 = (((n + 1) / 2 : Nat) : Int) := by omega
    have hc2 : (n : Int) / 2 + 1 = ((n / 2 + 1 : Nat) : Int) := by omega
    have C1 := hid hc1
    have C2 := hid hc2
    clear E hc1 hc2
    generalize turnS k n n = T at *
    generalize k ^ ((n + 1) / 2) = X at *
    generalize k ^ (n / 2 + 1) = Y at *
    have g3 : 0 ≤ ((T : Int) + (n : Int) * (X : Int)) / (2 * (n : Int)) := Int.ediv_nonneg (by omega) (by omega)
    have g4 : ((T : Int) + (n : Int) * (X : Int)) / (2 * (n : Int)) ≤ (T : Int) + (n : Int) * (X : Int) := Int.ediv_le_self _ (by omega)
    clear hpar e1
    go_enter Try.func16, Try.ntmps16
    go_wp2_with fail
    refine H.out.mono ?_
    rintro e w' ⟨rfl, rfl⟩
    go_wp2_with fail
    rw [C1.out]
    refine (P1.out _).mono ?_
    rintro e w' ⟨rfl, rfl⟩
    go_wp2_with fail
    rw [C2.out]
    refine (P2.out _).mono ?_
    rintro e w' ⟨rfl, rfl⟩
    go_wp2_with fail
    refine (HT.out _).mono ?_
    rintro e w' ⟨rfl, m, rfl⟩
    go_wp2
    go_ret2
    exact ⟨rfl, m, rfl⟩
theorem Bracelets_ok (n k : Nat) (w : World) (hn : 1 ≤ n) (hk : 1 ≤ k) (i1 : I64 n) (i2 : I64 k) (h : k ^ n ≤ 1000000000000000000) :
    Calls Try.prog 16 #[.int .i64 n, .int .i64 k] w fun e w' => e = .returned (.tuple #[.int .i64 (bracN n k), .int .i64 0]) ∧ ∃ m, w' = w.drewN m := by
  by_cases h1 : k = 1
  · subst h1; exact Bracelets_one n w hn i1
  · exact Bracelets_more n k w hn (by omega) i1 i2 h
end Go.Proofs.Ytlnfkkapepgilaa
