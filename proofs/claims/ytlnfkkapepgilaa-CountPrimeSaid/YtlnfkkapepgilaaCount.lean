/-
  The walks over parterreref1.BraceletsOf and over the laws CountRings and CountPrime. Conditions: the numbers' ranges, as each theorem states.
-/
import Derived.Test.YtlnfkkapepgilaaCref
namespace Go.Proofs.Ytlnfkkapepgilaa
set_option linter.unusedVariables false
open Go.RowKit

theorem bsum_tot {n k : Nat} (hk : 2 ≤ k) (h1 : 1 ≤ n) (h : k ^ n ≤ 1000000000000000000) : 0 ≤ bsum k n n ∧ bsum k n n ≤ 2000000000000000000 := by
  have hn := fits60 hk h
  have hb := turn_bd (k := k) (n := n) (by omega) h n (Nat.le_refl _)
  rw [← bsum_div h1 (by omega)]
  have q1 : 0 ≤ ((turnS k n n : Nat) : Int) / (n : Int) := Int.ediv_nonneg (by omega) (by omega)
  have q2 : ((turnS k n n : Nat) : Int) / (n : Int) ≤ ((turnS k n n : Nat) : Int) := Int.ediv_le_self _ (by omega)
  omega

set_option maxHeartbeats 1000000 in
theorem bracof_more (n k : Nat) (w : World) (hn : 1 ≤ n) (hk : 2 ≤ k) (h : k ^ n ≤ 1000000000000000000) :
    Calls Try.prog 18 #[.int .i64 n, .int .i64 k] w fun e w' => e = .returned (.int .i64 (bracN n k)) ∧ w = w' := by
  have hn60 := fits60 hk h
  have hk1 : ((k : Int) == 1) = false := by simp; omega
  have H := hid (beadsof_ok n k w hn (by omega) h)
  rw [show beadsN n k = bsum k n n from if_neg (by omega)] at H
  obtain ⟨b1, b2⟩ := bsum_tot hk hn h
  rw [show bracN n k = (bsum k n n + (ownN n k : Int)) / 2 from if_neg (by omega)]
  have hp1 : k ^ ((n + 1) / 2) ≤ 1000000000000000000 := Nat.le_trans (pow_upc (by omega) (by omega)) h
  have hp2 : k ^ (n / 2 + 1) ≤ 1000000000000000000 := Nat.le_trans (pow_upc (by omega) (by omega)) h
  have hp3 : k ^ (n / 2) ≤ 1000000000000000000 := Nat.le_trans (pow_upc (by omega) (by omega)) h
  have P1 := hid (fun w => powerof_ok k ((n + 1) / 2) w hk hp1)
  have P2 := hid (fun w => powerof_ok k (n / 2 + 1) w hk hp2)
  have P3 := hid (fun w => powerof_ok k (n / 2) w hk hp3)
  have C1 : Hid (((n : Int) + 1) / 2 = (((n + 1) / 2 : Nat) : Int)) := hid (by omega)
  have C2 : Hid ((n : Int) / 2 + 1 = ((n / 2 + 1 : Nat) : Int)) := hid (by omega)
  have C3 : Hid ((n : Int) / 2 = ((n / 2 : Nat) : Int)) := hid (by omega)
  generalize bsum k n n = B at *
  rcases Nat.mod_two_eq_zero_or_one n with hpar | hpar
  · have hb2 : ((n : Int) % 2 == 1) = false := by rw [beq_eq_false_iff_ne]; omega
    rw [show ownN n k = (k ^ (n / 2) + k ^ (n / 2 + 1)) / 2 from if_neg (by omega)]
    clear hp1 P1 h
    generalize k ^ (n / 2) = X at *
    generalize k ^ (n / 2 + 1) = Y at *
    have EQ : ∀ O : Int, O = ((X : Int) + (Y : Int)) / 2 → Hid ((B + ((X + Y) / 2 : Nat)) / 2 = B / 2 + O / 2 + (B % 2 + O % 2) / 2) := fun O hO => hid (by omega)
    by_cases o1 : X % 2 = 1
    · by_cases o2 : Y % 2 = 1
      · have t1 : ((X : Int) % 2 == 1) = true := by rw [beq_iff_eq]; omega
        have t2 : ((Y : Int) % 2 == 1) = true := by rw [beq_iff_eq]; omega
        have E := EQ ((X : Int) / 2 + (Y : Int) / 2 + 1) (by omega)
        clear EQ o1 o2 hpar
        go_enter Try.func18, Try.ntmps18
        go_wp2_with fail
        refine H.out.mono ?_
        rintro e w' ⟨rfl, rfl⟩
        go_wp2_with fail
        rw [C3.out]
        refine (P3.out _).mono ?_
        rintro e w' ⟨rfl, rfl⟩
        go_wp2_with fail
        rw [C2.out]
        refine (P2.out _).mono ?_
        rintro e w' ⟨rfl, rfl⟩
        go_wp2
        go_ret
        exact ⟨by rw [E.out]; rfl, rfl⟩
      · have t1 : ((X : Int) % 2 == 1) = true := by rw [beq_iff_eq]; omega
        have t2 : ((Y : Int) % 2 == 1) = false := by rw [beq_eq_false_iff_ne]; omega
        have E := EQ ((X : Int) / 2 + (Y : Int) / 2) (by omega)
        clear EQ o1 o2 hpar
        go_enter Try.func18, Try.ntmps18
        go_wp2_with fail
        refine H.out.mono ?_
        rintro e w' ⟨rfl, rfl⟩
        go_wp2_with fail
        rw [C3.out]
        refine (P3.out _).mono ?_
        rintro e w' ⟨rfl, rfl⟩
        go_wp2_with fail
        rw [C2.out]
        refine (P2.out _).mono ?_
        rintro e w' ⟨rfl, rfl⟩
        go_wp2
        go_ret
        exact ⟨by rw [E.out]; rfl, rfl⟩
    · have t1 : ((X : Int) % 2 == 1) = false := by rw [beq_eq_false_iff_ne]; omega
      have E := EQ ((X : Int) / 2 + (Y : Int) / 2) (by omega)
      clear EQ o1 hpar
      go_enter Try.func18, Try.ntmps18
      go_wp2_with fail
      refine H.out.mono ?_
      rintro e w' ⟨rfl, rfl⟩
      go_wp2_with fail
      rw [C3.out]
      refine (P3.out _).mono ?_
      rintro e w' ⟨rfl, rfl⟩
      go_wp2_with fail
      rw [C2.out]
      refine (P2.out _).mono ?_
      rintro e w' ⟨rfl, rfl⟩
      go_wp2
      go_ret
      exact ⟨by rw [E.out]; rfl, rfl⟩
  · have hb2 : ((n : Int) % 2 == 1) = true := by rw [beq_iff_eq]; omega
    rw [show ownN n k = k ^ ((n + 1) / 2) from if_pos hpar]
    clear hp2 hp3 P2 P3 h
    generalize k ^ ((n + 1) / 2) = X at *
    have E : Hid ((B + (X : Int)) / 2 = B / 2 + (X : Int) / 2 + (B % 2 + (X : Int) % 2) / 2) := hid (by omega)
    clear hpar
    go_enter Try.func18, Try.ntmps18
    go_wp2_with fail
    refine H.out.mono ?_
    rintro e w' ⟨rfl, rfl⟩
    go_wp2_with fail
    rw [C1.out]
    refine (P1.out _).mono ?_
    rintro e w' ⟨rfl, rfl⟩
    go_wp2
    go_ret
    exact ⟨by rw [E.out]; rfl, rfl⟩
theorem bracof_ok (n k : Nat) (w : World) (hn : 1 ≤ n) (hk : 1 ≤ k) (h : k ^ n ≤ 1000000000000000000) :
    Calls Try.prog 18 #[.int .i64 n, .int .i64 k] w fun e w' => e = .returned (.int .i64 (bracN n k)) ∧ w = w' := by
  by_cases h1 : k = 1
  · subst h1
    have H := hid (beadsof_ok n 1 w hn (by omega) h)
    rw [show bracN n 1 = 1 from if_pos rfl]
    rw [show beadsN n 1 = 1 from if_pos rfl] at H
    go_enter Try.func18, Try.ntmps18
    go_wp2_with fail
    refine H.out.mono ?_
    rintro e w' ⟨rfl, rfl⟩
    go_wp2
    go_ret
    exact ⟨rfl, rfl⟩
  · exact bracof_more n k w hn (by omega) h

theorem countRings_walk (w : World) (n : Int) (i1 : I64 n) (k : Int) (i2 : I64 k) :
    Calls Try.prog 4 #[.int .i64 n, .int .i64 k] w fun e w' => e = .returned (.bool true) ∧ Below w.heap.size w w' := by
  by_cases h : ringE n k = 0
  · obtain ⟨n, rfl⟩ : ∃ m : Nat, n = (m : Int) := ⟨n.toNat, by
      rcases Int.lt_or_le n 1 with h1 | h1
      · rw [ringE_lo (.inl h1)] at h; omega
      · omega⟩
    obtain ⟨k, rfl⟩ : ∃ m : Nat, k = (m : Int) := ⟨k.toNat, by
      rcases Int.lt_or_le k 1 with h1 | h1
      · rw [ringE_lo (.inr h1)] at h; omega
      · omega⟩
    have hn : 1 ≤ n := by
      rcases Nat.lt_or_ge n 1 with h1 | h1
      · rw [ringE_lo (.inl (by omega))] at h; omega
      · exact h1
    have hk : 1 ≤ k := by
      rcases Nat.lt_or_ge k 1 with h1 | h1
      · rw [ringE_lo (.inr (by omega))] at h; omega
      · exact h1
    have hp : k ^ n ≤ 1000000000000000000 := by
      rcases Nat.lt_or_ge 1000000000000000000 (k ^ n) with h1 | h1
      · rw [ringE_hi hn hk h1] at h; omega
      · exact h1
    have R := hid (ringfault_any n k w i1 i2)
    rw [h] at R
    have A1 := hid (fun w => Beads_ok n k w hn hk i1 i2 hp)
    have A2 := hid (fun w => Bracelets_ok n k w hn hk i1 i2 hp)
    have A3 := hid (fun w => beadsof_ok n k w hn hk hp)
    have A4 := hid (fun w => bracof_ok n k w hn hk hp)
    clear h hp
    generalize beadsN n k = x at *
    generalize bracN n k = y at *
    have ex : (x == x) = true := by simp
    have ey : (y == y) = true := by simp
    go_enter Try.func4, Try.ntmps4
    go_wp2_with fail
    refine R.out.mono ?_
    rintro e w' ⟨rfl, rfl⟩
    go_wp2_with fail
    refine (A1.out _).mono ?_
    rintro e w' ⟨rfl, m, rfl⟩
    go_wp2_with fail
    refine (A2.out _).mono ?_
    rintro e w' ⟨rfl, m2, rfl⟩
    go_wp2_with fail
    refine (A3.out _).mono ?_
    rintro e w' ⟨rfl, rfl⟩
    go_wp2_with fail
    refine (A4.out _).mono ?_
    rintro e w' ⟨rfl, rfl⟩
    go_wp2
    go_ret
    exact ⟨rfl, below_drewN (Below.refl _ _) _⟩
  · have R := hid (ringfault_any n k w i1 i2)
    have A1 := hid (fun w => Beads_bad n k w i1 i2 h)
    have A2 := hid (fun w => Bracelets_bad n k w i1 i2 h)
    have hb : (ringE n k != 0) = true := by simpa using h
    generalize ringE n k = z at *
    have ez : (z != z) = false := by simp
    clear h
    go_enter Try.func4, Try.ntmps4
    go_wp2_with fail
    refine R.out.mono ?_
    rintro e w' ⟨rfl, rfl⟩
    go_wp2_with fail
    refine (A1.out _).mono ?_
    rintro e w' ⟨rfl, rfl⟩
    go_wp2_with fail
    refine (A2.out _).mono ?_
    rintro e w' ⟨rfl, rfl⟩
    go_wp2
    go_ret
    exact ⟨rfl, Below.refl _ _⟩

theorem beads_6_3 : beadsN 6 3 = 130 := by decide +kernel
theorem beadsfact_any (w : World) :
    Calls Try.prog 12 #[] w fun e w' => e = .returned (.bool true) ∧ ∃ m, w' = w.drewN m := by
  have H := hid (Beads_ok 6 3 w (by decide) (by decide) (by unfold I64; decide) (by unfold I64; decide) (by decide))
  rw [beads_6_3] at H
  go_enter Try.func12, Try.ntmps12
  go_wp2_with fail
  refine H.out.mono ?_
  rintro e w' ⟨rfl, m, rfl⟩
  go_wp2
  go_ret
  exact ⟨rfl, m, rfl⟩

/-- What is left of Fermat. -/
theorem prime_div {k p : Nat} (hp1 : 1 ≤ p) (hp : p < 61) (h : primeB p = true) : bsum k p p = (((k ^ p : Nat) : Int) - (k : Int)) / (p : Int) + (k : Int) ∧ (((k ^ p : Nat) : Int) - (k : Int)) % (p : Int) = 0 := by
  obtain ⟨h1, h2⟩ := prime_rings k p hp h
  refine ⟨?_, h2⟩
  rw [← bsum_div hp1 hp, h1]
  rw [show ((k ^ p : Nat) : Int) + ((p : Int) - 1) * (k : Int) = (((k ^ p : Nat) : Int) - (k : Int)) + (p : Int) * (k : Int) by rw [Int.sub_mul]; omega]
  rw [Int.add_mul_ediv_left _ _ (by omega)]

set_option maxHeartbeats 1000000 in
theorem countPrime_walk (w : World) (p : Int) (i1 : I64 p) (k : Int) (i2 : I64 k) :
    Calls Try.prog 3 #[.int .i64 p, .int .i64 k] w fun e w' => e = .returned (.bool true) ∧ Below w.heap.size w w' := by
  have HF := hid (beadsfact_any w)
  have HP := hid (fun w => prime_any p w i1)
  by_cases h : ringE p k = 0
  · obtain ⟨n, rfl⟩ : ∃ m : Nat, p = (m : Int) := ⟨p.toNat, by
      rcases Int.lt_or_le p 1 with h1 | h1
      · rw [ringE_lo (.inl h1)] at h; omega
      · omega⟩
    obtain ⟨k, rfl⟩ : ∃ m : Nat, k = (m : Int) := ⟨k.toNat, by
      rcases Int.lt_or_le k 1 with h1 | h1
      · rw [ringE_lo (.inr h1)] at h; omega
      · omega⟩
    have hn : 1 ≤ n := by
      rcases Nat.lt_or_ge n 1 with h1 | h1
      · rw [ringE_lo (.inl (by omega))] at h; omega
      · exact h1
    have hk : 1 ≤ k := by
      rcases Nat.lt_or_ge k 1 with h1 | h1
      · rw [ringE_lo (.inr (by omega))] at h; omega
      · exact h1
    have hp : k ^ n ≤ 1000000000000000000 := by
      rcases Nat.lt_or_ge 1000000000000000000 (k ^ n) with h1 | h1
      · rw [ringE_hi hn hk h1] at h; omega
      · exact h1
    have A1 := hid (fun w => Beads_ok n k w hn hk i1 i2 hp)
    rw [Int.toNat_natCast] at HP
    by_cases hpr : primeB n = true
    · rw [hpr] at HP
      by_cases hk1 : k = 1
      · subst hk1
        rw [show beadsN n 1 = 1 from if_pos rfl] at A1
        have hz : ((0 : Int) % (n : Int) == 0) = true := by simp
        have hi1 := i1.2
        clear h hp hpr
        go_enter Try.func3, Try.ntmps3
        go_wp2_with fail
        refine HF.out.mono ?_
        rintro e w' ⟨rfl, m, rfl⟩
        go_wp2_with fail
        refine (HP.out _).mono ?_
        rintro e w' ⟨rfl, rfl⟩
        go_wp2_with fail
        refine (A1.out _).mono ?_
        rintro e w' ⟨rfl, m2, rfl⟩
        go_wp2
        go_loop [9, 10] (fun o i => o = .int .i64 1 ∧ i = .int .i64 0) (fun _ _ => 0)
        case atStart => exact ⟨rfl, rfl⟩
        case round =>
          obtain ⟨rfl, rfl⟩ := hrel
          go_wp2
          go_ret
          exact ⟨rfl, below_drewN (Below.refl _ _) _⟩
      · have hk2 : 2 ≤ k := by omega
        have hn60 := fits60 hk2 hp
        obtain ⟨d1, d2⟩ := prime_div (k := k) hn (by omega) hpr
        rw [show beadsN n k = bsum k n n from if_neg hk1, d1] at A1
        obtain ⟨r, hr⟩ : ∃ r, r = k ^ n := ⟨_, rfl⟩
        have hkr : k ≤ r := by
          have := pow_upc (k := k) (by omega) hn
          rw [Nat.pow_one] at this
          omega
        rw [← hr] at d2 hp A1
        have t1 : (((r : Int) - (k : Int)) % (n : Int) == 0) = true := by rw [d2]; rfl
        have q1 : 0 ≤ ((r : Int) - (k : Int)) / (n : Int) := Int.ediv_nonneg (by omega) (by omega)
        have q2 : ((r : Int) - (k : Int)) / (n : Int) ≤ (r : Int) - (k : Int) := Int.ediv_le_self _ (by omega)
        have q3 : (((r : Int) - (k : Int)) / (n : Int) + (k : Int) == ((r : Int) - (k : Int)) / (n : Int) + (k : Int)) = true := by simp
        have HR := hid hr
        clear h hpr d1 d2 hr hk1
        go_enter Try.func3, Try.ntmps3
        go_wp2_with fail
        refine HF.out.mono ?_
        rintro e w' ⟨rfl, m, rfl⟩
        go_wp2_with fail
        refine (HP.out _).mono ?_
        rintro e w' ⟨rfl, rfl⟩
        go_wp2_with fail
        refine (A1.out _).mono ?_
        rintro e w' ⟨rfl, m2, rfl⟩
        go_wp2
        go_loop [9, 10] (fun o i => ∃ j p : Nat, j ≤ n ∧ i = .int .i64 j ∧ o = .int .i64 p ∧ Hid (p = k ^ j)) (fun _ i => n - (intOf i).toNat)
        case atStart => exact ⟨0, 1, Nat.zero_le _, rfl, rfl, hid rfl⟩
        case round =>
          obtain ⟨j, p, hj, rfl, rfl, hp⟩ := hrel
          by_cases hlt : j < n
          · have hpk : p * k ≤ r := by rw [hp.out, ← pow_stepc, HR.out]; exact pow_upc (by omega) hlt
            have h2 : (p : Int) * (k : Int) ≤ 1000000000000000000 := by
              have : ((p * k : Nat) : Int) = (p : Int) * (k : Int) := by simp
              omega
            have h3 : 0 ≤ (p : Int) * (k : Int) := Int.mul_nonneg (by omega) (by omega)
            clear hpk
            go_wp2
            go_round
            case rel => exact ⟨j + 1, p * k, by omega, by go_num, by simp, hid (by rw [hp.out, pow_stepc])⟩
            case measure => simp [intOf] <;> omega
          · obtain rfl : n = j := by omega
            obtain rfl : p = r := by rw [hp.out, HR.out]
            go_wp2
            go_ret
            exact ⟨rfl, below_drewN (Below.refl _ _) _⟩
    · have hpf : primeB n = false := by simpa using hpr
      rw [hpf] at HP
      generalize beadsN n k = x at *
      clear h hp hpr hpf
      go_enter Try.func3, Try.ntmps3
      go_wp2_with fail
      refine HF.out.mono ?_
      rintro e w' ⟨rfl, m, rfl⟩
      go_wp2_with fail
      refine (HP.out _).mono ?_
      rintro e w' ⟨rfl, rfl⟩
      go_wp2_with fail
      refine (A1.out _).mono ?_
      rintro e w' ⟨rfl, m2, rfl⟩
      go_wp2
      go_ret
      exact ⟨rfl, below_drewN (Below.refl _ _) _⟩
  · have A1 := hid (fun w => Beads_bad p k w i1 i2 h)
    have hb : (ringE p k != 0) = true := by simpa using h
    generalize ringE p k = z at *
    generalize primeB p.toNat = q at *
    clear h
    go_enter Try.func3, Try.ntmps3
    go_wp2_with fail
    refine HF.out.mono ?_
    rintro e w' ⟨rfl, m, rfl⟩
    go_wp2_with fail
    refine (HP.out _).mono ?_
    rintro e w' ⟨rfl, rfl⟩
    go_wp2_with fail
    refine (A1.out _).mono ?_
    rintro e w' ⟨rfl, rfl⟩
    go_wp2
    go_ret
    exact ⟨rfl, below_drewN (Below.refl _ _) _⟩
end Go.Proofs.Ytlnfkkapepgilaa
