/-
  The walks over count.power, check, turned, Beads and Bracelets. Conditions: the numbers' ranges, as each theorem states.
-/
import Derived.Test.YtlnfkkapepgilaaBase
import Derived.Test.YtlnfkkapepgilaaRing
namespace Go.Proofs.Ytlnfkkapepgilaa
set_option linter.unusedVariables false
open Go.RowKit

theorem pow_stepc (k j : Nat) : k ^ (j + 1) = k ^ j * k := Nat.pow_succ k j
theorem pow_divc {p k : Nat} {z : Int} (hk : 1 ≤ k) : z / (k : Int) < (p : Int) ↔ z < ((p * k : Nat) : Int) := by
  rw [Int.ediv_lt_iff_lt_mul (by omega)]
  simp
theorem pow_upc {k i n : Nat} (hk : 1 ≤ k) (h : i ≤ n) : k ^ i ≤ k ^ n := Nat.pow_le_pow_right hk h

theorem cpower_one (n : Int) (w : World) :
    Calls Try.prog 36 #[.int .i64 1, .int .i64 n] w fun e w' => e = .returned (.tuple #[.int .i64 1, .bool true]) ∧ w = w' := by
  go_enter Try.func36, Try.ntmps36
  go_wp2
  go_ret2
  exact ⟨rfl, rfl⟩

theorem cpower_ok2 (k n : Nat) (w : World) (hk : 2 ≤ k) (h : k ^ n ≤ 1000000000000000000) :
    Calls Try.prog 36 #[.int .i64 k, .int .i64 n] w fun e w' => e = .returned (.tuple #[.int .i64 (k ^ n : Nat), .bool true]) ∧ w = w' := by
  have hn := fits60 hk h
  obtain ⟨r, hr⟩ : ∃ r, r = k ^ n := ⟨_, rfl⟩
  rw [← hr] at h ⊢
  have HR := hid hr
  clear hr
  have hk1 : ((k : Int) == 1) = false := by simp; omega
  go_enter Try.func36, Try.ntmps36
  go_wp2
  go_loop [6, 10] (fun o i => ∃ j p : Nat, j ≤ n ∧ i = .int .i64 j ∧ o = .int .i64 p ∧ Hid (p = k ^ j)) (fun _ i => n - (intOf i).toNat)
  case atStart => exact ⟨0, 1, Nat.zero_le _, rfl, rfl, hid rfl⟩
  case round =>
    obtain ⟨j, p, hj, rfl, rfl, hp⟩ := hrel
    by_cases hlt : j < n
    · have hpk : p * k ≤ r := by rw [hp.out, ← pow_stepc, HR.out]; exact pow_upc (by omega) hlt
      have h1 : ¬ (1000000000000000000 : Int) / (k : Int) < (p : Int) := by rw [pow_divc (by omega)]; omega
      have h2 : (p : Int) * (k : Int) ≤ 1000000000000000000 := by
        have : ((p * k : Nat) : Int) = (p : Int) * (k : Int) := by simp
        omega
      have h3 : 0 ≤ (p : Int) * (k : Int) := Int.mul_nonneg (by omega) (by omega)
      clear hpk
      go_wp2
      go_round
      case rel => exact ⟨j + 1, p * k, by omega, by go_num, by simp, hid (by rw [hp.out, pow_stepc])⟩
      case measure => simp [intOf] <;> omega
    · obtain rfl : j = n := by omega
      obtain rfl : p = r := by rw [hp.out, HR.out]
      go_wp2
      go_ret2
      exact ⟨rfl, rfl⟩

theorem cpower_ok (k n : Nat) (w : World) (hk : 1 ≤ k) (h : k ^ n ≤ 1000000000000000000) :
    Calls Try.prog 36 #[.int .i64 k, .int .i64 n] w fun e w' => e = .returned (.tuple #[.int .i64 (k ^ n : Nat), .bool true]) ∧ w = w' := by
  by_cases h1 : k = 1
  · subst h1
    rw [Nat.one_pow]
    exact cpower_one n w
  · exact cpower_ok2 k n w (by omega) h

theorem cpower_no (k n : Nat) (w : World) (hk : 2 ≤ k) (hn : n ≤ 9223372036854775807) (h : 1000000000000000000 < k ^ n) :
    Calls Try.prog 36 #[.int .i64 k, .int .i64 n] w fun e w' => e = .returned (.tuple #[.int .i64 0, .bool false]) ∧ w = w' := by
  have H := hid h
  clear h
  have hk1 : ((k : Int) == 1) = false := by simp; omega
  go_enter Try.func36, Try.ntmps36
  go_wp2
  go_loop [6, 10] (fun o i => ∃ j p : Nat, j ≤ n ∧ i = .int .i64 j ∧ o = .int .i64 p ∧ Hid (p = k ^ j) ∧ p ≤ 1000000000000000000) (fun _ i => n - (intOf i).toNat)
  case atStart => exact ⟨0, 1, Nat.zero_le _, rfl, rfl, hid rfl, by omega⟩
  case round =>
    obtain ⟨j, p, hj, rfl, rfl, hp, hpz⟩ := hrel
    by_cases hlt : j < n
    · by_cases h1 : (1000000000000000000 : Int) / (k : Int) < (p : Int)
      · go_wp2
        go_ret2
        exact ⟨rfl, rfl⟩
      · have h4 : ((p * k : Nat) : Int) ≤ 1000000000000000000 := by rw [pow_divc (by omega)] at h1; omega
        have h5 : ((p * k : Nat) : Int) = (p : Int) * (k : Int) := by simp
        have h2 : (p : Int) * (k : Int) ≤ 1000000000000000000 := by omega
        have h3 : 0 ≤ (p : Int) * (k : Int) := Int.mul_nonneg (by omega) (by omega)
        have H4 : Hid (p * k ≤ 1000000000000000000) := hid (by omega)
        clear h4 h5
        go_wp2
        go_round
        case rel => exact ⟨j + 1, p * k, by omega, by go_num, by simp, hid (by rw [hp.out, pow_stepc]), H4.out⟩
        case measure => simp [intOf] <;> omega
    · exfalso
      obtain rfl : j = n := by omega
      have := H.out
      rw [← hp.out] at this
      omega

/-- What is wrong with rings. -/
def ringE (n k : Int) : Int := if n < 1 ∨ k < 1 then 1 else if 1000000000000000000 < k.toNat ^ n.toNat then 3 else 0
theorem ringE_lo {n k : Int} (h : n < 1 ∨ k < 1) : ringE n k = 1 := if_pos h
theorem ringE_hi {n k : Nat} (h1 : 1 ≤ n) (h2 : 1 ≤ k) (h : 1000000000000000000 < k ^ n) : ringE n k = 3 := by
  unfold ringE
  rw [if_neg (by omega), if_pos (by simpa using h)]
theorem ringE_ok {n k : Nat} (h1 : 1 ≤ n) (h2 : 1 ≤ k) (h : k ^ n ≤ 1000000000000000000) : ringE n k = 0 := by
  unfold ringE
  rw [if_neg (by omega), if_neg (by simpa using h)]

theorem ccheck_any (n k : Int) (w : World) (i1 : I64 n) (_ : I64 k) :
    Calls Try.prog 34 #[.int .i64 n, .int .i64 k] w fun e w' => e = .returned (.int .i64 (ringE n k)) ∧ w = w' := by
  by_cases h : n < 1 ∨ k < 1
  · rw [ringE_lo h]
    by_cases h1 : n < 1
    · go_enter Try.func34, Try.ntmps34
      go_wp2
      all_goals (go_ret; exact ⟨rfl, rfl⟩)
    · have h2 : k < 1 := by omega
      go_enter Try.func34, Try.ntmps34
      go_wp2
      all_goals (go_ret; exact ⟨rfl, rfl⟩)
  · obtain ⟨n, rfl⟩ : ∃ m : Nat, n = (m : Int) := ⟨n.toNat, by omega⟩
    obtain ⟨k, rfl⟩ : ∃ m : Nat, k = (m : Int) := ⟨k.toNat, by omega⟩
    have hn1 : 1 ≤ n := by omega
    have hk1 : 1 ≤ k := by omega
    have hn2 : n ≤ 9223372036854775807 := by unfold I64 at i1; omega
    clear h i1
    by_cases h : 1000000000000000000 < k ^ n
    · have hk2 : 2 ≤ k := by
        rcases Nat.lt_or_ge k 2 with h3 | h3
        · exfalso
          obtain rfl : k = 1 := by omega
          rw [Nat.one_pow] at h
          omega
        · exact h3
      rw [ringE_hi hn1 hk1 h]
      have H := hid h
      clear h
      go_enter Try.func34, Try.ntmps34
      go_wp2_with fail
      refine (cpower_no k n w hk2 hn2 H.out).mono ?_
      rintro e w' ⟨rfl, rfl⟩
      go_wp2
      go_ret
      exact ⟨rfl, rfl⟩
    · rw [ringE_ok hn1 hk1 (by omega)]
      have H := hid h
      clear h
      go_enter Try.func34, Try.ntmps34
      go_wp2_with fail
      refine (cpower_ok k n w hk1 (by have := H.out; omega)).mono ?_
      rintro e w' ⟨rfl, rfl⟩
      go_wp2
      go_ret
      exact ⟨rfl, rfl⟩

theorem turned_ok (n k : Nat) (w : World) (hk : 2 ≤ k) (h : k ^ n ≤ 1000000000000000000) :
    Calls Try.prog 35 #[.int .i64 n, .int .i64 k] w fun e w' => e = .returned (.int .i64 (turnS k n n : Nat)) ∧ ∃ m, w' = w.drewN m := by
  have hn := fits60 hk h
  have H := hid h
  clear h
  go_enter Try.func35, Try.ntmps35
  go_wp2
  go_loopw [5, 12] (fun s i wr => ∃ t z : Nat, t ≤ n ∧ i = .int .i64 t ∧ s = .int .i64 z ∧ Hid (z = turnS k n t) ∧ ∃ m, wr = w.drewN m) (fun _ i _ => n - (intOf i).toNat)
  case atStart => exact ⟨0, 0, Nat.zero_le _, rfl, rfl, hid rfl, 0, rfl⟩
  case round =>
    obtain ⟨t, z, ht, rfl, rfl, hz, m, rfl⟩ := hrel
    by_cases hlt : t < n
    · have hb1 := turn_bd (k := k) (n := n) (by omega) H.out t ht
      rw [← hz.out] at hb1
      go_wp2
      go_loopw [7, 8] (fun a b wr => ∃ x y : Nat, a = .int .i64 x ∧ b = .int .i64 y ∧ Hid (Nat.gcd x y = Nat.gcd n t) ∧ y ≤ n ∧ x ≤ n ∧ ∃ m, wr = w.drewN m) (fun _ b _ => (intOf b).toNat)
      case atStart => exact ⟨n, t, rfl, rfl, hid rfl, ht, Nat.le_refl _, m, rfl⟩
      case round =>
        obtain ⟨x, y, rfl, rfl, hg, hy, hx, m, rfl⟩ := hrel
        by_cases h0 : y = 0
        · subst h0
          have hgx : x = Nat.gcd n t := by rw [← hg.out, Nat.gcd_zero_right]
          have hp : k ^ x ≤ 1000000000000000000 := by
            have hle : Nat.gcd n t ≤ n := Nat.le_of_dvd (by omega) (Nat.gcd_dvd_left n t)
            exact Nat.le_trans (pow_upc (by omega) (by omega)) H.out
          have hs : turnS k n (t + 1) = z + k ^ x := by rw [hz.out, hgx]; rfl
          have HS := hid hs
          have HP := hid hp
          clear hs hp hgx hg hz
          go_wp2_with fail
          refine (cpower_ok k x _ (by omega) HP.out).mono ?_
          rintro e w' ⟨rfl, rfl⟩
          obtain ⟨q, hq⟩ : ∃ q, q = k ^ x := ⟨_, rfl⟩
          have hqb := HP.out
          have HS2 := HS.out
          rw [← hq] at hqb HS2 ⊢
          have HS3 := hid HS2
          clear HS HS2 hq
          go_wp2
          go_roundw
          case rel => exact ⟨t + 1, z + q, by omega, by go_num, by go_num, hid HS3.out.symm, m, rfl⟩
          case measure => simp [intOf] <;> omega
        · have hm1 : 0 ≤ (x : Int) % (y : Int) := Int.emod_nonneg _ (by omega)
          have hm2 : (x : Int) % (y : Int) < (y : Int) := Int.emod_lt_of_pos _ (by omega)
          have hm3 : x % y < y := Nat.mod_lt _ (by omega)
          have hne : ((y : Int) != 0) = true := by simp; omega
          go_wp2
          go_quiet (fail)
          go_wp2
          go_roundw
          case rel => exact ⟨y, x % y, rfl, by simp, hid (by rw [← hg.out, Nat.gcd_comm y, ← Nat.gcd_rec, Nat.gcd_comm]), by omega, hy, by first | exact ⟨_, rfl⟩ | (simp only [World.drewN_drewN]; exact ⟨_, rfl⟩)⟩
          case measure => simp [intOf] <;> omega
    · obtain rfl : t = n := by omega
      obtain rfl : z = turnS k t t := hz.out
      go_wp2
      go_ret
      exact ⟨rfl, m, rfl⟩

/-- Rings of so many beads. -/
def beadsN (n k : Nat) : Int := if k = 1 then 1 else bsum k n n

theorem bsum_div {n k : Nat} (hn1 : 1 ≤ n) (hn : n < 61) : ((turnS k n n : Nat) : Int) / (n : Int) = bsum k n n := by
  rw [turn_bsum k n hn, Int.mul_ediv_cancel_left _ (by omega)]

theorem Beads_bad (n k : Int) (w : World) (i1 : I64 n) (i2 : I64 k) (h : ringE n k ≠ 0) :
    Calls Try.prog 14 #[.int .i64 n, .int .i64 k] w fun e w' => e = .returned (.tuple #[.int .i64 0, .int .i64 (ringE n k)]) ∧ w = w' := by
  have hb : (ringE n k != 0) = true := by simpa using h
  have H := hid (ccheck_any n k w i1 i2)
  generalize ringE n k = z at *
  go_enter Try.func14, Try.ntmps14
  go_wp2_with fail
  refine H.out.mono ?_
  rintro e w' ⟨rfl, rfl⟩
  go_wp2
  go_ret2
  exact ⟨rfl, rfl⟩
theorem Beads_ok (n k : Nat) (w : World) (hn : 1 ≤ n) (hk : 1 ≤ k) (i1 : I64 n) (i2 : I64 k) (h : k ^ n ≤ 1000000000000000000) :
    Calls Try.prog 14 #[.int .i64 n, .int .i64 k] w fun e w' => e = .returned (.tuple #[.int .i64 (beadsN n k), .int .i64 0]) ∧ ∃ m, w' = w.drewN m := by
  have H := hid (ccheck_any n k w i1 i2)
  rw [ringE_ok hn hk h] at H
  by_cases hk1 : k = 1
  · subst hk1
    have e1 : beadsN n 1 = 1 := if_pos rfl
    rw [e1]
    clear e1 h
    go_enter Try.func14, Try.ntmps14
    go_wp2_with fail
    refine H.out.mono ?_
    rintro e w' ⟨rfl, rfl⟩
    go_wp2
    go_ret2
    exact ⟨rfl, 0, rfl⟩
  · have e1 : beadsN n k = bsum k n n := if_neg hk1
    have hn60 := fits60 (k := k) (by omega) h
    rw [e1, ← bsum_div hn (by omega)]
    have hb : ((k : Int) == 1) = false := by simp; omega
    have HT := hid (turned_ok n k w (by omega) h)
    have hbd := turn_bd (k := k) (n := n) hk h n (Nat.le_refl _)
    clear e1 h
    generalize turnS k n n = T at *
    have q1 : 0 ≤ (T : Int) / (n : Int) := Int.ediv_nonneg (by omega) (by omega)
    have q2 : (T : Int) / (n : Int) ≤ (T : Int) := Int.ediv_le_self _ (by omega)
    go_enter Try.func14, Try.ntmps14
    go_wp2_with fail
    refine H.out.mono ?_
    rintro e w' ⟨rfl, rfl⟩
    go_wp2_with fail
    refine HT.out.mono ?_
    rintro e w' ⟨rfl, m, rfl⟩
    go_wp2
    go_ret2
    exact ⟨rfl, m, rfl⟩
end Go.Proofs.Ytlnfkkapepgilaa
