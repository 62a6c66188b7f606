/-
  The walks over field.order and parterreref1.OrderOf. Conditions: the numbers are of 64 bits; the primes are laid.
-/
import Derived.Test.YthdlhfgeminoiaaDoorFprime
import Derived.Test.YthdlhfgeminoiaaDoorPrime
namespace Go.Proofs.YthdlhfgeminoiaaDoor
set_option linter.unusedVariables false
open Go.RowKit

/-- The order of a field; 0: none that may be. -/
def ordF (p k : Int) : Nat := if p ∈ prL ∧ 1 ≤ k ∧ k ≤ 6 ∧ p.toNat ^ k.toNat ≤ 64 then p.toNat ^ k.toNat else 0
theorem pr_range {p : Int} (h : p ∈ prL) : 2 ≤ p ∧ p ≤ 61 := by
  have : ∀ q ∈ prL, (2 : Int) ≤ q ∧ q ≤ 61 := by decide
  exact this p h
theorem pow_le {p : Nat} (hp : 1 ≤ p) {i k : Nat} (h : i ≤ k) : p ^ i ≤ p ^ k := Nat.pow_le_pow_right hp h
theorem ord_no {p k : Int} (h : ¬ (p ∈ prL ∧ 1 ≤ k ∧ k ≤ 6)) : ordF p k = 0 := by
  unfold ordF
  rw [if_neg]
  exact fun ⟨h1, h2, h3, _⟩ => h ⟨h1, h2, h3⟩
theorem ord_big {p k : Nat} {i : Nat} (hp : 1 ≤ p) (hi : i ≤ k) (h : 64 < p ^ i) : ordF p k = 0 := by
  unfold ordF
  rw [if_neg]
  rintro ⟨h1, h2, h3, h4⟩
  rw [Int.toNat_natCast, Int.toNat_natCast] at h4
  have := pow_le hp hi
  omega
theorem ord_ok {p k : Nat} (h1 : (p : Int) ∈ prL) (h2 : 1 ≤ k) (h3 : k ≤ 6) (h4 : p ^ k ≤ 64) : ordF p k = p ^ k := by
  unfold ordF
  rw [if_pos ⟨h1, by omega, by omega, by rw [Int.toNat_natCast, Int.toNat_natCast]; exact h4⟩, Int.toNat_natCast, Int.toNat_natCast]
theorem ord_pos {p k : Int} (h : ordF p k ≠ 0) : ∃ P K : Nat, p = (P : Int) ∧ k = (K : Int) ∧ p ∈ prL ∧ 2 ≤ P ∧ P ≤ 61 ∧ 1 ≤ K ∧ K ≤ 6 ∧ P ^ K ≤ 64 ∧ ordF p k = P ^ K := by
  unfold ordF at h ⊢
  by_cases hc : p ∈ prL ∧ 1 ≤ k ∧ k ≤ 6 ∧ p.toNat ^ k.toNat ≤ 64
  · have := pr_range hc.1
    refine ⟨p.toNat, k.toNat, by omega, by omega, hc.1, by omega, by omega, by omega, by omega, hc.2.2.2, if_pos hc⟩
  · exact absurd (if_neg hc) h

set_option maxHeartbeats 1000000 in
set_option maxRecDepth 100000 in
theorem order_any (p k : Int) (w : World) (ik : I64 k) (hp : Prs w) :
    Calls Tryd.prog 35 #[.int .i64 p, .int .i64 k] w fun e w' => e = .returned (.tuple #[.int .i64 (ordF p k), .bool (!(ordF p k == 0))]) ∧ w = w' := by
  have HP := hid (isPrime_any p w hp)
  clear hp
  unfold I64 at ik
  by_cases h1 : p ∈ prL
  · have hd : decide (p ∈ prL) = true := decide_eq_true h1
    rw [hd] at HP
    by_cases h2 : 1 ≤ k
    · by_cases h3 : k ≤ 6
      · have hr := pr_range h1
        obtain ⟨P, rfl⟩ : ∃ P : Nat, p = (P : Int) := ⟨p.toNat, by omega⟩
        obtain ⟨K, rfl⟩ : ∃ K : Nat, k = (K : Int) := ⟨k.toNat, by omega⟩
        have HB := hid (fun i hi h => ord_big (p := P) (k := K) (i := i) (by omega) hi h)
        have HO := hid (fun h => ord_ok (p := P) (k := K) h1 (by omega) (by omega) h)
        have HPL := hid (fun i (hi : i ≤ K) => pow_le (p := P) (by omega) hi)
        have HPS : Hid (∀ i, P ^ (i + 1) = P ^ i * P) := hid fun i => rfl
        have HP0 : Hid (P ^ 0 = 1) := hid rfl
        have hP1 : ¬ (K : Int) < 1 := by omega
        have hP2 : ¬ (6 : Int) < (K : Int) := by omega
        generalize ordF (P : Int) (K : Int) = R at *
        clear h1 hd ik
        obtain ⟨f, hf⟩ : ∃ f : Nat → Nat, f = fun i => P ^ i := ⟨_, rfl⟩
        have HF : Hid (∀ i, P ^ i = f i) := hid (fun i => by rw [hf])
        clear hf
        go_enter Tryd.func35, Tryd.ntmps35
        go_wp2_with fail
        refine HP.out.mono ?_
        rintro e w1 ⟨rfl, rfl⟩
        go_wp2
        go_loop [6, 19] (fun q i => ∃ j : Nat, j ≤ K ∧ i = .int .i64 j ∧ q = .int .i64 (f j : Nat) ∧ Hid (f j ≤ 64)) (fun _ i => K - (intOf i).toNat)
        case atStart => exact ⟨0, Nat.zero_le _, rfl, by rw [← HF.out, HP0.out]; rfl, hid (by rw [← HF.out, HP0.out]; decide)⟩
        case round =>
          obtain ⟨j, hj, rfl, rfl, hle⟩ := hrel
          have hle2 := hle.out
          by_cases hlt : j < K
          · have hs := HPS.out j
            rw [HF.out, HF.out] at hs
            have hmul : ((f (j + 1) : Nat) : Int) = (f j : Int) * (P : Int) := by rw [hs]; simp
            have hml : f j * P ≤ 64 * 61 := Nat.mul_le_mul hle2 (by omega)
            have hcp : (f j : Int) * (P : Int) ≤ 3904 ∧ 0 ≤ (f j : Int) * (P : Int) := by rw [← hmul, hs]; omega
            have HMUL := hid hmul.symm
            by_cases hbig : 64 < f (j + 1)
            · have hR : R = 0 := HB.out (j + 1) (by omega) (by rw [HF.out]; exact hbig)
              have hci : (64 : Int) < (f j : Int) * (P : Int) := by omega
              clear hs hmul hml hbig
              subst hR
              go_wp2
              go_ret2
              exact ⟨rfl, rfl⟩
            · have hci : ¬ (64 : Int) < (f j : Int) * (P : Int) := by omega
              have HL : Hid (f (j + 1) ≤ 64) := hid (by omega)
              clear hs hmul hml hbig hle hle2
              generalize f j = x at *
              go_wp2
              go_round
              case rel => exact ⟨j + 1, by omega, by go_num, by rw [← HMUL.out], HL⟩
              case measure => simp [intOf] <;> omega
          · obtain rfl : j = K := by omega
            have hR : R = f j := by rw [← HF.out]; exact HO.out (by rw [HF.out]; exact hle2)
            have hpos : 1 ≤ f j := by rw [← HF.out]; exact Nat.pos_of_ne_zero (by intro h0; have := HPL.out 0 (by omega); rw [HP0.out, h0] at this; omega)
            have hR2 : (R == 0) = false := by rw [beq_eq_false_iff_ne]; omega
            have HR := hid (And.intro hR hR2)
            clear hle hR hR2
            go_wp2
            go_ret2
            exact ⟨by rw [HR.out.2, HR.out.1]; rfl, rfl⟩
      · have hR : ordF p k = 0 := ord_no (fun h => h3 h.2.2)
        rw [hR]
        have t1 : ¬ k < 1 := by omega
        have t2 : 6 < k := by omega
        clear h1 hd h2 h3 hR
        go_enter Tryd.func35, Tryd.ntmps35
        go_wp2_with fail
        refine HP.out.mono ?_
        rintro e w1 ⟨rfl, rfl⟩
        go_wp2
        go_ret2
        exact ⟨rfl, rfl⟩
    · have hR : ordF p k = 0 := ord_no (fun h => h2 h.2.1)
      rw [hR]
      have t1 : k < 1 := by omega
      clear h1 hd h2 hR
      go_enter Tryd.func35, Tryd.ntmps35
      go_wp2_with fail
      refine HP.out.mono ?_
      rintro e w1 ⟨rfl, rfl⟩
      go_wp2
      go_ret2
      exact ⟨rfl, rfl⟩
  · have hd : decide (p ∈ prL) = false := decide_eq_false h1
    rw [hd] at HP
    have hR : ordF p k = 0 := ord_no (fun h => h1 h.1)
    rw [hR]
    clear h1 hd hR
    go_enter Tryd.func35, Tryd.ntmps35
    go_wp2_with fail
    refine HP.out.mono ?_
    rintro e w1 ⟨rfl, rfl⟩
    go_wp2
    go_ret2
    exact ⟨rfl, rfl⟩

/-- Up to 64 the primes are those of the list. -/
theorem pr_same : ∀ P : Nat, P < 65 → primeB P = decide ((P : Int) ∈ prL) := by decide +kernel
theorem pr_neg {p : Int} (h : p < 0) : p ∉ prL := fun hx => by have := pr_range hx; omega

set_option maxHeartbeats 1000000 in
set_option maxRecDepth 100000 in
theorem OrderOf_any (p k : Int) (w : World) (ip : I64 p) (ik : I64 k) :
    Calls Tryd.prog 38 #[.int .i64 p, .int .i64 k] w fun e w' => e = .returned (.int .i64 (ordF p k)) ∧ w = w' := by
  have HP := hid (prime_any p w ip)
  unfold I64 at ik ip
  by_cases h0 : p ≤ 64
  · by_cases h2 : 1 ≤ k
    · have t0 : ¬ 64 < p := by omega
      have t1 : ¬ k < 1 := by omega
      by_cases h1 : p ∈ prL
      · have hr := pr_range h1
        obtain ⟨P, rfl⟩ : ∃ P : Nat, p = (P : Int) := ⟨p.toNat, by omega⟩
        obtain ⟨K, rfl⟩ : ∃ K : Nat, k = (K : Int) := ⟨k.toNat, by omega⟩
        rw [Int.toNat_natCast, pr_same P (by omega), decide_eq_true h1] at HP
        have HB := hid (fun i hi h => ord_big (p := P) (k := K) (i := i) (by omega) hi h)
        have HP2 : Hid (∀ i, i ≤ 6 ∨ 64 < P ^ 7 ) := hid fun i => .inr (Nat.lt_of_lt_of_le (by decide) (Nat.pow_le_pow_left (show 2 ≤ P by omega) 7))
        have HO := hid (fun h6 h => ord_ok (p := P) (k := K) h1 (by omega) h6 h)
        have HPL := hid (fun i j (hi : i ≤ j) => pow_le (p := P) (by omega) hi)
        have HPS : Hid (∀ i, P ^ (i + 1) = P ^ i * P) := hid fun i => rfl
        have HP0 : Hid (P ^ 0 = 1) := hid rfl
        generalize ordF (P : Int) (K : Int) = R at *
        clear h1
        obtain ⟨f, hf⟩ : ∃ f : Nat → Nat, f = fun i => P ^ i := ⟨_, rfl⟩
        have HF : Hid (∀ i, P ^ i = f i) := hid (fun i => by rw [hf])
        clear hf
        go_enter Tryd.func38, Tryd.ntmps38
        go_wp2_with fail
        refine HP.out.mono ?_
        rintro e w1 ⟨rfl, rfl⟩
        go_wp2
        go_loop [6, 7] (fun q i => ∃ j : Nat, j ≤ K ∧ i = .int .i64 j ∧ q = .int .i64 (f j : Nat) ∧ Hid (f j ≤ 64)) (fun _ i => K - (intOf i).toNat)
        case atStart => exact ⟨0, Nat.zero_le _, rfl, by rw [← HF.out, HP0.out]; rfl, hid (by rw [← HF.out, HP0.out]; decide)⟩
        case round =>
          obtain ⟨j, hj, rfl, rfl, hle⟩ := hrel
          have hle2 := hle.out
          have hj6 : j ≤ 6 := by
            rcases Nat.lt_or_ge 6 j with h | h
            · have h7 := HPL.out 7 j (by omega)
              rw [HF.out j] at h7
              rcases HP2.out 7 with h8 | h8 <;> omega
            · exact h
          by_cases hlt : j < K
          · have hs := HPS.out j
            rw [HF.out, HF.out] at hs
            have hmul : ((f (j + 1) : Nat) : Int) = (f j : Int) * (P : Int) := by rw [hs]; simp
            have hml : f j * P ≤ 64 * 61 := Nat.mul_le_mul hle2 (by omega)
            have hcp : (f j : Int) * (P : Int) ≤ 3904 ∧ 0 ≤ (f j : Int) * (P : Int) := by rw [← hmul, hs]; omega
            have HMUL := hid hmul.symm
            by_cases hbig : 64 < f (j + 1)
            · have hR : R = 0 := HB.out (j + 1) (by omega) (by rw [HF.out]; exact hbig)
              have hci : (64 : Int) < (f j : Int) * (P : Int) := by omega
              clear hs hmul hml hbig
              subst hR
              go_wp2
              go_ret
              exact ⟨rfl, rfl⟩
            · have hci : ¬ (64 : Int) < (f j : Int) * (P : Int) := by omega
              have HL : Hid (f (j + 1) ≤ 64) := hid (by omega)
              clear hs hmul hml hbig hle hle2
              generalize f j = x at *
              go_wp2
              go_round
              case rel => exact ⟨j + 1, by omega, by go_num, by rw [← HMUL.out], HL⟩
              case measure => simp [intOf] <;> omega
          · obtain rfl : j = K := by omega
            have hR : R = f j := by rw [← HF.out]; exact HO.out hj6 (by rw [HF.out]; exact hle2)
            have HR := hid hR
            clear hle hR
            go_wp2
            go_ret
            exact ⟨by rw [HR.out]; rfl, rfl⟩
      · have hR : ordF p k = 0 := ord_no (fun h => h1 h.1)
        rw [hR]
        have hpf : primeB p.toNat = false := by
          rcases Int.lt_or_le p 0 with hn | hn
          · rw [show p.toNat = 0 by omega]; decide
          · obtain ⟨P, rfl⟩ : ∃ P : Nat, p = (P : Int) := ⟨p.toNat, by omega⟩
            rw [Int.toNat_natCast, pr_same P (by omega), decide_eq_false h1]
        rw [hpf] at HP
        clear h1 hR hpf
        go_enter Tryd.func38, Tryd.ntmps38
        go_wp2_with fail
        refine HP.out.mono ?_
        rintro e w1 ⟨rfl, rfl⟩
        go_wp2
        go_ret
        exact ⟨rfl, rfl⟩
    · have hR : ordF p k = 0 := ord_no (fun h => h2 h.2.1)
      rw [hR]
      have t0 : ¬ 64 < p := by omega
      have t1 : k < 1 := by omega
      clear h2 hR
      go_enter Tryd.func38, Tryd.ntmps38
      go_wp2
      go_ret
      exact ⟨rfl, rfl⟩
  · have hR : ordF p k = 0 := ord_no (fun h => by have := pr_range h.1; omega)
    rw [hR]
    have t0 : 64 < p := by omega
    clear hR h0
    go_enter Tryd.func38, Tryd.ntmps38
    go_wp2
    go_ret
    exact ⟨rfl, rfl⟩
end Go.Proofs.YthdlhfgeminoiaaDoor
