/-
  The walks over perm.Rank, parterreref1.Factorial and PermRank. Conditions: the slice can be read; a permutation where it is said.
-/
import Derived.Test.YtnbgnoimanpjnaaGPcyc
import Derived.Test.YtnbgnoimanpjnaaRankP
namespace Go.Proofs.Ytnbgnoimanpjnaa
set_option linter.unusedVariables false
open Go.RowKit

theorem sumN_none (g : Nat → Nat) : ∀ k, (∀ i, i < k → g i = 0) → sumN g k = 0 := fun k h => by rw [sumN_congr k (h := fun _ => 0) h, sumN_zero]

theorem fac_bd : ∀ n, n ≤ 12 → 1 ≤ fac n ∧ fac n ≤ 479001600 := by
  intro n h
  have : ∀ n, n < 13 → 1 ≤ fac n ∧ fac n ≤ 479001600 := by decide
  exact this n (by omega)
theorem factorial_ok (n : Nat) (w : World) (hn : n ≤ 12) :
    Calls Try.prog 31 #[.int .i64 n] w fun e w' => e = .returned (.int .i64 (fac n : Nat)) ∧ w = w' := by
  have HF := hid fac_bd
  have H1 : Hid (∀ k, fac (k + 1) = (k + 1) * fac k) := hid (fun k => rfl)
  have H0 : Hid (fac 0 = 1 ∧ fac 1 = 1) := hid ⟨rfl, rfl⟩
  generalize fac = F at *
  go_enter Try.func31, Try.ntmps31
  go_wp2
  go_loop [3, 4] (fun f i => ∃ k : Nat, 1 ≤ k ∧ (k ≤ n ∨ k = 1) ∧ i = .int .i64 (k + 1 : Nat) ∧ f = .int .i64 (F k : Nat)) (fun _ i => n + 2 - (intOf i).toNat)
  case atStart => exact ⟨1, Nat.le_refl _, .inr rfl, rfl, by rw [H0.out.2]; rfl⟩
  case round =>
    obtain ⟨k, hk1, hk, rfl, rfl⟩ := hrel
    obtain ⟨b1, b2⟩ := HF.out k (by omega)
    by_cases hlt : k + 1 ≤ n
    · have HX : Hid (F (k + 1) = (k + 1) * F k) := hid (H1.out k)
      obtain ⟨b3, b4⟩ := HF.out (k + 1) (by omega)
      rw [HX.out] at b3 b4
      have hc : (((k + 1) * F k : Nat) : Int) = (F k : Int) * ((k : Int) + 1) := by rw [Int.natCast_mul, Int.mul_comm]; rfl
      have HC := hid hc
      have hb : 1 ≤ (F k : Int) * ((k : Int) + 1) ∧ (F k : Int) * ((k : Int) + 1) ≤ 479001600 := by omega
      clear hc b3 b4
      go_wp2
      go_round
      case rel => exact ⟨k + 1, by omega, by omega, by go_num, by rw [HX.out, HC.out]⟩
      case measure => simp [intOf] <;> omega
    · go_wp2
      go_ret
      refine ⟨?_, rfl⟩
      by_cases h0 : n = 0
      · obtain rfl : k = 1 := by omega
        rw [h0, H0.out.1, H0.out.2]; rfl
      · obtain rfl : k = n := by omega
        rfl

/-- What ref counts. -/
theorem less_cut {f : Nat → Nat} {N i : Nat} (P : Pm N f) (hi : i < N) : sumN (fun x => if aheadB f i x = false then 1 else 0) (f i) = lessA f N i := by
  unfold lessA
  rw [← sumN_cut (fun x => if aheadB f i x = false then 1 else 0) N (Nat.le_of_lt (P.lt i hi))]
  refine sumN_congr N fun x hx => ?_
  by_cases h1 : x < f i
  · rw [if_pos h1]
    by_cases h2 : aheadB f i x = false
    · rw [if_pos h2, if_pos ⟨h1, h2⟩]
    · rw [if_neg h2, if_neg (fun h => h2 h.2)]
  · rw [if_neg h1, if_neg (fun h => h1 h.1)]
theorem ahead_succ (f : Nat → Nat) (j x : Nat) : aheadB f (j + 1) x = (aheadB f j x || f j == x) := by
  unfold aheadB
  rw [List.range_succ, List.any_append]
  simp
theorem rankS_bd {f : Nat → Nat} {N : Nat} (h12 : N ≤ 12) : ∀ i, i ≤ N → rankS f N i ≤ i * 5748019200
  | 0, _ => by simp [rankS]
  | i + 1, h => by
    have ih := rankS_bd (f := f) h12 i (by omega)
    have hl := (less_bd f N i).2
    have hf := (fac_bd (N - 1 - i) (by omega)).2
    simp only [rankS]
    have : lessA f N i * fac (N - 1 - i) ≤ 12 * 479001600 := Nat.mul_le_mul (by omega) hf
    omega
end Go.Proofs.Ytnbgnoimanpjnaa
