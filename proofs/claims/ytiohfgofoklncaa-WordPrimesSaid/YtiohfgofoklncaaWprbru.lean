/-
  The walk over parterrelaw4.WordPrimes: for all numbers it returns true. No condition.
-/
import Derived.Test.YtiohfgofoklncaaWprimes2
import Derived.Test.YtiohfgofoklncaaWbruof
import Derived.Test.YtiohfgofoklncaaWints
namespace Go.Proofs.Ytiohfgofoklncaa
open Go.RowKit

theorem primes_both (k n : Int) : ∃ e x : Int,
    (∀ w, Calls Try.prog 21 #[.int .i64 k, .int .i64 n] w fun r w' => r = .returned (.int .i64 e) ∧ w = w') ∧
    (∀ w, Calls Try.prog 22 #[.int .i64 k, .int .i64 n] w fun r w' => r = .returned (.tuple #[.int .i64 x, .int .i64 e]) ∧ w = w') ∧
    ((e == 0) = true → ∀ w, Calls Try.prog 23 #[.int .i64 k, .int .i64 n] w fun r w' => r = .returned (.int .i64 x) ∧ w = w') ∧
    ((e == 0) = false → x = 0) := by
  by_cases h : k < 1 ∨ n < 1 ∨ 60 < n
  · exact ⟨1, 0, fun w => primesfault_range k n w h, fun w => Primes_range k n w h, fun h => by simp at h, fun _ => rfl⟩
  obtain ⟨k, rfl⟩ : ∃ m : Nat, k = (m : Int) := ⟨k.toNat, by omega⟩
  obtain ⟨n, rfl⟩ : ∃ m : Nat, n = (m : Int) := ⟨n.toNat, by omega⟩
  by_cases h2 : k ^ n ≤ 1000000000000000000
  · refine ⟨0, (sumA k n n).tdiv n, fun w => primesfault_ok k n w (by omega) (by omega) (by omega) h2, fun w => Primes_ok k n w (by omega) (by omega) (by omega) h2, fun _ w => ?_, fun h => by simp at h⟩
    rw [sum_same k n (by omega)]
    exact PrimesOf_ok k n w (by omega) (by omega) (by omega) h2
  · exact ⟨3, 0, fun w => primesfault_full k n w (by omega) (by omega) (by omega) (by omega), fun w => Primes_full k n w (by omega) (by omega) (by omega) (by omega), fun h => by simp at h, fun _ => rfl⟩

theorem bruijn_both (k n : Int) : ∃ e : Int,
    (∀ w, Calls Try.prog 24 #[.int .i64 k, .int .i64 n] w fun r w' => r = .returned (.int .i64 e) ∧ w = w') ∧
    ((e == 0) = false → ∀ w, Calls Try.prog 25 #[.int .i64 k, .int .i64 n] w fun r w' => r = .returned (.tuple #[.slice none 0 0, .int .i64 e]) ∧ w = w') ∧
    ((e == 0) = true → ∃ R : List Int, R.length ≤ 4096 ∧
      (∀ w, Calls Try.prog 25 #[.int .i64 k, .int .i64 n] w fun r w' => (∃ u, r = .returned (.tuple #[u, .int .i64 0]) ∧ OI w.heap.size w' u R) ∧ Below w.heap.size w w') ∧
      (∀ w, Calls Try.prog 26 #[.int .i64 k, .int .i64 n] w fun r w' => (∃ u, r = .returned u ∧ OI w.heap.size w' u R) ∧ Below w.heap.size w w')) := by
  by_cases h : k < 1 ∨ 10 < k ∨ n < 1
  · exact ⟨1, fun w => bruijnfault_range k n w h, fun _ w => Bruijn_range k n w h, fun h => by simp at h⟩
  by_cases h12 : 12 < n
  · exact ⟨3, fun w => bruijnfault_long k n w (by omega) (by omega) h12, fun _ w => Bruijn_long k n w (by omega) (by omega) h12, fun h => by simp at h⟩
  obtain ⟨k, rfl⟩ : ∃ m : Nat, k = (m : Int) := ⟨k.toNat, by omega⟩
  obtain ⟨n, rfl⟩ : ∃ m : Nat, n = (m : Int) := ⟨n.toNat, by omega⟩
  by_cases h2 : 4096 < k ^ n
  · refine ⟨3, fun w => ?_, fun _ w => Bruijn_full k n w (by omega) (by omega) (by omega) (by omega) h2, fun h => by simp at h⟩
    have := bruijnfault_small k n w (by omega) (by omega) (by omega) (by omega)
    rwa [if_pos h2] at this
  · refine ⟨0, fun w => ?_, fun h => by simp at h, fun _ => ⟨greed k n, greed_len (by omega), fun w => Bruijn_ok k n w (by omega) (by omega) (by omega) (by omega) (by omega), fun w => bruijnof_any k n w (by omega) (by omega) (by omega) (by omega) (by omega)⟩⟩
    have := bruijnfault_small k n w (by omega) (by omega) (by omega) (by omega)
    rwa [if_neg h2] at this

theorem wordPrimes_walk (w : World) (k : Int) (_ : I64 k) (n : Int) (_ : I64 n) (a : Int) (_ : I64 a) (b : Int) (_ : I64 b) :
    Calls Try.prog 6 #[.int .i64 k, .int .i64 n, .int .i64 a, .int .i64 b] w fun e w' => e = .returned (.bool true) ∧ Below w.heap.size w w' := by
  obtain ⟨e, x, p1, p2, p3, p4⟩ := primes_both k n
  obtain ⟨f, q1, q2, q3⟩ := bruijn_both a b
  have P1 := hid p1
  have P2 := hid p2
  have P3 := hid p3
  have Q1 := hid q1
  have Q2 := hid q2
  have Q3 := hid q3
  have P4 := hid p4
  clear p1 p2 p3 p4 q1 q2 q3
  cases he : e == 0 with
  | true =>
    obtain rfl : e = 0 := by simpa using he
    cases hf : f == 0 with
    | false =>
      have hf2 : (f != 0) = true := by simpa using hf
      have Q2' := hid (Q2.out hf)
      go_enter Try.func6, Try.ntmps6
      go_wp2_with fail
      refine (P1.out _).mono ?_
      rintro r w' ⟨rfl, rfl⟩
      go_wp2_with fail
      refine (P2.out _).mono ?_
      rintro r w' ⟨rfl, rfl⟩
      go_wp2_with fail
      refine (P3.out rfl _).mono ?_
      rintro r w' ⟨rfl, rfl⟩
      go_wp2_with fail
      refine (Q1.out _).mono ?_
      rintro r w' ⟨rfl, rfl⟩
      go_wp2_with fail
      refine (Q2'.out _).mono ?_
      rintro r w' ⟨rfl, rfl⟩
      go_wp2
      go_ret
      exact ⟨rfl, Below.refl _ _⟩
    | true =>
      obtain rfl : f = 0 := by simpa using hf
      obtain ⟨R, hR, r1, r2⟩ := Q3.out rfl
      have R1 := hid r1
      have R2 := hid r2
      clear r1 r2
      go_enter Try.func6, Try.ntmps6
      go_wp2_with fail
      refine (P1.out _).mono ?_
      rintro r w' ⟨rfl, rfl⟩
      go_wp2_with fail
      refine (P2.out _).mono ?_
      rintro r w' ⟨rfl, rfl⟩
      go_wp2_with fail
      refine (P3.out rfl _).mono ?_
      rintro r w' ⟨rfl, rfl⟩
      go_wp2_with fail
      refine (Q1.out _).mono ?_
      rintro r w' ⟨rfl, rfl⟩
      go_wp2_with fail
      refine (R1.out _).mono ?_
      rintro r w1 ⟨⟨u, rfl, hu⟩, hb1⟩
      go_wp2_with fail
      refine (R2.out _).mono ?_
      rintro r w2 ⟨⟨u2, rfl, hu2⟩, hb2⟩
      go_wp2_with fail
      refine (ints_any _ _ R R _ ((hu.below hb2).sl (by omega)) (hu2.sl (by omega))).mono ?_
      rintro r w' ⟨rfl, ⟨k, rfl⟩⟩
      have hfin := hb1.trans (hb2.mono hb1.size)
      go_wp2
      go_ret
      exact ⟨rfl, below_drewN hfin _⟩
  | false =>
    have he2 : (e != 0) = true := by simpa using he
    obtain rfl : x = 0 := P4.out he
    cases hf : f == 0 with
    | false =>
      have hf2 : (f != 0) = true := by simpa using hf
      have Q2' := hid (Q2.out hf)
      go_enter Try.func6, Try.ntmps6
      go_wp2_with fail
      refine (P1.out _).mono ?_
      rintro r w' ⟨rfl, rfl⟩
      go_wp2_with fail
      refine (P2.out _).mono ?_
      rintro r w' ⟨rfl, rfl⟩
      go_wp2_with fail
      refine (Q1.out _).mono ?_
      rintro r w' ⟨rfl, rfl⟩
      go_wp2_with fail
      refine (Q2'.out _).mono ?_
      rintro r w' ⟨rfl, rfl⟩
      go_wp2
      go_ret
      exact ⟨rfl, Below.refl _ _⟩
    | true =>
      obtain rfl : f = 0 := by simpa using hf
      obtain ⟨R, hR, r1, r2⟩ := Q3.out rfl
      have R1 := hid r1
      have R2 := hid r2
      clear r1 r2
      go_enter Try.func6, Try.ntmps6
      go_wp2_with fail
      refine (P1.out _).mono ?_
      rintro r w' ⟨rfl, rfl⟩
      go_wp2_with fail
      refine (P2.out _).mono ?_
      rintro r w' ⟨rfl, rfl⟩
      go_wp2_with fail
      refine (Q1.out _).mono ?_
      rintro r w' ⟨rfl, rfl⟩
      go_wp2_with fail
      refine (R1.out _).mono ?_
      rintro r w1 ⟨⟨u, rfl, hu⟩, hb1⟩
      go_wp2_with fail
      refine (R2.out _).mono ?_
      rintro r w2 ⟨⟨u2, rfl, hu2⟩, hb2⟩
      go_wp2_with fail
      refine (ints_any _ _ R R _ ((hu.below hb2).sl (by omega)) (hu2.sl (by omega))).mono ?_
      rintro r w' ⟨rfl, ⟨k, rfl⟩⟩
      have hfin := hb1.trans (hb2.mono hb1.size)
      go_wp2
      go_ret
      exact ⟨rfl, below_drewN hfin _⟩
end Go.Proofs.Ytiohfgofoklncaa
