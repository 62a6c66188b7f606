/-
  The walks over recur.Period and the law RecurPeriods. Conditions: the slices can be read.
-/
import Derived.Test.YtlnfkkapepgilaaRper
import Derived.Test.YtlnfkkapepgilaaRlaw1
namespace Go.Proofs.Ytlnfkkapepgilaa
set_option linter.unusedVariables false
open Go.RowKit

theorem periodof_no (p : Int) (v u : Value) (taps seed : List Int) (w : World) (hv : Sl w v taps) (R : Recur p taps seed) (hz : ¬ p ^ seed.length ≤ 20000) :
    Calls Try.prog 31 #[.int .i64 p, v, u] w fun e w' => e = .returned (.tuple #[.int .i64 0, .int .i64 0, .int .i64 3]) ∧ w = w' := by
  have hk8 := R.k8
  have HST := hid (states_no p 20000 taps.length w R.p2 R.p7 (by omega) (by omega) (by rw [← R.len]; exact hz) (by have := R.len; omega))
  obtain ⟨a1, c1, N, rfl, hN, hl1, _⟩ := hv.open
  rw [hN.out] at HST
  clear hz R hk8 hv
  go_enter Try.func31, Try.ntmps31
  go_wp2_with fail
  refine HST.out.mono ?_
  rintro e w' ⟨rfl, rfl⟩
  go_wp2
  go_ret3
  exact ⟨rfl, rfl⟩

theorem Period_fault (p : Int) (v u : Value) (taps seed : List Int) (w : World) (hv : Sl w v taps) (hu : Sl w u seed) (hb : ∀ x ∈ taps, I64 x) (hb2 : ∀ x ∈ seed, I64 x) (h : runE p taps seed ≠ 0) :
    Calls Try.prog 30 #[.int .i64 p, v, u] w fun e w' => e = .returned (.tuple #[.int .i64 0, .int .i64 0, .int .i64 (runE p taps seed)]) ∧ Below w.heap.size w w' := by
  have hq : (runE p taps seed != 0) = true := by simpa using h
  have HC := hid (rcheck2_any p v u taps seed _ hv hu hb hb2)
  generalize runE p taps seed = z at *
  clear h hb hb2
  go_enter Try.func30, Try.ntmps30
  go_wp2_with fail
  refine HC.out.mono ?_
  rintro e w1 ⟨rfl, hb1⟩
  go_wp2
  go_ret3
  exact ⟨rfl, hb1⟩

theorem Period_full (p : Int) (v u : Value) (taps seed : List Int) (w : World) (hv : Sl w v taps) (hu : Sl w u seed) (hb : ∀ x ∈ taps, I64 x) (hb2 : ∀ x ∈ seed, I64 x) (h : runE p taps seed = 0) (hz : ¬ p ^ seed.length ≤ 20000) :
    Calls Try.prog 30 #[.int .i64 p, v, u] w fun e w' => e = .returned (.tuple #[.int .i64 0, .int .i64 0, .int .i64 3]) ∧ Below w.heap.size w w' := by
  have R := runE_ok h
  have hk8 := R.k8
  have HC := hid (rcheck2_any p v u taps seed _ hv hu hb hb2)
  have HP := hid (fun (w : World) => rpower_no p 20000 taps.length w R.p2 R.p7 (by omega) (by omega) (by rw [← R.len]; exact hz) (by have := R.len; omega))
  rw [h] at HC
  obtain ⟨a1, c1, N, rfl, hN, hl1, _⟩ := hv.open
  rw [hN.out] at HP
  clear h hb hb2 hz R hk8 hv hu
  go_enter Try.func30, Try.ntmps30
  go_wp2_with fail
  refine HC.out.mono ?_
  rintro e w1 ⟨rfl, hb1⟩
  go_wp2_with fail
  refine (HP.out _).mono ?_
  rintro e w2 ⟨rfl, rfl⟩
  go_wp2
  go_ret3
  exact ⟨rfl, hb1⟩

theorem Period_ok (p : Int) (v u : Value) (taps seed : List Int) (a b : Nat) (w : World) (hv : Sl w v taps) (hu : Sl w u seed) (hb : ∀ x ∈ taps, I64 x) (hb2 : ∀ x ∈ seed, I64 x) (h : runE p taps seed = 0) (hz : p ^ seed.length ≤ 20000) (P : PerOf p taps seed a b) (hab : ((a + b : Nat) : Int) ≤ p ^ seed.length) :
    Calls Try.prog 30 #[.int .i64 p, v, u] w fun e w' => e = .returned (.tuple #[.int .i64 a, .int .i64 b, .int .i64 0]) ∧ Below w.heap.size w w' := by
  have R := runE_ok h
  have hk8 := R.k8
  have HC := hid (rcheck2_any p v u taps seed _ hv hu hb hb2)
  have HP := hid (fun (w : World) => rpower_ok p 20000 taps.length w R.p2 R.p7 (by omega) (by rw [← R.len]; exact hz) (by have := R.len; omega))
  rw [h] at HC
  have hpos := pow_pos' (p := p) (by have := R.p2; omega) seed.length
  obtain ⟨S, hS⟩ : ∃ S : Nat, p ^ seed.length = (S : Int) := ⟨(p ^ seed.length).toNat, by omega⟩
  have HE := hid (fun w1 (hb : Below w.heap.size w w1) => period_ok p v u taps seed a b S w1 (hv.below hb) (hu.below hb) R hS (by omega) P (by omega))
  rw [← R.len, hS] at HP
  obtain ⟨a1, c1, N, rfl, hN, hl1, _⟩ := hv.open
  rw [R.len, hN.out] at HP
  clear h hb hb2 hz R hk8 hv hu P hab hS hpos
  go_enter Try.func30, Try.ntmps30
  go_wp2_with fail
  refine HC.out.mono ?_
  rintro e w1 ⟨rfl, hb1⟩
  go_wp2_with fail
  refine (HP.out _).mono ?_
  rintro e w2 ⟨rfl, rfl⟩
  go_wp2_with fail
  refine (HE.out _ hb1).mono ?_
  rintro e w3 ⟨rfl, hb3⟩
  have HB3 := hid (hb1.trans (hb3.mono hb1.size))
  clear hb3
  go_wp2
  go_ret3
  exact ⟨rfl, HB3.out⟩

theorem recurPeriods_bad (w : World) (p : Int) (v u : Value) (taps seed : List Int) (hv : Sl w v taps) (hu : Sl w u seed) (hb : ∀ x ∈ taps, I64 x) (hb2 : ∀ x ∈ seed, I64 x) (h : runE p taps seed ≠ 0) :
    Calls Try.prog 9 #[.int .i64 p, v, u] w fun e w' => e = .returned (.bool true) ∧ Below w.heap.size w w' := by
  have hq : (runE p taps seed != 0) = true := by simpa using h
  have H1 := hid (runfault_any p v u taps seed w hv hu)
  have H2 := hid (fun w1 (hh : Below w.heap.size w w1) => Period_fault p v u taps seed w1 (hv.below hh) (hu.below hh) hb hb2 h)
  clear hv hu hb hb2 h
  generalize runE p taps seed = z at *
  have B0 := hid (Below.refl w.heap.size w)
  go_enter Try.func9, Try.ntmps9
  go_wp2_with fail
  refine H1.out.mono ?_
  rintro e w1 ⟨rfl, m1, rfl⟩
  go_wp2_with fail
  refine (H2.out _ (below_drewN B0.out _)).mono ?_
  rintro e w2 ⟨rfl, hb2⟩
  have B2 := hid ((below_drewN B0.out m1).trans (hb2.mono (Nat.le_refl _)))
  clear hb2
  go_wp2
  go_ret
  exact ⟨rfl, B2.out⟩

theorem recurPeriods_good (w : World) (p : Int) (v u : Value) (taps seed : List Int) (a b z : Int) (hv : Sl w v taps) (hu : Sl w u seed) (h : runE p taps seed = 0)
    (Q1 : ∀ w1, Below w.heap.size w w1 → Calls Try.prog 30 #[.int .i64 p, v, u] w1 fun e w' => e = .returned (.tuple #[.int .i64 a, .int .i64 b, .int .i64 z]) ∧ Below w1.heap.size w1 w')
    (Q2 : ∀ w1, Below w.heap.size w w1 → Calls Try.prog 31 #[.int .i64 p, v, u] w1 fun e w' => e = .returned (.tuple #[.int .i64 a, .int .i64 b, .int .i64 z]) ∧ Below w1.heap.size w1 w') :
    Calls Try.prog 9 #[.int .i64 p, v, u] w fun e w' => e = .returned (.bool true) ∧ Below w.heap.size w w' := by
  have H1 := hid (runfault_any p v u taps seed w hv hu)
  rw [h] at H1
  have H2 := hid Q1
  have H3 := hid Q2
  have e1 : (a == a) = true := by simp
  have e2 : (b == b) = true := by simp
  have e3 : (z == z) = true := by simp
  clear hv hu h Q1 Q2
  have B0 := hid (Below.refl w.heap.size w)
  go_enter Try.func9, Try.ntmps9
  go_wp2_with fail
  refine H1.out.mono ?_
  rintro e w1 ⟨rfl, m1, rfl⟩
  go_wp2_with fail
  refine (H2.out _ (below_drewN B0.out _)).mono ?_
  rintro e w2 ⟨rfl, hb2⟩
  have B2 := hid ((below_drewN B0.out m1).trans (hb2.mono (Nat.le_refl _)))
  clear hb2
  go_wp2_with fail
  refine (H3.out _ B2.out).mono ?_
  rintro e w3 ⟨rfl, hb3⟩
  have B3 := hid (B2.out.trans (hb3.mono B2.out.size))
  clear hb3
  go_wp2
  go_ret
  exact ⟨rfl, B3.out⟩

theorem recurPeriods_walk (w : World) (p : Int) (_ : I64 p) (v : Value) (taps : List Int) (hv : Sl w v taps) (hb : ∀ x ∈ taps, I64 x) (u : Value) (seed : List Int) (hu : Sl w u seed) (hb2 : ∀ x ∈ seed, I64 x) :
    Calls Try.prog 9 #[.int .i64 p, v, u] w fun e w' => e = .returned (.bool true) ∧ Below w.heap.size w w' := by
  by_cases h : runE p taps seed = 0
  · have R := runE_ok h
    by_cases hz : p ^ seed.length ≤ 20000
    · obtain ⟨a, b, P, hab⟩ := per_ex (p := p) (taps := taps) (seed := seed) (by have := R.p2; omega) R.fs
      exact recurPeriods_good w p v u taps seed a b 0 hv hu h (fun w1 h1 => Period_ok p v u taps seed a b w1 (hv.below h1) (hu.below h1) hb hb2 h hz P hab) (fun w1 h1 => periodof_ok p v u taps seed a b w1 (hv.below h1) (hu.below h1) R hz P hab)
    · refine recurPeriods_good w p v u taps seed 0 0 3 hv hu h (fun w1 h1 => Period_full p v u taps seed w1 (hv.below h1) (hu.below h1) hb hb2 h hz) (fun w1 h1 => (periodof_no p v u taps seed w1 (hv.below h1) R hz).mono ?_)
      rintro e w' ⟨rfl, rfl⟩
      exact ⟨rfl, Below.refl _ _⟩
  · exact recurPeriods_bad w p v u taps seed hv hu hb hb2 h
end Go.Proofs.Ytlnfkkapepgilaa
