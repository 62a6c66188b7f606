/-
  The walks over the laws RecurRuns and RecurAdds, and over the closed fact that stands ahead of the second. Conditions: the slices can be read.
-/
import Derived.Test.YtlnfkkapepgilaaRrun
import Derived.Test.YtlnfkkapepgilaaWints
namespace Go.Proofs.Ytlnfkkapepgilaa
set_option linter.unusedVariables false
open Go.RowKit

theorem runE_taps {p : Int} {taps seed : List Int} (h : runE p taps seed = 0) : tapsE p taps = 0 := by
  unfold runE at h
  by_cases h1 : tapsE p taps = 0
  · exact h1
  · rw [if_pos h1] at h; exact h

theorem recurRuns_bad (w : World) (p : Int) (v u : Value) (taps seed : List Int) (n z : Int) (hv : Sl w v taps) (hu : Sl w u seed) (hz : z ≠ 0)
    (H : ∀ w1, Below w.heap.size w w1 → Calls Try.prog 27 #[.int .i64 p, v, u, .int .i64 n] w1 fun e w' => e = .returned (.tuple #[.slice none 0 0, .int .i64 z]) ∧ Below w1.heap.size w1 w')
    (hb : ∀ x ∈ taps, I64 x) (hc : (runE p taps seed = z) ∨ (runE p taps seed = 0 ∧ z = 1 ∧ (n < 0 ∨ 5000 < n))) :
    Calls Try.prog 7 #[.int .i64 p, v, u, .int .i64 n] w fun e w' => e = .returned (.bool true) ∧ Below w.heap.size w w' := by
  have h1 := hid (fun w1 (h : Below w.heap.size w w1) => tapsfault_any p v taps w1 (hv.below h))
  have h2 := hid (fun w1 (h : Below w.heap.size w w1) => rcheck_any p v taps w1 (hv.below h) hb)
  have h3 := hid (fun w1 (h : Below w.heap.size w w1) => runfault_any p v u taps seed w1 (hv.below h) (hu.below h))
  have HH := hid H
  have hq : (z != 0) = true := by simpa using hz
  have hq0 : (z == 0) = false := by simpa using hz
  have hq2 : (z == z) = true := by simp
  have hq3 : (tapsE p taps != tapsE p taps) = false := by simp
  have B0 := hid (Below.refl w.heap.size w)
  clear hv hu hb H hz
  rcases hc with hc | ⟨hc, rfl, hn⟩
  · rw [hc] at h3
    clear hc
    generalize tapsE p taps = t at *
    go_enter Try.func7, Try.ntmps7
    go_wp2_with fail
    refine (h1.out _ B0.out).mono ?_
    rintro e w1 ⟨rfl, m1, rfl⟩
    go_wp2_with fail
    refine (h2.out _ (below_drewN B0.out _)).mono ?_
    rintro e w2 ⟨rfl, hb2⟩
    have B2 := hid ((below_drewN B0.out m1).trans (hb2.mono (Nat.le_refl _)))
    clear hb2
    go_wp2_with fail
    refine (h3.out _ B2.out).mono ?_
    rintro e w3 ⟨rfl, m3, rfl⟩
    go_wp2_with fail
    refine (HH.out _ (below_drewN B2.out _)).mono ?_
    rintro e w4 ⟨rfl, hb4⟩
    have B4 := hid ((below_drewN B2.out m3).trans (hb4.mono B2.out.size))
    clear hb4
    go_wp2
    go_ret
    exact ⟨rfl, B4.out⟩
  · rw [hc] at h3
    clear hc
    generalize tapsE p taps = t at *
    rcases hn with hn | hn
    all_goals
      go_enter Try.func7, Try.ntmps7
      go_wp2_with fail
      refine (h1.out _ B0.out).mono ?_
      rintro e w1 ⟨rfl, m1, rfl⟩
      go_wp2_with fail
      refine (h2.out _ (below_drewN B0.out _)).mono ?_
      rintro e w2 ⟨rfl, hb2⟩
      have B2 := hid ((below_drewN B0.out m1).trans (hb2.mono (Nat.le_refl _)))
      clear hb2
      go_wp2_with fail
      refine (h3.out _ B2.out).mono ?_
      rintro e w3 ⟨rfl, m3, rfl⟩
      go_wp2_with fail
      refine (HH.out _ (below_drewN B2.out _)).mono ?_
      rintro e w4 ⟨rfl, hb4⟩
      have B4 := hid ((below_drewN B2.out m3).trans (hb4.mono B2.out.size))
      clear hb4
      go_wp2
      go_ret
      exact ⟨rfl, B4.out⟩

theorem recurRuns_good (w : World) (p : Int) (v u : Value) (taps seed : List Int) (n : Nat) (hv : Sl w v taps) (hu : Sl w u seed) (hb : ∀ x ∈ taps, I64 x) (hn : n ≤ 5000) (hc : runE p taps seed = 0)
    (H : ∀ w1, Below w.heap.size w w1 → Calls Try.prog 27 #[.int .i64 p, v, u, .int .i64 n] w1 fun e w' => (∃ r, e = .returned (.tuple #[r, .int .i64 0]) ∧ OI w1.heap.size w' r (rowL p taps seed n)) ∧ Below w1.heap.size w1 w') :
    Calls Try.prog 7 #[.int .i64 p, v, u, .int .i64 n] w fun e w' => e = .returned (.bool true) ∧ Below w.heap.size w w' := by
  have R := runE_ok hc
  have h1 := hid (fun w1 (h : Below w.heap.size w w1) => tapsfault_any p v taps w1 (hv.below h))
  have h2 := hid (fun w1 (h : Below w.heap.size w w1) => rcheck_any p v taps w1 (hv.below h) hb)
  have h3 := hid (fun w1 (h : Below w.heap.size w w1) => runfault_any p v u taps seed w1 (hv.below h) (hu.below h))
  have h4 := hid (fun w1 (h : Below w.heap.size w w1) => rowof_ok p v u taps seed n w1 (hv.below h) (hu.below h) R (by omega))
  have HH := hid H
  rw [runE_taps hc] at h1 h2
  rw [hc] at h3
  have B0 := hid (Below.refl w.heap.size w)
  have HL := hid (rowL_len p taps seed n)
  clear hv hu hb H R hc
  generalize rowL p taps seed n = xs at *
  go_enter Try.func7, Try.ntmps7
  go_wp2_with fail
  refine (h1.out _ B0.out).mono ?_
  rintro e w1 ⟨rfl, m1, rfl⟩
  go_wp2_with fail
  refine (h2.out _ (below_drewN B0.out _)).mono ?_
  rintro e w2 ⟨rfl, hb2⟩
  have B2 := hid ((below_drewN B0.out m1).trans (hb2.mono (Nat.le_refl _)))
  clear hb2
  go_wp2_with fail
  refine (h3.out _ B2.out).mono ?_
  rintro e w3 ⟨rfl, m3, rfl⟩
  go_wp2_with fail
  refine (HH.out _ (below_drewN B2.out _)).mono ?_
  rintro e w4 ⟨⟨r, rfl, hr⟩, hb4⟩
  have B4 := hid ((below_drewN B2.out m3).trans (hb4.mono B2.out.size))
  clear hb4
  go_wp2_with fail
  refine (h4.out _ B4.out).mono ?_
  rintro e w5 ⟨⟨r2, rfl, hr2⟩, hb5⟩
  have B5 := hid (B4.out.trans (hb5.mono B4.out.size))
  have hr' := hid (hr.below hb5)
  have hr2' := hid hr2
  clear hb5 hr hr2
  go_wp2_with fail
  refine (ints_any _ _ xs xs _ (hr'.out.sl (by rw [HL.out]; omega)) (hr2'.out.sl (by rw [HL.out]; omega))).mono ?_
  rintro e w6 ⟨rfl, m6, rfl⟩
  have hd : decide (xs = xs) = true := by simp
  go_wp2
  go_ret
  exact ⟨rfl, below_drewN B5.out _⟩

theorem recurRuns_walk (w : World) (p : Int) (_ : I64 p) (v : Value) (taps : List Int) (hv : Sl w v taps) (hb : ∀ x ∈ taps, I64 x) (u : Value) (seed : List Int) (hu : Sl w u seed) (hb2 : ∀ x ∈ seed, I64 x) (n : Int) (_ : I64 n) :
    Calls Try.prog 7 #[.int .i64 p, v, u, .int .i64 n] w fun e w' => e = .returned (.bool true) ∧ Below w.heap.size w w' := by
  by_cases h : runE p taps seed = 0
  · by_cases hn : n < 0 ∨ 5000 < n
    · exact recurRuns_bad w p v u taps seed n 1 hv hu (by omega) (fun w1 h1 => Run_range p v u taps seed n w1 (hv.below h1) (hu.below h1) hb hb2 h hn) hb (.inr ⟨h, rfl, hn⟩)
    · obtain ⟨m, rfl⟩ : ∃ m : Nat, n = (m : Int) := ⟨n.toNat, by omega⟩
      refine recurRuns_good w p v u taps seed m hv hu hb (by omega) h fun w1 h1 => ?_
      rcases Nat.eq_zero_or_pos m with h0 | h0
      · subst h0
        refine (Run_zero p v u taps seed w1 (hv.below h1) (hu.below h1) hb hb2 h).mono ?_
        rintro e w' ⟨rfl, hb'⟩
        exact ⟨⟨_, rfl, OI.nil _ _⟩, hb'⟩
      · exact Run_ok p v u taps seed m w1 (hv.below h1) (hu.below h1) hb hb2 h h0 (by omega)
  · exact recurRuns_bad w p v u taps seed n _ hv hu h (fun w1 h1 => Run_fault p v u taps seed n w1 (hv.below h1) (hu.below h1) hb hb2 h) hb (.inl rfl)
end Go.Proofs.Ytlnfkkapepgilaa
