/-
  The walk over parterrelaw4.TourLandau. Conditions: the slices can be read; the numbers are of 64 bits.
-/
import Derived.Test.YthbpdfkaacgpoaaTlanL
namespace Go.Proofs.Ythbpdfkaacgpoaa
set_option linter.unusedVariables false
open Go.RowKit

/-- What Could tells, parted: wrong; more than five; few. -/
theorem coE_part (m : List Int) : (coE m).2 ≠ 0 ∨ ((coE m) = (couS m, 0) ∧ 5 < m.length) ∨ ((coE m) = (couS m, 0) ∧ 1 ≤ m.length ∧ m.length ≤ 5 ∧ somB m m.length (2 ^ (m.length * (m.length - 1) / 2)) = couS m) := by
  by_cases h1 : 9 < m.length
  · left; unfold coE; rw [if_pos h1]; decide
  · by_cases h2 : m.length = 0
    · left; unfold coE; rw [if_neg h1, if_pos h2]; decide
    · cases h3 : m.any (offN m.length) with
      | true => left; unfold coE; rw [if_neg h1, if_neg h2, if_pos h3]; decide
      | false =>
        right
        have he : coE m = (couS m, 0) := by unfold coE couS; rw [if_neg h1, if_neg h2, if_neg (by rw [h3]; decide)]
        by_cases h5 : 5 < m.length
        · exact .inl ⟨he, h5⟩
        · exact .inr ⟨he, by omega, by omega, some_same (by omega) (by omega) h3⟩

set_option maxHeartbeats 4000000 in
set_option maxRecDepth 100000 in
theorem tourLandau_bad (w : World) (p : Int) (u : Value) (l : List Int) (hu : Sl w u l) (hi64 : ∀ x ∈ l, I64 x) (v : Value) (m : List Int) (hv : Sl w v m) (hm64 : ∀ x ∈ m, I64 x) (h : tE p l ≠ 0) :
    Calls Try.prog 9 #[sqV p u, v] w fun e w' => e = .returned (.bool true) ∧ Below w.heap.size w w' := by
  have HT := hid tourFact_any
  have HN := hid (fun w1 (hb : Below w.heap.size w w1) => Scores_bad p u l w1 (hu.below hb) hi64 h)
  have hne2 : (tE p l == 0) = false := by rw [beq_eq_false_iff_ne]; exact h
  have HCM := hid (fun w1 (hb : Below w.heap.size w w1) => Could_any v m w1 (hv.below hb) hm64)
  have HSM := hid (fun w1 (hb : Below w.heap.size w w1) (h1 : 1 ≤ m.length) (h5 : m.length ≤ 5) => SomeOf_ok v m m.length w1 (hv.below hb) rfl h1 h5)
  have hpart := coE_part m
  obtain ⟨av, cv, e2⟩ := hv.len
  subst e2
  obtain ⟨ax, cx, e1⟩ := hu.len
  subst e1
  generalize tE p l = E at *
  generalize l.length = N at *
  generalize somB m m.length (2 ^ (m.length * (m.length - 1) / 2)) = so at *
  generalize m.length = M at *
  have HW0 := hid (And.intro (Arr.new w 24 [.int .i64 p, .slice ax N cx]) ((Below.refl w.heap.size w).alloc (Nat.le_refl _) (.cells #[.int .i64 p, .slice ax N cx] 24)))
  clear hu hi64 h hv hm64 
  unfold sqV at HN
  unfold sqV
  rcases hpart with hz | ⟨hz, hM⟩ | ⟨hz, hM1, hM5, hso⟩
  · have hz2 : ((coE m).2 != 0) = true := by simpa using hz
    generalize (coE m).1 = cb at *
    generalize (coE m).2 = cz at *
    clear HSM hz
    go_enter Try.func9, Try.ntmps9
    go_wp2_with fail
    refine (HT.out _).mono ?_
    rintro e w1 ⟨rfl, hb1⟩
    have HW1 := hid (And.intro (HW0.out.1.below hb1) (HW0.out.2.trans (hb1.mono HW0.out.2.size)))
    have k1 := HW1.out.1.cell 0
    have j1 := HW1.out.1.cell 1
    simp only [List.getElem?_cons_zero, List.getElem?_cons_succ] at k1 j1
    clear HW0
    go_wp2_with fail
    refine (HN.out _ HW1.out.2).mono ?_
    rintro e w3 ⟨rfl, hb3⟩
    have HB3 := hid (HW1.out.2.trans (hb3.mono HW1.out.2.size))
    clear k1 j1 hb3 HN
    go_wp2_with fail
    refine (HCM.out _ HB3.out).mono ?_
    rintro e w4 ⟨rfl, hb4⟩
    have HB4 := hid (HB3.out.trans (hb4.mono HB3.out.size))
    clear hb4 HCM
    go_wp2
    go_ret
    exact ⟨rfl, HB4.out⟩
  · rw [hz] at HCM
    have hM5 : (5 : Int) < (M : Int) := by omega
    generalize couS m = cb at *
    clear HSM hz hM
    go_enter Try.func9, Try.ntmps9
    go_wp2_with fail
    refine (HT.out _).mono ?_
    rintro e w1 ⟨rfl, hb1⟩
    have HW1 := hid (And.intro (HW0.out.1.below hb1) (HW0.out.2.trans (hb1.mono HW0.out.2.size)))
    have k1 := HW1.out.1.cell 0
    have j1 := HW1.out.1.cell 1
    simp only [List.getElem?_cons_zero, List.getElem?_cons_succ] at k1 j1
    clear HW0
    go_wp2_with fail
    refine (HN.out _ HW1.out.2).mono ?_
    rintro e w3 ⟨rfl, hb3⟩
    have HB3 := hid (HW1.out.2.trans (hb3.mono HW1.out.2.size))
    clear k1 j1 hb3 HN
    go_wp2_with fail
    refine (HCM.out _ HB3.out).mono ?_
    rintro e w4 ⟨rfl, hb4⟩
    have HB4 := hid (HB3.out.trans (hb4.mono HB3.out.size))
    clear hb4 HCM
    go_wp2
    go_ret
    exact ⟨rfl, HB4.out⟩
  · rw [hz] at HCM
    rw [hso] at HSM
    have hM5' : ¬ (5 : Int) < (M : Int) := by omega
    generalize couS m = cb at *
    have hcc : (cb == cb) = true := by simp
    clear hz hso
    go_enter Try.func9, Try.ntmps9
    go_wp2_with fail
    refine (HT.out _).mono ?_
    rintro e w1 ⟨rfl, hb1⟩
    have HW1 := hid (And.intro (HW0.out.1.below hb1) (HW0.out.2.trans (hb1.mono HW0.out.2.size)))
    have k1 := HW1.out.1.cell 0
    have j1 := HW1.out.1.cell 1
    simp only [List.getElem?_cons_zero, List.getElem?_cons_succ] at k1 j1
    clear HW0
    go_wp2_with fail
    refine (HN.out _ HW1.out.2).mono ?_
    rintro e w3 ⟨rfl, hb3⟩
    have HB3 := hid (HW1.out.2.trans (hb3.mono HW1.out.2.size))
    clear k1 j1 hb3 HN
    go_wp2_with fail
    refine (HCM.out _ HB3.out).mono ?_
    rintro e w4 ⟨rfl, hb4⟩
    have HB4 := hid (HB3.out.trans (hb4.mono HB3.out.size))
    clear hb4 HCM
    go_wp2_with fail
    refine (HSM.out _ HB4.out hM1 hM5).mono ?_
    rintro e w5 ⟨rfl, hb5⟩
    have HB5 := hid (HB4.out.trans (hb5.mono HB4.out.size))
    clear hb5
    go_wp2
    go_ret
    exact ⟨by first | rfl | simp, HB5.out⟩

set_option maxHeartbeats 4000000 in
set_option maxRecDepth 100000 in
theorem tourLandau_ok (w : World) (p : Int) (u : Value) (l : List Int) (hu : Sl w u l) (hi64 : ∀ x ∈ l, I64 x) (v : Value) (m : List Int) (hv : Sl w v m) (hm64 : ∀ x ∈ m, I64 x) (h : tE p l = 0) :
    Calls Try.prog 9 #[sqV p u, v] w fun e w' => e = .returned (.bool true) ∧ Below w.heap.size w w' := by
  have HT := hid tourFact_any
  obtain ⟨S, rfl, hS1, hS9, hlen, h0, hB⟩ := tE_ok h
  have HN := hid (fun w1 (hb : Below w.heap.size w w1) => Scores_ok S u l w1 (hu.below hb) hi64 h hS1 hS9 hlen h0)
  have HCS : Hid (∀ u1 w1, Sl w1 u1 (scL S l) → Calls Try.prog 21 #[u1] w1 fun e w' => e = .returned (.tuple #[.bool true, .int .i64 0]) ∧ Below w1.heap.size w1 w') := hid (fun u1 w1 h1 => by
    have := Could_any u1 (scL S l) w1 h1 (fun x hx => by
      obtain ⟨i, hi, rfl⟩ := List.mem_map.1 hx
      have := rowS_bd h0 S i S
      unfold I64
      omega)
    rw [land_could hS1 hS9 h0 hB] at this
    exact this)
  have HCM := hid (fun w1 (hb : Below w.heap.size w w1) => Could_any v m w1 (hv.below hb) hm64)
  have HSM := hid (fun w1 (hb : Below w.heap.size w w1) (h1 : 1 ≤ m.length) (h5 : m.length ≤ 5) => SomeOf_ok v m m.length w1 (hv.below hb) rfl h1 h5)
  have hpart := coE_part m
  obtain ⟨av, cv, e2⟩ := hv.len
  subst e2
  obtain ⟨ax, cx, e1⟩ := hu.len
  subst e1
  generalize scL S l = Z at *
  generalize l.length = N at *
  generalize somB m m.length (2 ^ (m.length * (m.length - 1) / 2)) = so at *
  generalize m.length = M at *
  have HW0 := hid (And.intro (Arr.new w 24 [.int .i64 (S : Int), .slice ax N cx]) ((Below.refl w.heap.size w).alloc (Nat.le_refl _) (.cells #[.int .i64 (S : Int), .slice ax N cx] 24)))
  clear hu hi64 h hv hm64 h0 hB hlen
  unfold sqV at HN
  unfold sqV
  rcases hpart with hz | ⟨hz, hM⟩ | ⟨hz, hM1, hM5, hso⟩
  · have hz2 : ((coE m).2 != 0) = true := by simpa using hz
    generalize (coE m).1 = cb at *
    generalize (coE m).2 = cz at *
    clear HSM hz
    go_enter Try.func9, Try.ntmps9
    go_wp2_with fail
    refine (HT.out _).mono ?_
    rintro e w1 ⟨rfl, hb1⟩
    have HW1 := hid (And.intro (HW0.out.1.below hb1) (HW0.out.2.trans (hb1.mono HW0.out.2.size)))
    have k1 := HW1.out.1.cell 0
    have j1 := HW1.out.1.cell 1
    simp only [List.getElem?_cons_zero, List.getElem?_cons_succ] at k1 j1
    clear HW0
    go_wp2_with fail
    refine (HN.out _ HW1.out.2).mono ?_
    rintro e w2 ⟨⟨v2, rfl, hv2⟩, hb2⟩
    have HB2 := hid (HW1.out.2.trans (hb2.mono HW1.out.2.size))
    have HV2 := hid hv2
    clear k1 j1 hb2 hv2 HN
    go_wp2_with fail
    refine (HCS.out _ _ HV2.out).mono ?_
    rintro e w3 ⟨rfl, hb3⟩
    have HB3 := hid (HB2.out.trans (hb3.mono HB2.out.size))
    clear hb3 HCS
    go_wp2_with fail
    refine (HCM.out _ HB3.out).mono ?_
    rintro e w4 ⟨rfl, hb4⟩
    have HB4 := hid (HB3.out.trans (hb4.mono HB3.out.size))
    clear hb4 HCM
    go_wp2
    go_ret
    exact ⟨rfl, HB4.out⟩
  · rw [hz] at HCM
    have hM5 : (5 : Int) < (M : Int) := by omega
    generalize couS m = cb at *
    clear HSM hz hM
    go_enter Try.func9, Try.ntmps9
    go_wp2_with fail
    refine (HT.out _).mono ?_
    rintro e w1 ⟨rfl, hb1⟩
    have HW1 := hid (And.intro (HW0.out.1.below hb1) (HW0.out.2.trans (hb1.mono HW0.out.2.size)))
    have k1 := HW1.out.1.cell 0
    have j1 := HW1.out.1.cell 1
    simp only [List.getElem?_cons_zero, List.getElem?_cons_succ] at k1 j1
    clear HW0
    go_wp2_with fail
    refine (HN.out _ HW1.out.2).mono ?_
    rintro e w2 ⟨⟨v2, rfl, hv2⟩, hb2⟩
    have HB2 := hid (HW1.out.2.trans (hb2.mono HW1.out.2.size))
    have HV2 := hid hv2
    clear k1 j1 hb2 hv2 HN
    go_wp2_with fail
    refine (HCS.out _ _ HV2.out).mono ?_
    rintro e w3 ⟨rfl, hb3⟩
    have HB3 := hid (HB2.out.trans (hb3.mono HB2.out.size))
    clear hb3 HCS
    go_wp2_with fail
    refine (HCM.out _ HB3.out).mono ?_
    rintro e w4 ⟨rfl, hb4⟩
    have HB4 := hid (HB3.out.trans (hb4.mono HB3.out.size))
    clear hb4 HCM
    go_wp2
    go_ret
    exact ⟨rfl, HB4.out⟩
  · rw [hz] at HCM
    rw [hso] at HSM
    have hM5' : ¬ (5 : Int) < (M : Int) := by omega
    generalize couS m = cb at *
    have hcc : (cb == cb) = true := by simp
    clear hz hso
    go_enter Try.func9, Try.ntmps9
    go_wp2_with fail
    refine (HT.out _).mono ?_
    rintro e w1 ⟨rfl, hb1⟩
    have HW1 := hid (And.intro (HW0.out.1.below hb1) (HW0.out.2.trans (hb1.mono HW0.out.2.size)))
    have k1 := HW1.out.1.cell 0
    have j1 := HW1.out.1.cell 1
    simp only [List.getElem?_cons_zero, List.getElem?_cons_succ] at k1 j1
    clear HW0
    go_wp2_with fail
    refine (HN.out _ HW1.out.2).mono ?_
    rintro e w2 ⟨⟨v2, rfl, hv2⟩, hb2⟩
    have HB2 := hid (HW1.out.2.trans (hb2.mono HW1.out.2.size))
    have HV2 := hid hv2
    clear k1 j1 hb2 hv2 HN
    go_wp2_with fail
    refine (HCS.out _ _ HV2.out).mono ?_
    rintro e w3 ⟨rfl, hb3⟩
    have HB3 := hid (HB2.out.trans (hb3.mono HB2.out.size))
    clear hb3 HCS
    go_wp2_with fail
    refine (HCM.out _ HB3.out).mono ?_
    rintro e w4 ⟨rfl, hb4⟩
    have HB4 := hid (HB3.out.trans (hb4.mono HB3.out.size))
    clear hb4 HCM
    go_wp2_with fail
    refine (HSM.out _ HB4.out hM1 hM5).mono ?_
    rintro e w5 ⟨rfl, hb5⟩
    have HB5 := hid (HB4.out.trans (hb5.mono HB4.out.size))
    clear hb5
    go_wp2
    go_ret
    exact ⟨by first | rfl | simp, HB5.out⟩
theorem tourLandau_walk (w : World) (p : Int) (u : Value) (l : List Int) (hu : Sl w u l) (hi64 : ∀ x ∈ l, I64 x) (v : Value) (m : List Int) (hv : Sl w v m) (hm64 : ∀ x ∈ m, I64 x) :
    Calls Try.prog 9 #[sqV p u, v] w fun e w' => e = .returned (.bool true) ∧ Below w.heap.size w w' := by
  by_cases h : tE p l = 0
  · exact tourLandau_ok w p u l hu hi64 v m hv hm64 h
  · exact tourLandau_bad w p u l hu hi64 v m hv hm64 h
end Go.Proofs.Ythbpdfkaacgpoaa
