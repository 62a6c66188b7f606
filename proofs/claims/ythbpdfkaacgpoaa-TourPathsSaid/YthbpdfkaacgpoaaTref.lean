/-
  The walks over parterreref4.PathsOf and CycleOf. Conditions: the tournament is right; the slice can be read.
-/
import Derived.Test.YthbpdfkaacgpoaaTwalk2
namespace Go.Proofs.Ythbpdfkaacgpoaa
set_option linter.unusedVariables false
open Go.RowKit

set_option maxHeartbeats 1000000 in
set_option maxRecDepth 100000 in
theorem PathsOf_ok (S : Nat) (u : Value) (l : List Int) (w : World) (hu : Sl w u l) (hS1 : 1 ≤ S) (hS9 : S ≤ 9) (hlen : l.length = S * S) :
    Calls Try.prog 14 #[sqV S u] w fun e w' => (∃ r, e = .returned (.tuple #[.int .i64 ((cmpF S (beB S l (S * S)) false S []).length : Nat), r]) ∧ HeadV w' r (cmpF S (beB S l (S * S)) false S [])) ∧ Below w.heap.size w w' := by
  have HC := hid (fun w1 (hb : Below w.heap.size w w1) => walked_ok S u l false hS1 hS9 hlen S [] (.slice none 0 0) w1 (by simp) (fun x hx => by cases hx) (hu.below hb) (Sl.nil' _ _))
  obtain ⟨ax, cx, e1⟩ := hu.len
  subst e1
  generalize l.length = N at *
  generalize cmpF S (beB S l (S * S)) false S [] = R at *
  have HW0 := hid (And.intro (Arr.new w 24 [.int .i64 (S : Int), .slice ax N cx]) ((Below.refl w.heap.size w).alloc (Nat.le_refl _) (.cells #[.int .i64 (S : Int), .slice ax N cx] 24)))
  have r1 := HW0.out.1.range
  clear hu hlen
  unfold sqV at HC
  unfold sqV
  go_enter Try.func14, Try.ntmps14
  go_wp2_with fail
  refine (HC.out _ HW0.out.2).mono ?_
  rintro e w2 ⟨⟨r, rfl, hr⟩, hb2⟩
  have HX := hid (And.intro hr (HW0.out.2.trans (hb2.mono HW0.out.2.size)))
  clear hr hb2 HW0 HC r1
  go_wp2
  go_ret2
  exact ⟨⟨_, rfl, HX.out.1⟩, HX.out.2⟩

set_option maxHeartbeats 1000000 in
set_option maxRecDepth 100000 in
theorem CycleOf_ok (S : Nat) (u : Value) (l : List Int) (w : World) (hu : Sl w u l) (hS1 : 1 ≤ S) (hS9 : S ≤ 9) (hlen : l.length = S * S) :
    Calls Try.prog 15 #[sqV S u] w fun e w' => (∃ r, e = .returned (.tuple #[r, .int .i64 (if (cmpF S (beB S l (S * S)) true (S - 1) [0]).length = 0 then 4 else 0)]) ∧ HeadV w' r (cmpF S (beB S l (S * S)) true (S - 1) [0])) ∧ Below w.heap.size w w' := by
  have HC := hid (fun v1 w1 (hb : Below w.heap.size w w1) (hv : Sl w1 v1 [0]) => walked_ok S u l true hS1 hS9 hlen (S - 1) [0] v1 w1 (by simp; omega) (fun x hx => by simp at hx; omega) (hu.below hb) hv)
  have hcl : (cmpF S (beB S l (S * S)) true (S - 1) [0]).length ≤ 387420489 := by
    have h1 := cmpF_len (N := S) (beB S l (S * S)) true (S - 1) [0]
    have h2 := pow99 hS9
    have h3 : S ^ (S - 1) ≤ S ^ S := Nat.pow_le_pow_right (by omega) (by omega)
    omega
  obtain ⟨ax, cx, e1⟩ := hu.len
  subst e1
  generalize l.length = N at *
  obtain ⟨R, hR⟩ : ∃ R, cmpF S (beB S l (S * S)) true (S - 1) [0] = R := ⟨_, rfl⟩
  rw [hR] at HC hcl ⊢
  clear hR
  have hb0 := ((Below.refl w.heap.size w).alloc (Nat.le_refl _) (.cells #[.int .i64 (S : Int), .slice ax N cx] 24)).alloc (by simp) (.cells #[.int .i64 0] 3)
  have hsl := (OI.lit1 0 (w.alloc (.cells #[.int .i64 (S : Int), .slice ax N cx] 24)) 0 (by omega)).sl (by simp)
  rw [World.size_alloc] at hsl
  have HC2 := hid (HC.out _ _ hb0 hsl)
  have HB := hid hb0
  clear hu hlen hb0 hsl HC
  unfold sqV at HC2
  unfold sqV
  by_cases h0 : R.length = 0
  · obtain rfl : R = [] := List.eq_nil_of_length_eq_zero h0
    clear h0 hcl
    go_enter Try.func15, Try.ntmps15
    go_wp2_with fail
    refine HC2.out.mono ?_
    rintro e w2 ⟨⟨r, rfl, hr⟩, hb2⟩
    have HX := hid (HB.out.trans (hb2.mono HB.out.size))
    clear hr hb2 HC2
    go_wp2
    go_ret2
    exact ⟨⟨_, rfl, rfl⟩, HX.out⟩
  · have HI : Hid ((if R.length = 0 then (4 : Int) else 0) = 0) := hid (if_neg h0)
    rw [HI.out]
    have hz : ((R.length : Int) == 0) = false := by rw [beq_eq_false_iff_ne]; omega
    clear h0 HI
    generalize hK : R.length = K at *
    clear hK
    go_enter Try.func15, Try.ntmps15
    go_wp2_with fail
    refine HC2.out.mono ?_
    rintro e w2 ⟨⟨r, rfl, hr⟩, hb2⟩
    have HX := hid (And.intro hr (HB.out.trans (hb2.mono HB.out.size)))
    clear hr hb2 HC2
    go_wp2
    go_ret2
    exact ⟨⟨_, rfl, HX.out.1⟩, HX.out.2⟩
end Go.Proofs.Ythbpdfkaacgpoaa
