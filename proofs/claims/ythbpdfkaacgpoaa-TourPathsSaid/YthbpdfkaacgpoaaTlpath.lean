/-
  The walk over parterrelaw4.TourPaths, where the tournament is wrong. Conditions: the slice can be read; the numbers are of 64 bits.
-/
import Derived.Test.YthbpdfkaacgpoaaTref
import Derived.Test.YthbpdfkaacgpoaaTglue
import Derived.Test.YthbpdfkaacgpoaaWints
namespace Go.Proofs.Ythbpdfkaacgpoaa
set_option linter.unusedVariables false
open Go.RowKit

set_option maxHeartbeats 2000000 in
set_option maxRecDepth 100000 in
theorem tourPaths_bad (w : World) (p : Int) (u : Value) (l : List Int) (hu : Sl w u l) (hi64 : ∀ x ∈ l, I64 x) (h : tE p l ≠ 0) :
    Calls Try.prog 3 #[sqV p u] w fun e w' => e = .returned (.bool true) ∧ Below w.heap.size w w' := by
  have HF := hid (fun w1 (hb : Below w.heap.size w w1) => TourFault_any p u l w1 (hu.below hb) hi64)
  have HP := hid (fun w1 (hb : Below w.heap.size w w1) => Path_bad p u l w1 (hu.below hb) hi64 h)
  have HN := hid (fun w1 (hb : Below w.heap.size w w1) => Paths_bad p u l w1 (hu.below hb) hi64 h)
  have HC := hid (fun w1 (hb : Below w.heap.size w w1) => Cycle_bad p u l w1 (hu.below hb) hi64 h)
  obtain ⟨ax, cx, e1⟩ := hu.len
  subst e1
  have hne2 : (tE p l != 0) = true := by simpa using h
  generalize tE p l = E at *
  generalize l.length = N at *
  have HW0 := hid (And.intro (Arr.new w 24 [.int .i64 p, .slice ax N cx]) ((Below.refl w.heap.size w).alloc (Nat.le_refl _) (.cells #[.int .i64 p, .slice ax N cx] 24)))
  have k0 := HW0.out.1.cell 0
  have j0 := HW0.out.1.cell 1
  simp only [List.getElem?_cons_zero, List.getElem?_cons_succ] at k0 j0
  clear hu hi64 h
  unfold sqV at HF HP HN HC
  unfold sqV
  go_enter Try.func3, Try.ntmps3
  go_wp2_with fail
  refine (HF.out _ HW0.out.2).mono ?_
  rintro e w1 ⟨rfl, hb1⟩
  have HW1 := hid (And.intro (HW0.out.1.below hb1) (HW0.out.2.trans (hb1.mono HW0.out.2.size)))
  have k1 := HW1.out.1.cell 0
  have j1 := HW1.out.1.cell 1
  simp only [List.getElem?_cons_zero, List.getElem?_cons_succ] at k1 j1
  clear k0 j0 HF
  go_wp2_with fail
  refine (HP.out _ HW1.out.2).mono ?_
  rintro e w2 ⟨rfl, hb2⟩
  have HW2 := hid (And.intro (HW1.out.1.below hb2) (HW1.out.2.trans (hb2.mono HW1.out.2.size)))
  have k2 := HW2.out.1.cell 0
  have j2 := HW2.out.1.cell 1
  simp only [List.getElem?_cons_zero, List.getElem?_cons_succ] at k2 j2
  clear k1 j1 HP
  go_wp2_with fail
  refine (HN.out _ HW2.out.2).mono ?_
  rintro e w3 ⟨rfl, hb3⟩
  have HW3 := hid (And.intro (HW2.out.1.below hb3) (HW2.out.2.trans (hb3.mono HW2.out.2.size)))
  have k3 := HW3.out.1.cell 0
  have j3 := HW3.out.1.cell 1
  simp only [List.getElem?_cons_zero, List.getElem?_cons_succ] at k3 j3
  clear k2 j2 HN
  go_wp2_with fail
  refine (HC.out _ HW3.out.2).mono ?_
  rintro e w4 ⟨rfl, hb4⟩
  have HW4 := hid (And.intro (HW3.out.1.below hb4) (HW3.out.2.trans (hb4.mono HW3.out.2.size)))
  have k4 := HW4.out.1.cell 0
  have j4 := HW4.out.1.cell 1
  simp only [List.getElem?_cons_zero, List.getElem?_cons_succ] at k4 j4
  clear k3 j3 HC
  clear k4 j4
  go_wp2
  go_ret
  exact ⟨rfl, HW4.out.2⟩

set_option maxHeartbeats 2000000 in
set_option maxRecDepth 100000 in
theorem tourPaths_ok (w : World) (p : Int) (u : Value) (l : List Int) (hu : Sl w u l) (hi64 : ∀ x ∈ l, I64 x) (h : tE p l = 0) :
    Calls Try.prog 3 #[sqV p u] w fun e w' => e = .returned (.bool true) ∧ Below w.heap.size w w' := by
  obtain ⟨S, rfl, hS1, hS9, hlen, h0, hB⟩ := tE_ok h
  have HF := hid (fun w1 (hb : Below w.heap.size w w1) => TourFault_any S u l w1 (hu.below hb) hi64)
  rw [h] at HF
  obtain ⟨r, R, hR⟩ := path_some hS9 h0 hB
  have HP := hid (fun w1 (hb : Below w.heap.size w w1) => Path_yes S u l w1 (hu.below hb) hi64 h hS1 hS9 hlen (r := r) (by rw [hR]; rfl))
  have HN := hid (fun w1 (hb : Below w.heap.size w w1) => Paths_ok S u l w1 (hu.below hb) hi64 h hS1 hS9 hlen)
  have HQ := hid (fun w1 (hb : Below w.heap.size w w1) => PathsOf_ok S u l w1 (hu.below hb) hS1 hS9 hlen)
  rw [cmpF_all, hR] at HQ
  rw [hR] at HN
  have HD := hid (fun w1 (hb : Below w.heap.size w w1) => CycleOf_ok S u l w1 (hu.below hb) hS1 hS9 hlen)
  rw [cmpF_ring] at HD
  have hfd := cyc_find (S := S) (SB := beB S l (S * S)) hS1
  have HC : ∃ (z : Int) (c : List Int), (c.length ≤ 100) ∧ Hid (∀ w1, Below w.heap.size w w1 → Calls Try.prog 13 #[sqV S u] w1 fun e w' => (∃ v, e = .returned (.tuple #[v, .int .i64 z]) ∧ Sl w' v c) ∧ Below w1.heap.size w1 w') ∧ Hid (∀ w1, Below w.heap.size w w1 → Calls Try.prog 15 #[sqV S u] w1 fun e w' => (∃ v, e = .returned (.tuple #[v, .int .i64 z]) ∧ Sl w' v c) ∧ Below w1.heap.size w1 w') := by
    cases hf : ((comp S (beB S l (S * S)) (S - 1) [0]).filter (clB (beB S l (S * S)))) with
    | nil =>
      rw [hf] at hfd HD
      refine ⟨4, [], by simp, hid (fun w1 hb => (Cycle_no S u l w1 (hu.below hb) hi64 h hS1 hS9 hlen hfd).mono ?_), hid (fun w1 hb => (HD.out w1 hb).mono ?_)⟩
      · rintro e w' ⟨rfl, hb'⟩; exact ⟨⟨_, rfl, Sl.nil' _ _⟩, hb'⟩
      · rintro e w' ⟨⟨v, rfl, hv⟩, hb'⟩
        obtain rfl : v = .slice none 0 0 := hv
        exact ⟨⟨_, rfl, Sl.nil' _ _⟩, hb'⟩
    | cons c C =>
      rw [hf] at hfd HD
      have hcm : c ∈ comp S (beB S l (S * S)) S [] := List.mem_of_find?_eq_some hfd
      obtain ⟨Q, hQ, _, _, _, hQl⟩ := comp_sound (N := S) (SB := beB S l (S * S)) S [] trivial (by simp) (fun z hz => by cases hz) c hcm
      refine ⟨0, c, by rw [hQ, List.length_map, hQl]; simp; omega, hid (fun w1 hb => Cycle_yes S u l w1 (hu.below hb) hi64 h hS1 hS9 hlen hfd), hid (fun w1 hb => (HD.out w1 hb).mono ?_)⟩
      rintro e w' ⟨⟨v, rfl, hv⟩, hb'⟩
      exact ⟨⟨_, rfl, hv⟩, hb'⟩
  obtain ⟨z, c, hc100, HC1, HC2⟩ := HC
  clear HD hfd
  obtain ⟨ax, cx, e1⟩ := hu.len
  subst e1
  generalize l.length = N at *
  have HW0 := hid (And.intro (Arr.new w 24 [.int .i64 (S : Int), .slice ax N cx]) ((Below.refl w.heap.size w).alloc (Nat.le_refl _) (.cells #[.int .i64 (S : Int), .slice ax N cx] 24)))
  have k0 := HW0.out.1.cell 0
  have j0 := HW0.out.1.cell 1
  simp only [List.getElem?_cons_zero, List.getElem?_cons_succ] at k0 j0
  generalize (r :: R).length = K at *
  clear hu hi64 h hR h0 hB hlen
  unfold sqV at HF HP HN HC1 HC2 HQ
  unfold sqV
  go_enter Try.func3, Try.ntmps3
  go_wp2_with fail
  refine (HF.out _ HW0.out.2).mono ?_
  rintro e w1 ⟨rfl, hb1⟩
  have HW1 := hid (And.intro (HW0.out.1.below hb1) (HW0.out.2.trans (hb1.mono HW0.out.2.size)))
  have k1 := HW1.out.1.cell 0
  have j1 := HW1.out.1.cell 1
  simp only [List.getElem?_cons_zero, List.getElem?_cons_succ] at k1 j1
  clear k0 j0 HF
  go_wp2_with fail
  refine (HP.out _ HW1.out.2).mono ?_
  rintro e w2 ⟨⟨v1, rfl, hv1⟩, hb2⟩
  have HW2 := hid (And.intro (HW1.out.1.below hb2) (HW1.out.2.trans (hb2.mono HW1.out.2.size)))
  have k2 := HW2.out.1.cell 0
  have j2 := HW2.out.1.cell 1
  simp only [List.getElem?_cons_zero, List.getElem?_cons_succ] at k2 j2
  clear k1 j1 HP
  have V1 := hid hv1
  clear hv1
  go_wp2_with fail
  refine (HN.out _ HW2.out.2).mono ?_
  rintro e w3 ⟨rfl, hb3⟩
  have TV1 := hid (V1.out.below hb3)
  have HW3 := hid (And.intro (HW2.out.1.below hb3) (HW2.out.2.trans (hb3.mono HW2.out.2.size)))
  have k3 := HW3.out.1.cell 0
  have j3 := HW3.out.1.cell 1
  simp only [List.getElem?_cons_zero, List.getElem?_cons_succ] at k3 j3
  clear k2 j2 HN
  clear V1
  have V1 := TV1
  clear TV1
  go_wp2_with fail
  refine (HC1.out _ HW3.out.2).mono ?_
  rintro e w4 ⟨⟨v2, rfl, hv2⟩, hb4⟩
  have TV1 := hid (V1.out.below hb4)
  have HW4 := hid (And.intro (HW3.out.1.below hb4) (HW3.out.2.trans (hb4.mono HW3.out.2.size)))
  have k4 := HW4.out.1.cell 0
  have j4 := HW4.out.1.cell 1
  simp only [List.getElem?_cons_zero, List.getElem?_cons_succ] at k4 j4
  clear k3 j3 HC1
  clear V1
  have V1 := TV1
  clear TV1
  have V2 := hid hv2
  clear hv2
  go_wp2_with fail
  refine (HQ.out _ HW4.out.2).mono ?_
  rintro e w5 ⟨⟨v3, rfl, hv3⟩, hb5⟩
  have TV1 := hid (V1.out.below hb5)
  have TV2 := hid (V2.out.below hb5)
  have HW5 := hid (And.intro (HW4.out.1.below hb5) (HW4.out.2.trans (hb5.mono HW4.out.2.size)))
  have k5 := HW5.out.1.cell 0
  have j5 := HW5.out.1.cell 1
  simp only [List.getElem?_cons_zero, List.getElem?_cons_succ] at k5 j5
  clear k4 j4 HQ
  clear V1
  have V1 := TV1
  clear TV1
  clear V2
  have V2 := TV2
  clear TV2
  have V3 : Hid (Sl w5 v3 r) := hid hv3
  clear hv3
  go_wp2_with fail
  refine (HC2.out _ HW5.out.2).mono ?_
  rintro e w6 ⟨⟨v4, rfl, hv4⟩, hb6⟩
  have TV1 := hid (V1.out.below hb6)
  have TV2 := hid (V2.out.below hb6)
  have TV3 := hid (V3.out.below hb6)
  have HW6 := hid (And.intro (HW5.out.1.below hb6) (HW5.out.2.trans (hb6.mono HW5.out.2.size)))
  have k6 := HW6.out.1.cell 0
  have j6 := HW6.out.1.cell 1
  simp only [List.getElem?_cons_zero, List.getElem?_cons_succ] at k6 j6
  clear k5 j5 HC2
  clear V1
  have V1 := TV1
  clear TV1
  clear V2
  have V2 := TV2
  clear TV2
  clear V3
  have V3 := TV3
  clear TV3
  have V4 := hid hv4
  clear hv4
  have HI1 := hid (ints_any v1 v3 r r w6 V1.out V3.out)
  rw [show decide (r = r) = true by simp] at HI1
  have HI2 := hid (fun n => ints_any v2 v4 c c (w6.drewN n) (V2.out.drewN n) (V4.out.drewN n))
  rw [show decide (c = c) = true by simp] at HI2
  clear k6 j6
  go_wp2_with fail
  refine HI1.out.mono ?_
  rintro e w7 ⟨rfl, n7, rfl⟩
  go_wp2_with fail
  refine (HI2.out n7).mono ?_
  rintro e w8 ⟨rfl, n8, rfl⟩
  have hz : (z == z) = true := by simp
  go_wp2
  go_ret
  exact ⟨rfl, below_drewN HW6.out.2 (n7 + n8)⟩
theorem tourPaths_walk (w : World) (p : Int) (u : Value) (l : List Int) (hu : Sl w u l) (hi64 : ∀ x ∈ l, I64 x) :
    Calls Try.prog 3 #[sqV p u] w fun e w' => e = .returned (.bool true) ∧ Below w.heap.size w w' := by
  by_cases h : tE p l = 0
  · exact tourPaths_ok w p u l hu hi64 h
  · exact tourPaths_bad w p u l hu hi64 h
end Go.Proofs.Ythbpdfkaacgpoaa
