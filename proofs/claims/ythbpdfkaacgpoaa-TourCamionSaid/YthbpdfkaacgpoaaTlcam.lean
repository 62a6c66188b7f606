/-
  The walk over parterrelaw4.TourCamion. Conditions: the slice can be read; the numbers are of 64 bits.
-/
import Derived.Test.YthbpdfkaacgpoaaTcam
import Derived.Test.YthbpdfkaacgpoaaTbads
import Derived.Test.YthbpdfkaacgpoaaTlredei
namespace Go.Proofs.Ythbpdfkaacgpoaa
set_option linter.unusedVariables false
open Go.RowKit

/-- Round a cycle each beats the next. -/
theorem cyc_steps {S : Nat} {SB : Nat → Bool} {r : List Int} (hr : r ∈ comp S SB S []) (hc : clB SB r = true) : r.length = S ∧ (1 < S → ∀ i, i < S → ∃ a b : Nat, r.getD i 0 = (a : Int) ∧ r.getD ((i + 1) % S) 0 = (b : Int) ∧ a < S ∧ b < S ∧ SB (a * 9 + b) = true) := by
  obtain ⟨hl, hst⟩ := comp_steps hr
  refine ⟨hl, fun h1 i hi => ?_⟩
  by_cases e : i + 1 < S
  · rw [Nat.mod_eq_of_lt e]
    exact hst i e
  · have e2 : i = S - 1 := by omega
    obtain ⟨Q, rfl, q2, q3, q4, q5⟩ := comp_sound (N := S) (SB := SB) S [] trivial List.nodup_nil (fun z hz => by cases hz) r hr
    rw [List.length_nil, Nat.zero_add] at q5
    cases hlq : Q.getLast? with
    | none => rw [List.getLast?_eq_none_iff.1 hlq] at q5; simp at q5; omega
    | some x =>
      cases hh : Q.head? with
      | none => rw [List.head?_eq_none_iff.1 hh] at q5; simp at q5; omega
      | some y =>
        rw [clB_map Q hlq hh, Bool.or_eq_true, beq_iff_eq] at hc
        refine ⟨x, y, ?_, ?_, q4 x (List.mem_of_getLast? hlq), q4 y (List.mem_of_head? hh), ?_⟩
        · rw [List.getD_eq_getElem?_getD, List.getElem?_map, e2, ← q5, ← List.getLast?_eq_getElem?, hlq]; rfl
        · rw [e2, show S - 1 + 1 = S by omega, Nat.mod_self, List.getD_eq_getElem?_getD, List.getElem?_map, ← List.head?_eq_getElem?, hh]; rfl
        · rcases hc with h | h
          · omega
          · exact h

set_option maxHeartbeats 2000000 in
set_option maxRecDepth 100000 in
theorem tourCamion_bad (w : World) (p : Int) (u : Value) (l : List Int) (hu : Sl w u l) (hi64 : ∀ x ∈ l, I64 x) (h : tE p l ≠ 0) :
    Calls Try.prog 8 #[sqV p u] w fun e w' => e = .returned (.bool true) ∧ Below w.heap.size w w' := by
  have HT := hid tourFact_any
  have HN := hid (fun w1 (hb : Below w.heap.size w w1) => Parts_bad p u l w1 (hu.below hb) hi64 h)
  obtain ⟨ax, cx, e1⟩ := hu.len
  subst e1
  have hne2 : (tE p l != 0) = true := by simpa using h
  generalize tE p l = E at *
  generalize l.length = N at *
  have HW0 := hid (And.intro (Arr.new w 24 [.int .i64 p, .slice ax N cx]) ((Below.refl w.heap.size w).alloc (Nat.le_refl _) (.cells #[.int .i64 p, .slice ax N cx] 24)))
  clear hu hi64 h
  unfold sqV at HN
  unfold sqV
  go_enter Try.func8, Try.ntmps8
  go_wp2_with fail
  refine (HT.out _).mono ?_
  rintro e w1 ⟨rfl, hb1⟩
  have HW1 := hid (And.intro (HW0.out.1.below hb1) (HW0.out.2.trans (hb1.mono HW0.out.2.size)))
  have k1 := HW1.out.1.cell 0
  have j1 := HW1.out.1.cell 1
  simp only [List.getElem?_cons_zero, List.getElem?_cons_succ] at k1 j1
  clear HW0
  go_wp2_with fail
  refine (HN.out _ HW1.out.2).mono ?_
  rintro e w2 ⟨rfl, hb2⟩
  have HW2 := hid (HW1.out.2.trans (hb2.mono HW1.out.2.size))
  clear k1 j1 hb2
  go_wp2
  go_ret
  exact ⟨rfl, HW2.out⟩

set_option maxHeartbeats 2000000 in
set_option maxRecDepth 100000 in
theorem tourCamion_ok (w : World) (p : Int) (u : Value) (l : List Int) (hu : Sl w u l) (hi64 : ∀ x ∈ l, I64 x) (h : tE p l = 0) :
    Calls Try.prog 8 #[sqV p u] w fun e w' => e = .returned (.bool true) ∧ Below w.heap.size w w' := by
  obtain ⟨S, rfl, hS1, hS9, hlen, h0, hB⟩ := tE_ok h
  have HT := hid tourFact_any
  have HP := hid (fun w1 (hb : Below w.heap.size w w1) => Parts_ok S u l w1 (hu.below hb) hi64 h hS1 hS9 hlen)
  have HBT := hid (fun a b (ha : a < S) (hb : b < S) w1 (hw : Below w.heap.size w w1) => Beats_ok S a b u l w1 (hu.below hw) hS9 hlen ha hb)
  obtain ⟨_, htr, _⟩ := tour_closed hS9 h0 hB
  obtain ⟨po1, po2⟩ := parts_one hS1 htr
  cases hf : (comp S (beB S l (S * S)) S []).find? (clB (beB S l (S * S))) with
  | none =>
    have HC := hid (fun w1 (hb : Below w.heap.size w w1) => Cycle_no S u l w1 (hu.below hb) hi64 h hS1 hS9 hlen hf)
    have hpl := po2 (fun hall => by
      obtain ⟨M, hM, hc⟩ := camion_yes (SB := beB S l (S * S)) hS1 (fun i j hi hj hij => tot_two hS9 h0 hB hi hj hij) (fun i hi => tot_irr hS9 h0 hB hi) hall
      rw [List.find?_eq_none] at hf
      exact hf M hM hc)
    have hpi : (1 : Int) < ((srtL (c1 S (b0R S l) S) S).length : Int) := by omega
    obtain ⟨ax, cx, e1⟩ := hu.len
    subst e1
    generalize l.length = N at *
    generalize srtL (c1 S (b0R S l) S) S = PL at *
    have HW0 := hid (And.intro (Arr.new w 24 [.int .i64 (S : Int), .slice ax N cx]) ((Below.refl w.heap.size w).alloc (Nat.le_refl _) (.cells #[.int .i64 (S : Int), .slice ax N cx] 24)))
    clear hu hi64 h h0 hB hlen hf po1 po2 htr
    unfold sqV at HP HC
    unfold sqV
    go_enter Try.func8, Try.ntmps8
    go_wp2_with fail
    refine (HT.out _).mono ?_
    rintro e w1 ⟨rfl, hb1⟩
    have HW1 := hid (And.intro (HW0.out.1.below hb1) (HW0.out.2.trans (hb1.mono HW0.out.2.size)))
    have k1 := HW1.out.1.cell 0
    have j1 := HW1.out.1.cell 1
    simp only [List.getElem?_cons_zero, List.getElem?_cons_succ] at k1 j1
    clear HW0
    go_wp2_with fail
    refine (HP.out _ HW1.out.2).mono ?_
    rintro e w2 ⟨⟨v, rfl, hv⟩, hb2⟩
    obtain ⟨av, cv, hve⟩ := hv.len
    have HW2 := hid (And.intro (HW1.out.1.below hb2) (HW1.out.2.trans (hb2.mono HW1.out.2.size)))
    have k2 := HW2.out.1.cell 0
    have j2 := HW2.out.1.cell 1
    simp only [List.getElem?_cons_zero, List.getElem?_cons_succ] at k2 j2
    subst hve
    generalize PL.length = K at *
    clear k1 j1 hb2 HW1 hv HP
    go_wp2_with fail
    refine (HC.out _ HW2.out.2).mono ?_
    rintro e w3 ⟨rfl, hb3⟩
    have HW3 := hid (HW2.out.2.trans (hb3.mono HW2.out.2.size))
    clear k2 j2 hb3 HW2
    go_wp2
    go_ret
    exact ⟨rfl, HW3.out⟩
  | some r =>
    have HC := hid (fun w1 (hb : Below w.heap.size w w1) => Cycle_yes S u l w1 (hu.below hb) hi64 h hS1 hS9 hlen hf)
    have hrm := List.mem_of_find?_eq_some hf
    have hrc := List.find?_some hf
    have hpl := po1 (camion_no hS9 h0 hB hrm hrc)
    obtain ⟨hrl, hst⟩ := cyc_steps hrm hrc
    have HST := hid hst
    have HRL := hid hrl
    generalize beB S l (S * S) = SB at *
    obtain ⟨ax, cx, e1⟩ := hu.len
    subst e1
    generalize l.length = N at *
    have HPLE := hid hpl
    generalize srtL (c1 S (b0R S l) S) S = PL at *
    have HW0 := hid (And.intro (Arr.new w 24 [.int .i64 (S : Int), .slice ax N cx]) ((Below.refl w.heap.size w).alloc (Nat.le_refl _) (.cells #[.int .i64 (S : Int), .slice ax N cx] 24)))
    clear hu hi64 h h0 hB hlen hf po1 po2 htr hpl hst hrl hrm hrc
    unfold sqV at HP HC HBT
    unfold sqV
    go_enter Try.func8, Try.ntmps8
    go_wp2_with fail
    refine (HT.out _).mono ?_
    rintro e w1 ⟨rfl, hb1⟩
    have HW1 := hid (And.intro (HW0.out.1.below hb1) (HW0.out.2.trans (hb1.mono HW0.out.2.size)))
    have k1 := HW1.out.1.cell 0
    have j1 := HW1.out.1.cell 1
    simp only [List.getElem?_cons_zero, List.getElem?_cons_succ] at k1 j1
    clear HW0
    go_wp2_with fail
    refine (HP.out _ HW1.out.2).mono ?_
    rintro e w2 ⟨⟨v, rfl, hv⟩, hb2⟩
    obtain ⟨av, cv, hve⟩ := hv.len
    rw [HPLE.out] at hve
    have HW2 := hid (And.intro (HW1.out.1.below hb2) (HW1.out.2.trans (hb2.mono HW1.out.2.size)))
    have k2 := HW2.out.1.cell 0
    have j2 := HW2.out.1.cell 1
    simp only [List.getElem?_cons_zero, List.getElem?_cons_succ] at k2 j2
    subst hve
    clear k1 j1 hb2 HW1 hv HP
    go_wp2_with fail
    refine (HC.out _ HW2.out.2).mono ?_
    rintro e w3 ⟨⟨vr, rfl, hvr⟩, hb3⟩
    have hA3 := HW2.out.1.below hb3
    have hB3 := HW2.out.2.trans (hb3.mono HW2.out.2.size)
    have k3 := hA3.cell 0
    simp only [List.getElem?_cons_zero] at k3
    obtain ⟨ar, cr, Sv, rfl, hSv, hl1, hl2⟩ := hvr.open
    obtain rfl : Sv = S := by rw [← hSv.out, HRL.out]
    obtain ⟨bs, os, rfl, hbs, hcs⟩ := hl2 (by omega)
    have HCS := hid hcs
    have HX := hid (And.intro hA3 (And.intro hB3 (Below.refl w3.heap.size w3)))
    clear k2 j2 hb3 HW2 hl1 hl2 hvr hA3 hB3 hcs HC HT hSv
    go_wp2
    clear k3
    by_cases hS2 : 1 < Sv
    · have hS2' : (1 : Int) < (Sv : Int) := by omega
      have hSz : (Sv : Int) ≠ 0 := by omega
      go_loopw [7, 8] (fun x _ wr => ∃ i : Nat, x = .int .i64 i ∧ i ≤ Sv ∧ Arr wr w.heap.size 24 [.int .i64 (Sv : Int), .slice ax N cx] ∧ Below w.heap.size w wr ∧ Below w3.heap.size w3 wr) (fun x _ _ => Sv - (intOf x).toNat)
      case atStart => exact ⟨0, rfl, Nat.zero_le _, HX.out.1, HX.out.2.1, HX.out.2.2⟩
      case round =>
        clear HX
        obtain ⟨i, rfl, hiS, hA, hB, hB3⟩ := hrel
        by_cases hlt : i < Sv
        · have hlti : (i : Int) < (Sv : Int) := by omega
          obtain ⟨a, b, ha, hb, haS, hbS, hab⟩ := HST.out hS2 i hlt
          have hmS : (i + 1) % Sv < Sv := Nat.mod_lt _ (by omega)
          have c1 := (hB3.cell (p := ⟨bs, os + i, none⟩) hbs).trans (HCS.out i hlt)
          have c2 := (hB3.cell (p := ⟨bs, os + (i + 1) % Sv, none⟩) hbs).trans (HCS.out ((i + 1) % Sv) hmS)
          have hbsr := Nat.lt_of_lt_of_le hbs hB3.size
          have k0 := hA.cell 0
          have k1 := hA.cell 1
          simp only [List.getElem?_cons_zero, List.getElem?_cons_succ] at k0 k1
          have hwl := hA.lt
          have HCB := hid (HBT.out a b haS hbS wr.drew hB.drew)
          rw [hab] at HCB
          rw [← List.getD_eq_getElem?_getD, ha] at c1
          rw [← List.getD_eq_getElem?_getD, hb] at c2
          have hmod : ((i : Int) + 1).tmod (Sv : Int) = (((i + 1) % Sv : Nat) : Int) := by rw [Int.tmod_eq_emod_of_nonneg (by omega)]; rfl
          have HX := hid (And.intro hA (And.intro hB hB3))
          clear hA hB hB3 ha hb hab
          generalize (i + 1) % Sv = im at *
          have q1 : (im : Int) < (Sv : Int) := by omega
          have q2 : (0 : Int) ≤ (im : Int) := by omega
          have q5 := IntWalk.i64_in (im : Int) (by omega)
          have q6 := IntWalk.i64_in ((i : Int) + 1) (by omega)
          have hS0 : wr.drew.cell? ⟨w.heap.size, 0, none⟩ = some (.int .i64 (Sv : Int)) ∧ wr.drew.cell? ⟨w.heap.size, 1, none⟩ = some (.slice ax N cx) ∧ wr.drew.cell? ⟨bs, os + i, none⟩ = some (.int .i64 (a : Int)) ∧ wr.drew.cell? ⟨bs, os + im, none⟩ = some (.int .i64 (b : Int)) := ⟨k0, k1, c1, c2⟩
          clear k0 k1 c1 c2
          go_wp2
          go_region_held_law (fun W => W.cell? ⟨w.heap.size, 0, none⟩ = some (.int .i64 (Sv : Int)) ∧ W.cell? ⟨w.heap.size, 1, none⟩ = some (.slice ax N cx) ∧ W.cell? ⟨bs, os + i, none⟩ = some (.int .i64 (a : Int)) ∧ W.cell? ⟨bs, os + im, none⟩ = some (.int .i64 (b : Int))) (first | exact hS0 | exact hS5)
            ((go_at_call 18; refine HCB.out.mono ?_; rintro e w5 ⟨rfl, hb5⟩; have hS5 := And.intro ((hb5.cell (p := ⟨w.heap.size, 0, none⟩) hwl).trans hS0.1) (And.intro ((hb5.cell (p := ⟨w.heap.size, 1, none⟩) hwl).trans hS0.2.1) (And.intro ((hb5.cell (p := ⟨bs, os + i, none⟩) hbsr).trans hS0.2.2.1) ((hb5.cell (p := ⟨bs, os + im, none⟩) hbsr).trans hS0.2.2.2)))))
          all_goals
            have hbw5 : Below wr.heap.size wr w5 := (Below.refl wr.heap.size wr).drew.trans hb5
            have HY := hid (And.intro (HX.out.1.below hbw5) (And.intro (HX.out.2.1.trans (hbw5.mono HX.out.2.1.size)) (HX.out.2.2.trans (hbw5.mono HX.out.2.2.size))))
            clear hb5 hS5 hS0 hbw5 HCB
            go_wp2
            go_roundw
          all_goals first
            | exact ⟨i + 1, by go_num, by omega, HY.out.1, HY.out.2.1, HY.out.2.2⟩
            | (simp [intOf] <;> omega)
        · obtain rfl : i = Sv := by omega
          have hlti : ¬ (i : Int) < (i : Int) := by omega
          have HX := hid hB
          clear hA hB hB3
          go_wp2
          go_ret
          exact ⟨rfl, HX.out⟩
    · obtain rfl : Sv = 1 := by omega
      go_loopw [7, 8] (fun x _ wr => x = .int .i64 0 ∧ Below w.heap.size w wr) (fun _ _ _ => 0)
      case atStart => exact ⟨rfl, HX.out.2.1⟩
      case round =>
        clear HX
        obtain ⟨rfl, hB⟩ := hrel
        have HX := hid hB
        clear hB
        go_wp2
        go_ret
        exact ⟨rfl, HX.out⟩
theorem tourCamion_walk (w : World) (p : Int) (u : Value) (l : List Int) (hu : Sl w u l) (hi64 : ∀ x ∈ l, I64 x) :
    Calls Try.prog 8 #[sqV p u] w fun e w' => e = .returned (.bool true) ∧ Below w.heap.size w w' := by
  by_cases h : tE p l = 0
  · exact tourCamion_ok w p u l hu hi64 h
  · exact tourCamion_bad w p u l hu hi64 h
end Go.Proofs.Ythbpdfkaacgpoaa
