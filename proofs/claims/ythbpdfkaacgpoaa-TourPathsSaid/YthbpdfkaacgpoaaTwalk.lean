/-
  The walk over parterreref4.walked. Conditions: the tournament is right; the slices can be read.
-/
import Derived.Test.YthbpdfkaacgpoaaTbeats
namespace Go.Proofs.Ythbpdfkaacgpoaa
set_option linter.unusedVariables false
open Go.RowKit

def inL (L : List Int) (t : Nat) (i : Nat) : Bool := (L.take i).any (· == (t : Int))
theorem inL_succ (L : List Int) (t : Nat) {i : Nat} (h : i < L.length) : inL L t (i + 1) = (inL L t i || L.getD i 0 == (t : Int)) := by
  unfold inL
  rw [List.take_add_one, List.getElem?_eq_getElem h, Option.toList_some, List.any_append, List.any_cons, List.any_nil, Bool.or_false, List.getD_eq_getElem?_getD, List.getElem?_eq_getElem h]
  rfl
theorem inL_all (L : List Int) (t : Nat) : inL L t L.length = decide ((t : Int) ∈ L) := by
  unfold inL
  rw [List.take_length, Bool.eq_iff_iff, List.any_eq_true, decide_eq_true_iff]
  constructor
  · rintro ⟨x, hx, he⟩
    rw [beq_iff_eq] at he
    rw [← he]
    exact hx
  · intro h
    exact ⟨_, h, by simp⟩

set_option maxHeartbeats 2000000 in
set_option maxRecDepth 100000 in
theorem walked_base (S : Nat) (u v : Value) (l L : List Int) (w : World) (ring : Bool) (hu : Sl w u l) (hS1 : 1 ≤ S) (hS9 : S ≤ 9) (hlen : l.length = S * S) (hL : L.length = S) (hin : ∀ x ∈ L, 0 ≤ x ∧ x < (S : Int)) (hv : Sl w v L) :
    Calls Try.prog 38 #[sqV S u, v, .bool ring] w fun e w' => (∃ r, e = .returned (.tuple #[.int .i64 ((cmpF S (beB S l (S * S)) ring 0 L).length : Nat), r]) ∧ HeadV w' r (cmpF S (beB S l (S * S)) ring 0 L)) ∧ Below w.heap.size w w' := by
  have HBT := hid (fun (a b : Nat) (ha : a < S) (hb : b < S) w1 (hb1 : Below w.heap.size w w1) => Beats_ok S a b u l w1 (hu.below hb1) hS9 hlen ha hb)
  obtain ⟨ax, cx, e1⟩ := hu.len
  subst e1
  obtain ⟨av, cv, hv1, hl1, hc⟩ := hv.out
  rw [hL] at hv1 hl1 hc
  subst hv1
  obtain ⟨b, off, rfl, hbl, hcl⟩ := hc (by omega)
  have c0 := hcl 0 (by omega)
  have c1 := hcl (S - 1) (by omega)
  rw [Nat.add_zero] at c0
  have hx := hin (L.getD (S - 1) 0) (by rw [List.getD_eq_getElem?_getD, List.getElem?_eq_getElem (by omega)]; exact List.getElem_mem _)
  have hy := hin (L.getD 0 0) (by rw [List.getD_eq_getElem?_getD, List.getElem?_eq_getElem (by omega)]; exact List.getElem_mem _)
  obtain ⟨x, ex⟩ := Int.eq_ofNat_of_zero_le hx.1
  obtain ⟨y, ey⟩ := Int.eq_ofNat_of_zero_le hy.1
  have HCB : Hid (clB (beB S l (S * S)) L = ((S == 1) || beB S l (S * S) (x * 9 + y))) := hid (by unfold clB; rw [hL, ex, ey, Int.toNat_natCast, Int.toNat_natCast])
  rw [ex] at c1 hx
  rw [ey] at c0 hy
  have HYES : Hid (fltB (beB S l (S * S)) ring L = true → cmpF S (beB S l (S * S)) ring 0 L = [L]) := hid (fun h => by unfold cmpF comp; rw [List.filter_cons_of_pos h]; rfl)
  have HNO : Hid (fltB (beB S l (S * S)) ring L = false → cmpF S (beB S l (S * S)) ring 0 L = []) := hid (fun h => by unfold cmpF comp; rw [List.filter_cons_of_neg (by rw [h]; decide)]; rfl)
  have HC := hid (HBT.out x y (by omega) (by omega))
  have HV := hid hv
  generalize hN : l.length = N at *
  have hbb := (Below.refl w.heap.size w).alloc (Nat.le_refl _) (.cells #[.int .i64 (S : Int), .slice ax N cx] 24)
  have hA := Arr.new w 24 [.int .i64 (S : Int), .slice ax N cx]
  have k0 := hA.cell 0
  have k1 := hA.cell 1
  simp only [List.getElem?_cons_zero, List.getElem?_cons_succ] at k0 k1
  have d0 := (hbb.cell (p := ⟨b, off, none⟩) hbl).trans c0
  have d1 := (hbb.cell (p := ⟨b, off + (S - 1), none⟩) hbl).trans c1
  have HB := hid hbb
  clear hu hlen hL hin hv hc hcl ex ey hx hy HBT hbb c0 c1 hN
  generalize beB S l (S * S) = SB at *
  obtain ⟨R, hR⟩ : ∃ R, cmpF S SB ring 0 L = R := ⟨_, rfl⟩
  rw [hR] at HYES HNO ⊢
  clear hR
  unfold sqV at HC
  unfold sqV
  cases ring with
  | false =>
    obtain rfl := HYES.out rfl
    clear k1 d0 d1 hA
    go_enter Try.func38, Try.ntmps38
    go_wp2
    go_ret2
    exact ⟨⟨_, rfl, HV.out.below HB.out⟩, HB.out⟩
  | true =>
    by_cases hS : S = 1
    · have hy := HYES.out (by show clB SB L = true; rw [HCB.out, hS]; rfl)
      have hS' : ¬ 1 < (S : Int) := by omega
      obtain rfl := hy
      clear k1 d0 d1 hA hS
      go_enter Try.func38, Try.ntmps38
      go_wp2
      go_ret2
      exact ⟨⟨_, rfl, HV.out.below HB.out⟩, HB.out⟩
    · have hS' : 1 < (S : Int) := by omega
      have HF : Hid (fltB SB true L = SB (x * 9 + y)) := hid (by show clB SB L = _; rw [HCB.out, show (S == 1) = false from beq_eq_false_iff_ne.2 hS]; rfl)
      have hSm : (S : Int) - 1 = ((S - 1 : Nat) : Int) := by omega
      have hSl : S - 1 < S := by omega
      have hYN : (SB (x * 9 + y) = true → R = [L]) ∧ (SB (x * 9 + y) = false → R = []) := ⟨fun h => HYES.out (HF.out.trans h), fun h => HNO.out (HF.out.trans h)⟩
      have HYN := hid hYN
      have i2 : (Try.prog.info? 24).map (·.size) = some 2 := by kernel_rfl
      clear hYN HYES HNO HF HCB hS hA
      go_enter Try.func38, Try.ntmps38
      go_wp2_with fail
      generalize w.alloc (.cells #[.int .i64 (S : Int), .slice ax N cx] 24) = w0 at *
      have k0 : w0.drew.cell? ⟨w.heap.size, 0, none⟩ = _ := k0
      have k1 : w0.drew.cell? ⟨w.heap.size, 1, none⟩ = _ := k1
      have d0 : w0.drew.cell? ⟨b, off, none⟩ = _ := d0
      have d1 : w0.drew.cell? ⟨b, off + (S - 1), none⟩ = _ := d1
      generalize S - 1 = Sm at *
      generalize SB (x * 9 + y) = sb at *
      have q1 : (Sm : Int) < (S : Int) := by omega
      have q2 : (0 : Int) ≤ (Sm : Int) := by omega
      have q3 : (0 : Int) < (S : Int) := by omega
      have q4 : 0 < S := by omega
      have q5 := IntWalk.i64_in (Sm : Int) (by omega)
      have hwl : w.heap.size < w0.heap.size := World.block_lt_of_cell? w0 ⟨w.heap.size, 0, none⟩ k0
      have hbl2 : b < w0.heap.size := World.block_lt_of_cell? w0 ⟨b, off, none⟩ d0
      have hS0 := And.intro k0 (And.intro k1 (And.intro d0 d1))
      go_region_held_law (fun W => W.cell? ⟨w.heap.size, 0, none⟩ = some (.int .i64 (S : Int)) ∧ W.cell? ⟨w.heap.size, 1, none⟩ = some (.slice ax N cx) ∧ W.cell? ⟨b, off, none⟩ = some (.int .i64 (y : Int)) ∧ W.cell? ⟨b, off + Sm, none⟩ = some (.int .i64 (x : Int))) (first | exact hS0 | exact hS5)
        ((go_at_call 18; refine (HC.out _ HB.out.drew).mono ?_; rintro e w5 ⟨rfl, hb5⟩; have hS5 := And.intro ((hb5.cell (p := ⟨w.heap.size, 0, none⟩) hwl).trans k0) (And.intro ((hb5.cell (p := ⟨w.heap.size, 1, none⟩) hwl).trans k1) (And.intro ((hb5.cell (p := ⟨b, off, none⟩) hbl2).trans d0) ((hb5.cell (p := ⟨b, off + Sm, none⟩) hbl2).trans d1)))))
      all_goals
        have HX := hid (HB.out.drew.trans (hb5.mono HB.out.size))
        clear hb5 hS5 hS0
        cases sb
        · obtain rfl := HYN.out.2 rfl
          go_wp2
          go_ret2
          exact ⟨⟨_, rfl, rfl⟩, HX.out⟩
        · obtain rfl := HYN.out.1 rfl
          go_wp2
          go_ret2
          exact ⟨⟨_, rfl, HV.out.below HX.out⟩, HX.out⟩
end Go.Proofs.Ythbpdfkaacgpoaa
