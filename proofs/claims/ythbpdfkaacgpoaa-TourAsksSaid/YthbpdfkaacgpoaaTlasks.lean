/-
  The walk over parterrelaw4.TourAsks. Conditions: the slice can be read; the numbers are of 64 bits.
-/
import Derived.Test.YthbpdfkaacgpoaaTpeq
import Derived.Test.YthbpdfkaacgpoaaTbads
import Derived.Test.YthbpdfkaacgpoaaTkof
import Derived.Test.YthbpdfkaacgpoaaTrof
import Derived.Test.YthbpdfkaacgpoaaTscof
import Derived.Test.YthbpdfkaacgpoaaLists
import Derived.Test.YthbpdfkaacgpoaaWints
namespace Go.Proofs.Ythbpdfkaacgpoaa
set_option linter.unusedVariables false
open Go.RowKit

theorem prO_le {Q : Rel} {S : Nat} (hS9 : S ≤ 9) : (prO Q S S).length ≤ 81 ∧ ∀ m ∈ prO Q S S, m.length ≤ 9 := by
  refine ⟨Nat.le_trans (prO_len Q S S) (Nat.mul_le_mul hS9 hS9), fun m hm => ?_⟩
  obtain ⟨e, a, he, ha, ht, rfl⟩ := (prO_mem S m).1 hm
  have := clP_le Q a S
  omega
/-- The parts can be read. -/
theorem parts_rl {Q : Rel} {S B : Nat} {w : World} {v : Value} (hS9 : S ≤ 9) (h : OL B w.heap.size w v (prO Q S S)) : RL w v (prO Q S S) := by
  obtain ⟨h1, h2⟩ := prO_le (Q := Q) hS9
  exact h.rl (by omega) (fun i hi => by
    rw [List.getD_eq_getElem?_getD, List.getElem?_eq_getElem hi]
    have := h2 _ (List.getElem_mem hi)
    simp only [Option.getD_some]
    omega)

set_option maxHeartbeats 4000000 in
set_option maxRecDepth 100000 in
theorem tourAsks_bad (w : World) (p : Int) (u : Value) (l : List Int) (hu : Sl w u l) (hi64 : ∀ x ∈ l, I64 x) (h : tE p l ≠ 0) :
    Calls Try.prog 7 #[sqV p u] w fun e w' => e = .returned (.bool true) ∧ Below w.heap.size w w' := by
  have HF := hid (fun w1 (hb : Below w.heap.size w w1) => TourFault_any p u l w1 (hu.below hb) hi64)
  have HC := hid (fun w1 (hb : Below w.heap.size w w1) => Check_any p u l w1 (hu.below hb) hi64)
  have HS := hid (fun w1 (hb : Below w.heap.size w w1) => Scores_bad p u l w1 (hu.below hb) hi64 h)
  have HK := hid (fun w1 (hb : Below w.heap.size w w1) => Kings_bad p u l w1 (hu.below hb) hi64 h)
  have HR := hid (fun w1 (hb : Below w.heap.size w w1) => Rings_bad p u l w1 (hu.below hb) hi64 h)
  have HP := hid (fun w1 (hb : Below w.heap.size w w1) => Parts_bad p u l w1 (hu.below hb) hi64 h)
  obtain ⟨ax, cx, e1⟩ := hu.len
  subst e1
  have hne2 : (tE p l != 0) = true := by simpa using h
  generalize tE p l = E at *
  generalize l.length = N at *
  have HW0 := hid (And.intro (Arr.new w 24 [.int .i64 p, .slice ax N cx]) ((Below.refl w.heap.size w).alloc (Nat.le_refl _) (.cells #[.int .i64 p, .slice ax N cx] 24)))
  have k0 := HW0.out.1.cell 0
  have j0 := HW0.out.1.cell 1
  simp only [List.getElem?_cons_zero, List.getElem?_cons_succ] at k0 j0
  clear hu hi64 h
  unfold sqV at HF HC HS HK HR HP
  unfold sqV
  go_enter Try.func7, Try.ntmps7
  go_wp2_with fail
  refine (HF.out _ HW0.out.2).mono ?_
  rintro e w1 ⟨rfl, hb1⟩
  have HW1 := hid (And.intro (HW0.out.1.below hb1) (HW0.out.2.trans (hb1.mono HW0.out.2.size)))
  clear k0 j0 hb1 HW0 HF
  have k1 := HW1.out.1.cell 0
  have j1 := HW1.out.1.cell 1
  simp only [List.getElem?_cons_zero, List.getElem?_cons_succ] at k1 j1
  go_wp2_with fail
  refine (HC.out _ HW1.out.2).mono ?_
  rintro e w2 ⟨rfl, hb2⟩
  have HW2 := hid (And.intro (HW1.out.1.below hb2) (HW1.out.2.trans (hb2.mono HW1.out.2.size)))
  clear k1 j1 hb2 HW1 HC
  have k2 := HW2.out.1.cell 0
  have j2 := HW2.out.1.cell 1
  simp only [List.getElem?_cons_zero, List.getElem?_cons_succ] at k2 j2
  go_wp2_with fail
  refine (HS.out _ HW2.out.2).mono ?_
  rintro e w3 ⟨rfl, hb3⟩
  have HW3 := hid (And.intro (HW2.out.1.below hb3) (HW2.out.2.trans (hb3.mono HW2.out.2.size)))
  clear k2 j2 hb3 HW2 HS
  have k3 := HW3.out.1.cell 0
  have j3 := HW3.out.1.cell 1
  simp only [List.getElem?_cons_zero, List.getElem?_cons_succ] at k3 j3
  go_wp2_with fail
  refine (HK.out _ HW3.out.2).mono ?_
  rintro e w4 ⟨rfl, hb4⟩
  have HW4 := hid (And.intro (HW3.out.1.below hb4) (HW3.out.2.trans (hb4.mono HW3.out.2.size)))
  clear k3 j3 hb4 HW3 HK
  have k4 := HW4.out.1.cell 0
  have j4 := HW4.out.1.cell 1
  simp only [List.getElem?_cons_zero, List.getElem?_cons_succ] at k4 j4
  go_wp2_with fail
  refine (HR.out _ HW4.out.2).mono ?_
  rintro e w5 ⟨rfl, hb5⟩
  have HW5 := hid (And.intro (HW4.out.1.below hb5) (HW4.out.2.trans (hb5.mono HW4.out.2.size)))
  clear k4 j4 hb5 HW4 HR
  have k5 := HW5.out.1.cell 0
  have j5 := HW5.out.1.cell 1
  simp only [List.getElem?_cons_zero, List.getElem?_cons_succ] at k5 j5
  go_wp2_with fail
  refine (HP.out _ HW5.out.2).mono ?_
  rintro e w6 ⟨rfl, hb6⟩
  have HW6 := hid (And.intro (HW5.out.1.below hb6) (HW5.out.2.trans (hb6.mono HW5.out.2.size)))
  clear k5 j5 hb6 HW5 HP
  have hEE : (E != E) = false := by simp
  go_wp2
  go_ret
  exact ⟨rfl, HW6.out.2⟩

set_option maxHeartbeats 8000000 in
set_option maxRecDepth 100000 in
theorem tourAsks_ok (w : World) (p : Int) (u : Value) (l : List Int) (hu : Sl w u l) (hi64 : ∀ x ∈ l, I64 x) (h : tE p l = 0) :
    Calls Try.prog 7 #[sqV p u] w fun e w' => e = .returned (.bool true) ∧ Below w.heap.size w w' := by
  obtain ⟨S, rfl, hS1, hS9, hlen, h0, hB⟩ := tE_ok h
  have HF := hid (fun w1 (hb : Below w.heap.size w w1) => TourFault_any S u l w1 (hu.below hb) hi64)
  have HC := hid (fun w1 (hb : Below w.heap.size w w1) => Check_any S u l w1 (hu.below hb) hi64)
  rw [h] at HF HC
  have HS := hid (fun w1 (hb : Below w.heap.size w w1) => Scores_ok S u l w1 (hu.below hb) hi64 h hS1 hS9 hlen h0)
  have HK := hid (fun w1 (hb : Below w.heap.size w w1) => Kings_ok S u l w1 (hu.below hb) hi64 h hS1 hS9 hlen)
  have HR := hid (fun w1 (hb : Below w.heap.size w w1) => Rings_ok S u l w1 (hu.below hb) hi64 h hS1 hS9 hlen)
  rw [← rings_same (fun i j hi hj hij => tot_two hS9 h0 hB hi hj hij)] at HR
  have hps := parts_same hS9 h0 hB
  have HP : Hid (∀ w1, Below w.heap.size w w1 → Calls Try.prog 25 #[sqV S u] w1 fun e w' => (∃ v, e = .returned (.tuple #[v, .int .i64 0]) ∧ RL w' v (prO (c1 S (t0R S l) S) S S)) ∧ Below w1.heap.size w1 w') := hid (fun w1 hb => (Parts_ok S u l w1 (hu.below hb) hi64 h hS1 hS9 hlen).mono (by
    rintro e w' ⟨⟨v, rfl, hv⟩, hb'⟩
    rw [hps] at hv
    exact ⟨⟨v, rfl, parts_rl hS9 hv⟩, hb'⟩))
  have HS2 := hid (fun w1 (hb : Below w.heap.size w w1) => ScoresOf_ok S u l w1 (hu.below hb) hS1 hS9 hlen (cells01 h0))
  have HK2 := hid (fun w1 (hb : Below w.heap.size w w1) => KingsOf_ok S u l w1 (hu.below hb) hS1 hS9 hlen)
  have HR2 := hid (fun w1 (hb : Below w.heap.size w w1) => RingsOf_ok S u l w1 (hu.below hb) hS1 hS9 hlen)
  have HP2 : Hid (∀ w1, Below w.heap.size w w1 → Calls Try.prog 29 #[sqV S u] w1 fun e w' => (∃ v, e = .returned v ∧ RL w' v (prO (c1 S (t0R S l) S) S S)) ∧ Below w1.heap.size w1 w') := hid (fun w1 hb => (PartsOf_ok S u l w1 (hu.below hb) hS1 hS9 hlen).mono (by
    rintro e w' ⟨⟨v, rfl, hv⟩, hb'⟩
    exact ⟨⟨v, rfl, parts_rl hS9 hv⟩, hb'⟩))
  obtain ⟨ax, cx, e1⟩ := hu.len
  subst e1
  generalize l.length = N at *
  generalize sN (g1R (beB S l (S * S)) S) S = rn at *
  generalize scL S l = ZS at *
  generalize kgI S (beB S l (S * S)) S = ZK at *
  generalize prO (c1 S (t0R S l) S) S S = ZP at *
  have HW0 := hid (And.intro (Arr.new w 24 [.int .i64 (S : Int), .slice ax N cx]) ((Below.refl w.heap.size w).alloc (Nat.le_refl _) (.cells #[.int .i64 (S : Int), .slice ax N cx] 24)))
  have k0 := HW0.out.1.cell 0
  have j0 := HW0.out.1.cell 1
  simp only [List.getElem?_cons_zero, List.getElem?_cons_succ] at k0 j0
  clear hu hi64 h h0 hB hlen hps
  unfold sqV at HF HC HS HK HR HP HS2 HK2 HR2 HP2
  unfold sqV
  go_enter Try.func7, Try.ntmps7
  go_wp2_with fail
  refine (HF.out _ HW0.out.2).mono ?_
  rintro e w1 ⟨rfl, hb1⟩
  have HW1 := hid (And.intro (HW0.out.1.below hb1) (HW0.out.2.trans (hb1.mono HW0.out.2.size)))
  clear k0 j0 hb1 HW0 HF
  have k1 := HW1.out.1.cell 0
  have j1 := HW1.out.1.cell 1
  simp only [List.getElem?_cons_zero, List.getElem?_cons_succ] at k1 j1
  go_wp2_with fail
  refine (HC.out _ HW1.out.2).mono ?_
  rintro e w2 ⟨rfl, hb2⟩
  have HW2 := hid (And.intro (HW1.out.1.below hb2) (HW1.out.2.trans (hb2.mono HW1.out.2.size)))
  clear k1 j1 hb2 HW1 HC
  have k2 := HW2.out.1.cell 0
  have j2 := HW2.out.1.cell 1
  simp only [List.getElem?_cons_zero, List.getElem?_cons_succ] at k2 j2
  go_wp2_with fail
  refine (HS.out _ HW2.out.2).mono ?_
  rintro e w3 ⟨⟨v1, rfl, hv1⟩, hb3⟩
  have HW3 := hid (And.intro (HW2.out.1.below hb3) (HW2.out.2.trans (hb3.mono HW2.out.2.size)))
  clear k2 j2 hb3 HW2 HS
  have k3 := HW3.out.1.cell 0
  have j3 := HW3.out.1.cell 1
  simp only [List.getElem?_cons_zero, List.getElem?_cons_succ] at k3 j3
  have V1 : Hid (Sl w3 v1 ZS) := hid hv1
  go_wp2_with fail
  refine (HK.out _ HW3.out.2).mono ?_
  rintro e w4 ⟨⟨v2, rfl, hv2⟩, hb4⟩
  have TV1 := hid (V1.out.below hb4)
  have HW4 := hid (And.intro (HW3.out.1.below hb4) (HW3.out.2.trans (hb4.mono HW3.out.2.size)))
  clear V1
  have V1 := TV1
  clear TV1
  clear k3 j3 hb4 HW3 HK
  have k4 := HW4.out.1.cell 0
  have j4 := HW4.out.1.cell 1
  simp only [List.getElem?_cons_zero, List.getElem?_cons_succ] at k4 j4
  have V2 : Hid (Sl w4 v2 ZK) := hid hv2
  go_wp2_with fail
  refine (HR.out _ HW4.out.2).mono ?_
  rintro e w5 ⟨rfl, hb5⟩
  have TV1 := hid (V1.out.below hb5)
  have TV2 := hid (V2.out.below hb5)
  have HW5 := hid (And.intro (HW4.out.1.below hb5) (HW4.out.2.trans (hb5.mono HW4.out.2.size)))
  clear V1
  have V1 := TV1
  clear TV1
  clear V2
  have V2 := TV2
  clear TV2
  clear k4 j4 hb5 HW4 HR
  have k5 := HW5.out.1.cell 0
  have j5 := HW5.out.1.cell 1
  simp only [List.getElem?_cons_zero, List.getElem?_cons_succ] at k5 j5
  go_wp2_with fail
  refine (HP.out _ HW5.out.2).mono ?_
  rintro e w6 ⟨⟨v3, rfl, hv3⟩, hb6⟩
  have TV1 := hid (V1.out.below hb6)
  have TV2 := hid (V2.out.below hb6)
  have HW6 := hid (And.intro (HW5.out.1.below hb6) (HW5.out.2.trans (hb6.mono HW5.out.2.size)))
  clear V1
  have V1 := TV1
  clear TV1
  clear V2
  have V2 := TV2
  clear TV2
  clear k5 j5 hb6 HW5 HP
  have k6 := HW6.out.1.cell 0
  have j6 := HW6.out.1.cell 1
  simp only [List.getElem?_cons_zero, List.getElem?_cons_succ] at k6 j6
  have V3 : Hid (RL w6 v3 ZP) := hid hv3
  go_wp2_with fail
  refine (HS2.out _ HW6.out.2).mono ?_
  rintro e w7 ⟨⟨v4, rfl, hv4⟩, hb7⟩
  have TV1 := hid (V1.out.below hb7)
  have TV2 := hid (V2.out.below hb7)
  have TV3 := hid (V3.out.below hb7)
  have HW7 := hid (And.intro (HW6.out.1.below hb7) (HW6.out.2.trans (hb7.mono HW6.out.2.size)))
  clear V1
  have V1 := TV1
  clear TV1
  clear V2
  have V2 := TV2
  clear TV2
  clear V3
  have V3 := TV3
  clear TV3
  clear k6 j6 hb7 HW6 HS2
  have k7 := HW7.out.1.cell 0
  have j7 := HW7.out.1.cell 1
  simp only [List.getElem?_cons_zero, List.getElem?_cons_succ] at k7 j7
  have V4 : Hid (Sl w7 v4 ZS) := hid hv4
  go_wp2_with fail
  refine (HK2.out _ HW7.out.2).mono ?_
  rintro e w8 ⟨⟨v5, rfl, hv5⟩, hb8⟩
  have TV1 := hid (V1.out.below hb8)
  have TV2 := hid (V2.out.below hb8)
  have TV3 := hid (V3.out.below hb8)
  have TV4 := hid (V4.out.below hb8)
  have HW8 := hid (And.intro (HW7.out.1.below hb8) (HW7.out.2.trans (hb8.mono HW7.out.2.size)))
  clear V1
  have V1 := TV1
  clear TV1
  clear V2
  have V2 := TV2
  clear TV2
  clear V3
  have V3 := TV3
  clear TV3
  clear V4
  have V4 := TV4
  clear TV4
  clear k7 j7 hb8 HW7 HK2
  have k8 := HW8.out.1.cell 0
  have j8 := HW8.out.1.cell 1
  simp only [List.getElem?_cons_zero, List.getElem?_cons_succ] at k8 j8
  have V5 : Hid (Sl w8 v5 ZK) := hid hv5
  go_wp2_with fail
  refine (HR2.out _ HW8.out.2).mono ?_
  rintro e w9 ⟨rfl, hb9⟩
  have TV1 := hid (V1.out.below hb9)
  have TV2 := hid (V2.out.below hb9)
  have TV3 := hid (V3.out.below hb9)
  have TV4 := hid (V4.out.below hb9)
  have TV5 := hid (V5.out.below hb9)
  have HW9 := hid (And.intro (HW8.out.1.below hb9) (HW8.out.2.trans (hb9.mono HW8.out.2.size)))
  clear V1
  have V1 := TV1
  clear TV1
  clear V2
  have V2 := TV2
  clear TV2
  clear V3
  have V3 := TV3
  clear TV3
  clear V4
  have V4 := TV4
  clear TV4
  clear V5
  have V5 := TV5
  clear TV5
  clear k8 j8 hb9 HW8 HR2
  have k9 := HW9.out.1.cell 0
  have j9 := HW9.out.1.cell 1
  simp only [List.getElem?_cons_zero, List.getElem?_cons_succ] at k9 j9
  go_wp2_with fail
  refine (HP2.out _ HW9.out.2).mono ?_
  rintro e w10 ⟨⟨v6, rfl, hv6⟩, hb10⟩
  have TV1 := hid (V1.out.below hb10)
  have TV2 := hid (V2.out.below hb10)
  have TV3 := hid (V3.out.below hb10)
  have TV4 := hid (V4.out.below hb10)
  have TV5 := hid (V5.out.below hb10)
  have HW10 := hid (And.intro (HW9.out.1.below hb10) (HW9.out.2.trans (hb10.mono HW9.out.2.size)))
  clear V1
  have V1 := TV1
  clear TV1
  clear V2
  have V2 := TV2
  clear TV2
  clear V3
  have V3 := TV3
  clear TV3
  clear V4
  have V4 := TV4
  clear TV4
  clear V5
  have V5 := TV5
  clear TV5
  clear k9 j9 hb10 HW9 HP2
  have V6 : Hid (RL w10 v6 ZP) := hid hv6
  clear hv1 hv2 hv3 hv4 hv5 hv6
  have HI1 := hid (ints_any v1 v4 ZS ZS w10 V1.out V4.out)
  rw [show decide (ZS = ZS) = true by simp] at HI1
  have HI2 := hid (fun n => ints_any v2 v5 ZK ZK (w10.drewN n) (V2.out.drewN n) (V5.out.drewN n))
  rw [show decide (ZK = ZK) = true by simp] at HI2
  have HI3 := hid (fun n => lists_any v3 v6 ZP ZP (w10.drewN n) (V3.out.drewN n) (V6.out.drewN n))
  rw [show decide (ZP = ZP) = true by simp] at HI3
  go_wp2_with fail
  refine HI1.out.mono ?_
  rintro e w11 ⟨rfl, n11, rfl⟩
  go_wp2_with fail
  refine (HI2.out n11).mono ?_
  rintro e w12 ⟨rfl, n12, rfl⟩
  have HI4 := hid (HI3.out (n11 + n12))
  go_wp2_with fail
  refine (show Calls _ _ _ _ _ from by simpa using HI4.out).mono ?_
  rintro e w13 ⟨rfl, n13, rfl⟩
  go_wp2
  go_ret
  exact ⟨rfl, below_drewN HW10.out.2 _⟩
theorem tourAsks_walk (w : World) (p : Int) (u : Value) (l : List Int) (hu : Sl w u l) (hi64 : ∀ x ∈ l, I64 x) :
    Calls Try.prog 7 #[sqV p u] w fun e w' => e = .returned (.bool true) ∧ Below w.heap.size w w' := by
  by_cases h : tE p l = 0
  · exact tourAsks_ok w p u l hu hi64 h
  · exact tourAsks_bad w p u l hu hi64 h
end Go.Proofs.Ythbpdfkaacgpoaa
