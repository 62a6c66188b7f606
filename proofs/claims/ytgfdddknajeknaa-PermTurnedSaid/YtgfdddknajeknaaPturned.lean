/-
  The walk over the law PermTurned. Conditions: the slices can be read.
-/
import Derived.Test.YtgfdddknajeknaaTurnP
import Derived.Test.YtgfdddknajeknaaPgrp
namespace Go.Proofs.Ytgfdddknajeknaa
set_option linter.unusedVariables false
open Go.RowKit

/-- What is known when c can be undone and goes with a. -/
structure TurnK (a c : List Int) : Prop where
  c0 : permE c = 0
  a0 : permE a = 0
  va : bothE (undF (fL c) c.length c.length) a = 0
  xc : bothE (thenL (undF (fL c) c.length c.length) a) c = 0
  ab : bothE a (thenL (thenL (undF (fL c) c.length c.length) a) c) = 0
  like : lenL (fL a) a.length a.length = lenL (fL (thenL (thenL (undF (fL c) c.length c.length) a) c)) (thenL (thenL (undF (fL c) c.length c.length) a) c).length (thenL (thenL (undF (fL c) c.length c.length) a) c).length
theorem turnK {a c : List Int} (hc : permE c = 0) (hv : bothE (undF (fL c) c.length c.length) a = 0) : TurnK a c := by
  have C := pm_of hc
  obtain ⟨V, hV⟩ := pm_und C.pm C.n12
  obtain ⟨_, ha, hl⟩ := both_zero hv
  have A := pm_of ha
  rw [V.len] at hl
  rw [← hl] at A
  have X := pm_then V A
  have B := pm_then X C
  refine ⟨hc, ha, hv, both_of X C, both_of A B, ?_⟩
  rw [← hl, B.len]
  refine (conj_lens A.pm C.pm (fun i hi => ?_)).symm
  have h1 := pm_eq B (fL c i) (C.pm.lt i hi)
  rw [h1, hV i hi]

theorem permTurned_c (w : World) (v u : Value) (a c : List Int) (n : Int) (hu : Sl w u c) (h : permE c ≠ 0) :
    Calls Try.prog 7 #[v, u, .int .i64 n] w fun e w' => e = .returned (.bool true) ∧ Below w.heap.size w w' := by
  have HT := hid (turns_any w)
  have HV := hid (fun w1 (hb : Below w.heap.size w w1) => Inverse_bad u c w1 (hu.below hb) h)
  have q : (permE c != 0) = true := by simpa using h
  clear h hu
  generalize permE c = z at *
  go_enter Try.func7, Try.ntmps7
  go_wp2_with fail
  refine HT.out.mono ?_
  rintro e w1 ⟨rfl, hb1⟩
  go_wp2_with fail
  refine (HV.out _ hb1).mono ?_
  rintro e w2 ⟨rfl, hb2⟩
  have HB := hid (hb1.trans (hb2.mono hb1.size))
  clear hb2
  go_wp2
  go_ret
  exact ⟨rfl, HB.out⟩
theorem permTurned_va (w : World) (v u : Value) (a c : List Int) (n : Int) (hv : Sl w v a) (hu : Sl w u c) (h : permE c = 0) (h2 : bothE (undF (fL c) c.length c.length) a ≠ 0) :
    Calls Try.prog 7 #[v, u, .int .i64 n] w fun e w' => e = .returned (.bool true) ∧ Below w.heap.size w w' := by
  have HT := hid (turns_any w)
  have HV := hid (fun w1 (hb : Below w.heap.size w w1) => Inverse_ok u c w1 (hu.below hb) h)
  have HC := hid (fun (r : Value) w1 (hb : Below w.heap.size w w1) (hr : Sl w1 r (undF (fL c) c.length c.length)) => Compose_bad r v _ a w1 hr (hv.below hb) h2)
  have q : (bothE (undF (fL c) c.length c.length) a != 0) = true := by simpa using h2
  have h12 := (pm_of h).n12
  have HLU := hid (show (undF (fL c) c.length c.length).length ≤ 17592186044416 by rw [und_len]; omega)
  clear h h2 hu hv h12
  generalize bothE (undF (fL c) c.length c.length) a = z at *
  generalize undF (fL c) c.length c.length = V at *
  go_enter Try.func7, Try.ntmps7
  go_wp2_with fail
  refine HT.out.mono ?_
  rintro e w1 ⟨rfl, hb1⟩
  have B1 := hid hb1
  clear hb1
  go_wp2_with fail
  refine (HV.out _ B1.out).mono ?_
  rintro e w2 ⟨⟨r2, rfl, hr2⟩, hb2⟩
  have B2 := hid (B1.out.trans (hb2.mono B1.out.size))
  have R2 := hid hr2
  clear hb2 hr2
  go_wp2_with fail
  refine (HC.out _ _ B2.out (R2.out.sl HLU.out)).mono ?_
  rintro e w3 ⟨rfl, hb3⟩
  have B3 := hid (B2.out.trans (hb3.mono B2.out.size))
  clear hb3
  go_wp2
  go_ret
  exact ⟨rfl, B3.out⟩

set_option maxHeartbeats 1000000 in
theorem permTurned_good (w : World) (v u : Value) (a c : List Int) (n : Int) (hv : Sl w v a) (hu : Sl w u c) (T : TurnK a c) :
    Calls Try.prog 7 #[v, u, .int .i64 n] w fun e w' => e = .returned (.bool true) ∧ Below w.heap.size w w' := by
  have HT := hid (turns_any w)
  have A := pm_of T.a0
  have h12 := A.n12
  have h12c := (pm_of T.c0).n12
  have hob := A.pm.ord_le h12 a.length
  rw [List.take_of_length_le (cycLen_len (fL a) a.length)] at hob
  have hord : 0 < ordN (fL a) a.length ∧ ordN (fL a) a.length ≤ 8916100448256 := hob
  have HV := hid (fun w1 (hb : Below w.heap.size w w1) => Inverse_ok u c w1 (hu.below hb) T.c0)
  have HC1 := hid (fun (r : Value) w1 (hb : Below w.heap.size w w1) (hr : Sl w1 r (undF (fL c) c.length c.length)) => Compose_ok r v _ a w1 hr (hv.below hb) T.va)
  have HC2 := hid (fun (r : Value) w1 (hb : Below w.heap.size w w1) (hr : Sl w1 r (thenL (undF (fL c) c.length c.length) a)) => Compose_ok r u _ c w1 hr (hu.below hb) T.xc)
  have HAL := hid (fun (r : Value) w1 (hb : Below w.heap.size w w1) (hr : Sl w1 r (thenL (thenL (undF (fL c) c.length c.length) a) c)) => Alike_ok v r a _ w1 (hv.below hb) hr T.ab)
  rw [decide_eq_true T.like] at HAL
  have HO := hid (fun w1 (hb : Below w.heap.size w w1) => Order_ok v a w1 (hv.below hb) T.a0)
  have hn1 := Int.tmod_lt_of_pos n (show (0 : Int) < 1000000 by omega)
  have hn2 : -1000000 < n.tmod 1000000 := by
    have := Int.tmod_lt_of_pos (-n) (show (0 : Int) < 1000000 by omega)
    rw [Int.neg_tmod] at this
    omega
  have HP1 := hid (fun w1 (hb : Below w.heap.size w w1) => Power_ok v a _ _ (n.tmod 1000000) w1 (hv.below hb) A T.a0 (by omega))
  have HP2 := hid (fun w1 (hb : Below w.heap.size w w1) => Power_ok v a _ _ (n.tmod 1000000 + (ordN (fL a) a.length : Nat)) w1 (hv.below hb) A T.a0 (by omega))
  rw [powT_round _ hord.1] at HP2
  have L1 := hid (show (undF (fL c) c.length c.length).length ≤ 17592186044416 by rw [und_len]; omega)
  have L2 := hid (show (thenL (undF (fL c) c.length c.length) a).length ≤ 17592186044416 by rw [then_len, und_len]; omega)
  have L3 := hid (show (thenL (thenL (undF (fL c) c.length c.length) a) c).length ≤ 17592186044416 by rw [then_len, then_len, und_len]; omega)
  have L4 := hid (show (powL (fL a) a.length (powT (n.tmod 1000000) (ordN (fL a) a.length))).length ≤ 17592186044416 by rw [pow_len]; omega)
  clear hob A h12 h12c T hv hu
  generalize powL (fL a) a.length (powT (n.tmod 1000000) (ordN (fL a) a.length)) = ps at *
  generalize ordN (fL a) a.length = od at *
  generalize thenL (thenL (undF (fL c) c.length c.length) a) c = b at *
  generalize thenL (undF (fL c) c.length c.length) a = x at *
  generalize undF (fL c) c.length c.length = V at *
  go_enter Try.func7, Try.ntmps7
  go_wp2_with fail
  refine HT.out.mono ?_
  rintro e w1 ⟨rfl, hb1⟩
  have B1 := hid hb1
  clear hb1
  go_wp2_with fail
  refine (HV.out _ B1.out).mono ?_
  rintro e w2 ⟨⟨r2, rfl, hr2⟩, hb2⟩
  have B2 := hid (B1.out.trans (hb2.mono B1.out.size))
  have R2 := hid hr2
  clear hb2 hr2
  go_wp2_with fail
  refine (HC1.out _ _ B2.out (R2.out.sl L1.out)).mono ?_
  rintro e w3 ⟨⟨r3, rfl, hr3⟩, hb3⟩
  have B3 := hid (B2.out.trans (hb3.mono B2.out.size))
  have R3 := hid hr3
  clear hb3 hr3
  go_wp2_with fail
  refine (HC2.out _ _ B3.out (R3.out.sl L2.out)).mono ?_
  rintro e w4 ⟨⟨r4, rfl, hr4⟩, hb4⟩
  have B4 := hid (B3.out.trans (hb4.mono B3.out.size))
  have R4 := hid hr4
  clear hb4 hr4
  go_wp2_with fail
  refine (HAL.out _ _ B4.out (R4.out.sl L3.out)).mono ?_
  rintro e w5 ⟨rfl, hb5⟩
  have B5 := hid (B4.out.trans (hb5.mono B4.out.size))
  clear hb5
  go_wp2_with fail
  refine (HO.out _ B5.out).mono ?_
  rintro e w6 ⟨rfl, hb6⟩
  have B6 := hid (B5.out.trans (hb6.mono B5.out.size))
  clear hb6
  go_wp2_with fail
  refine (HP1.out _ B6.out).mono ?_
  rintro e w7 ⟨⟨r7, rfl, hr7⟩, hb7⟩
  have B7 := hid (B6.out.trans (hb7.mono B6.out.size))
  have R7 := hid hr7
  clear hb7 hr7
  go_wp2_with fail
  refine (HP2.out _ B7.out).mono ?_
  rintro e w8 ⟨⟨r8, rfl, hr8⟩, hb8⟩
  have B8 := hid (B7.out.trans (hb8.mono B7.out.size))
  have R8 := hid (R7.out.below hb8)
  have S8 := hid hr8
  clear hb8 hr8
  go_wp2_with fail
  refine (ints_any _ _ ps ps _ (R8.out.sl L4.out) (S8.out.sl L4.out)).mono ?_
  rintro e w9 ⟨rfl, n9, rfl⟩
  have hd : decide (ps = ps) = true := by simp
  go_wp2
  go_ret
  exact ⟨rfl, below_drewN B8.out _⟩

theorem permTurned_walk (w : World) (v : Value) (a : List Int) (hv : Sl w v a) (_ : ∀ x ∈ a, I64 x) (u : Value) (c : List Int) (hu : Sl w u c) (_ : ∀ x ∈ c, I64 x) (n : Int) (_ : I64 n) :
    Calls Try.prog 7 #[v, u, .int .i64 n] w fun e w' => e = .returned (.bool true) ∧ Below w.heap.size w w' := by
  by_cases h : permE c = 0
  · by_cases h2 : bothE (undF (fL c) c.length c.length) a = 0
    · exact permTurned_good w v u a c n hv hu (turnK h h2)
    · exact permTurned_va w v u a c n hv hu h h2
  · exact permTurned_c w v u a c n hu h
end Go.Proofs.Ytgfdddknajeknaa
