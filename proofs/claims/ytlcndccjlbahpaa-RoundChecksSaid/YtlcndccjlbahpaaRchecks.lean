/-
  The walk over the law RoundChecks. Condition: the slices can be read and hold integers of 64 bits.
-/
import Derived.Test.YtlcndccjlbahpaaRrooms
namespace Go.Proofs.Ytlcndccjlbahpaa
set_option linter.unusedVariables false
open Go.RowKit Go.Maps

set_option maxHeartbeats 1000000 in
set_option maxRecDepth 100000 in
theorem roundChecks_walk (w : World) (n : Int) (hn : I64 n) (v : Value) (la : List (List Int)) (hl : RL w v la) (hb : ∀ l ∈ la, ∀ x ∈ l, I64 x) (u : Value) (lb : List (List Int)) (hm : RL w u lb) (hb2 : ∀ l ∈ lb, ∀ x ∈ l, I64 x) :
    Calls Try.prog 4 #[.int .i64 n, v, u] w fun e w' => e = .returned (.bool true) ∧ Below w.heap.size w w' := by
  have HF1 := hid (RoundsFault_any n v la w hl)
  have HF2 := hid (fun w1 (h : Below w.heap.size w w1) => RoundsFault_any n u lb w1 (hm.below h))
  have HCK := hid (fun w1 (h : Below w.heap.size w w1) => Check_any n v la w1 (hl.below h) hb)
  have HPE := hid (fun w1 (h : Below w.heap.size w w1) => Perfect_any n v la w1 (hl.below h) hb)
  have HRO := hid (fun w1 (h : Below w.heap.size w w1) => Rooms_any n v u la lb w1 (hl.below h) (hm.below h) hb hb2)
  have HB0 := hid (Below.refl w.heap.size w)
  by_cases hz : chkE n la = 0
  · obtain ⟨m, rfl, _⟩ := chk_zero hz
    have HPO := hid (fun w1 (h : Below w.heap.size w w1) => PerfectOf_ok m v la w1 (hl.below h) hz)
    rw [hz, Int.toNat_natCast, show ((0 : Int) == 0) = true from rfl, Bool.true_and] at HPE
    rw [hz] at HF1 HCK
    generalize pfB m la = P at *
    have hpp : (P != P) = false := by simp
    by_cases hz2 : chkE m lb = 0
    · have HRF := hid (fun w1 (h : Below w.heap.size w w1) => RoomsOf_ok m v u la lb w1 (hl.below h) (hm.below h) hz hz2)
      rw [hz2] at HF2
      have e1 : rmE m la lb = 0 := (if_pos hz).trans hz2
      have e2 : rmZ m la lb = rmB m la lb := by unfold rmZ; rw [e1, Int.toNat_natCast]; rfl
      rw [e1, e2] at HRO
      generalize rmB m la lb = R at *
      have hrr : (R == R) = true := by simp
      clear hl hm hb hb2 hz hz2 e1 e2
      go_enter Try.func4, Try.ntmps4
      go_wp2_with fail
      refine HF1.out.mono ?_
      rintro e w1 ⟨rfl, n1, rfl⟩
      have B1 := hid (below_drewN HB0.out n1)
      go_wp2_with fail
      refine (HCK.out _ B1.out).mono ?_
      rintro e w2 ⟨rfl, hb2⟩
      have B2 := hid (B1.out.trans (hb2.mono B1.out.size))
      clear hb2
      go_wp2_with fail
      refine (HPE.out _ B2.out).mono ?_
      rintro e w3 ⟨rfl, hb3⟩
      have B3 := hid (B2.out.trans (hb3.mono B2.out.size))
      clear hb3
      go_wp2_with fail
      refine (HPO.out _ B3.out).mono ?_
      rintro e w4 ⟨rfl, hb4⟩
      have B4 := hid (B3.out.trans (hb4.mono B3.out.size))
      clear hb4
      go_wp2_with fail
      refine (HF2.out _ B4.out).mono ?_
      rintro e w5 ⟨rfl, n5, rfl⟩
      have B5 := hid (below_drewN B4.out n5)
      go_wp2_with fail
      refine (HRO.out _ B5.out).mono ?_
      rintro e w6 ⟨rfl, hb6⟩
      have B6 := hid (B5.out.trans (hb6.mono B5.out.size))
      clear hb6
      go_wp2_with fail
      refine (HRF.out _ B6.out).mono ?_
      rintro e w7 ⟨rfl, n7, rfl⟩
      have B7 := hid (below_drewN B6.out n7)
      go_wp2
      go_ret
      exact ⟨rfl, B7.out⟩
    · have e1 : rmE m la lb = chkE m lb := if_pos hz
      have e2 : rmZ m la lb = false := by unfold rmZ; rw [e1, show (chkE (m : Int) lb == 0) = false by simpa using hz2, Bool.false_and]
      rw [e1, e2] at HRO
      have hq : (chkE m lb != 0) = true := by simpa using hz2
      have hq2 : (chkE m lb == chkE m lb) = true := by simp
      clear hl hm hb hb2 hz hz2 e1 e2
      generalize chkE (m : Int) lb = E at *
      go_enter Try.func4, Try.ntmps4
      go_wp2_with fail
      refine HF1.out.mono ?_
      rintro e w1 ⟨rfl, n1, rfl⟩
      have B1 := hid (below_drewN HB0.out n1)
      go_wp2_with fail
      refine (HCK.out _ B1.out).mono ?_
      rintro e w2 ⟨rfl, hb2⟩
      have B2 := hid (B1.out.trans (hb2.mono B1.out.size))
      clear hb2
      go_wp2_with fail
      refine (HPE.out _ B2.out).mono ?_
      rintro e w3 ⟨rfl, hb3⟩
      have B3 := hid (B2.out.trans (hb3.mono B2.out.size))
      clear hb3
      go_wp2_with fail
      refine (HPO.out _ B3.out).mono ?_
      rintro e w4 ⟨rfl, hb4⟩
      have B4 := hid (B3.out.trans (hb4.mono B3.out.size))
      clear hb4
      go_wp2_with fail
      refine (HF2.out _ B4.out).mono ?_
      rintro e w5 ⟨rfl, n5, rfl⟩
      have B5 := hid (below_drewN B4.out n5)
      go_wp2_with fail
      refine (HRO.out _ B5.out).mono ?_
      rintro e w6 ⟨rfl, hb6⟩
      have B6 := hid (B5.out.trans (hb6.mono B5.out.size))
      clear hb6
      go_wp2
      go_ret
      exact ⟨rfl, B6.out⟩
  · have e1 : rmE n la lb = chkE n la := if_neg hz
    have e0 : (chkE n la == 0) = false := by simpa using hz
    have e2 : rmZ n la lb = false := by unfold rmZ; rw [e1, e0, Bool.false_and]
    rw [e1, e2] at HRO
    rw [e0, Bool.false_and] at HPE
    have hq : (chkE n la != 0) = true := by simpa using hz
    have hq2 : (chkE n la == chkE n la) = true := by simp
    have hq3 : (chkE n la != chkE n la) = false := by simp
    clear hl hm hb hb2 hz e1 e2 hn
    generalize chkE n la = E at *
    go_enter Try.func4, Try.ntmps4
    go_wp2_with fail
    refine HF1.out.mono ?_
    rintro e w1 ⟨rfl, n1, rfl⟩
    have B1 := hid (below_drewN HB0.out n1)
    go_wp2_with fail
    refine (HCK.out _ B1.out).mono ?_
    rintro e w2 ⟨rfl, hb2⟩
    have B2 := hid (B1.out.trans (hb2.mono B1.out.size))
    clear hb2
    go_wp2_with fail
    refine (HPE.out _ B2.out).mono ?_
    rintro e w3 ⟨rfl, hb3⟩
    have B3 := hid (B2.out.trans (hb3.mono B2.out.size))
    clear hb3
    go_wp2_with fail
    refine (HRO.out _ B3.out).mono ?_
    rintro e w6 ⟨rfl, hb6⟩
    have B6 := hid (B3.out.trans (hb6.mono B3.out.size))
    clear hb6
    go_wp2
    go_ret
    exact ⟨rfl, B6.out⟩
end Go.Proofs.Ytlcndccjlbahpaa
