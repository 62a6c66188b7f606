/-
  The walks over cmp.Less and slices.insertionSortOrdered at ints. Conditions: the slice is the call's own.
-/
import Derived.Test.YthbpdfkaacgpoaaIsort
import Derived.Test.YthbpdfkaacgpoaaArr
import Derived.BigRegion
namespace Go.Proofs.Ythbpdfkaacgpoaa
set_option linter.unusedVariables false
open Go.RowKit

theorem isNaN_any (a : Int) (w : World) :
    Calls Try.prog 85 #[.int .i64 a] w fun e w' => e = .returned (.bool false) ∧ w' = w := by
  have h : (a != a) = false := by simp
  go_enter Try.func85, Try.ntmps85
  go_wp2
  go_ret
  exact ⟨rfl, rfl⟩
theorem less_any (a b : Int) (w : World) :
    Calls Try.prog 74 #[.int .i64 a, .int .i64 b] w fun e w' => e = .returned (.bool (decide (a < b))) ∧ w' = w := by
  have HN := hid isNaN_any
  go_enter Try.func74, Try.ntmps74
  go_wp2_with fail
  refine (HN.out _ _).mono ?_
  rintro e w2 ⟨rfl, rfl⟩
  go_wp2
  go_ret
  exact ⟨rfl, rfl⟩
theorem grown_trans1 {w w1 w2 : World} {g : Nat} (h1 : w.grownBy w1 (some g)) (h2 : w1.grownBy w2 (some g)) : w.grownBy w2 (some g) :=
  ⟨h2.os.trans h1.os, h2.tape.trans h1.tape, h2.output.trans h1.output, Nat.le_trans h1.size h2.size, fun k hk hne => (h2.block k (Nat.lt_of_lt_of_le hk h1.size) hne).trans (h1.block k hk hne)⟩
theorem grown_drewN {w w1 : World} {r : Option Nat} (h1 : w.grownBy w1 r) (n : Nat) : w.grownBy (w1.drewN n) r := ⟨h1.os, h1.tape, h1.output, h1.size, h1.block⟩
theorem grown_refl (w : World) (r : Option Nat) : w.grownBy w r := ⟨rfl, rfl, rfl, Nat.le_refl _, fun _ _ _ => rfl⟩
def ltI (a b : Int) : Bool := decide (a < b)
def swpL (Y : List Int) (j : Nat) : List Int := (Y.set (j + 1) (Y.getD j 0)).set j (Y.getD (j + 1) 0)
theorem insJ_yes {Y : List Int} {j : Nat} (h : Y.getD (j + 1) 0 < Y.getD j 0) : insJ ltI 0 (j + 1) Y = insJ ltI 0 j (swpL Y j) := by rw [insJ, if_pos (show ltI _ _ = true from decide_eq_true h)]; rfl
theorem insJ_no {Y : List Int} {j : Nat} (h : ¬ Y.getD (j + 1) 0 < Y.getD j 0) : insJ ltI 0 (j + 1) Y = Y := by rw [insJ, if_neg (by unfold ltI; rw [decide_eq_false h]; decide)]
theorem swpL_len (Y : List Int) (j : Nat) : (swpL Y j).length = Y.length := by simp [swpL]

set_option maxHeartbeats 1000000 in
set_option maxRecDepth 100000 in
theorem insort_ok (B g N c : Nat) (l : List Int) (w : World) (hO : OI B w (.slice (some ⟨g, 0, none⟩) N c) l) (hl : l.length = N) (hN1 : 1 ≤ N) (hN : N ≤ 12) :
    Calls Try.prog 68 #[.slice (some ⟨g, 0, none⟩) N c, .int .i64 0, .int .i64 N] w fun e w' => e = .returned (.tuple #[]) ∧ OI B w' (.slice (some ⟨g, 0, none⟩) N c) (insI ltI 0 N l) ∧ w.grownBy w' (some g) := by
  have HL := hid less_any
  have HI1 := hid (insI_one ltI (0 : Int) l)
  have HIL : Hid (∀ k, (insI ltI 0 k l).length = N) := hid (fun k => by rw [insI_len, hl])
  have HIS : Hid (∀ k, insI ltI 0 (k + 1) l = insJ ltI 0 k (insI ltI 0 k l)) := hid (fun k => rfl)
  have HLN := hid hl
  have HO := hid hO
  generalize insI ltI 0 = II at *
  clear hO hl
  go_enter Try.func68, Try.ntmps68
  go_wp2
  go_loopw [6, 7] (fun x _ wr => ∃ i : Nat, x = .int .i64 i ∧ 1 ≤ i ∧ i ≤ N ∧ OI B wr (.slice (some ⟨g, 0, none⟩) N c) (II i l) ∧ w.grownBy wr (some g)) (fun x _ _ => N - (intOf x).toNat)
  case atStart => exact ⟨1, rfl, Nat.le_refl _, hN1, by rw [HI1.out]; exact HO.out, grown_refl _ _⟩
  case round =>
    obtain ⟨i, rfl, hi1, hiN, hO, hG⟩ := hrel
    by_cases hlt : i < N
    · have hlti : (i : Int) < (N : Int) := by omega
      have HX := hid (And.intro hO hG)
      have HISi := hid (HIS.out i)
      have HILi := hid (HIL.out i)
      clear hO hG
      go_wp2_with fail
      go_loopw [7] (fun x wq => ∃ (j : Nat) (Y : List Int), x = .int .i64 j ∧ j ≤ i ∧ Hid (Y.length = N) ∧ Hid (insJ ltI 0 j Y = II (i + 1) l) ∧ OI B wq (.slice (some ⟨g, 0, none⟩) N c) Y ∧ w.grownBy wq (some g)) (fun x _ => (intOf x).toNat)
      case atStart => exact ⟨i, II i l, rfl, Nat.le_refl _, HILi, hid HISi.out.symm, HX.out.1, HX.out.2⟩
      case round =>
        clear HX
        obtain ⟨j, Y, rfl, hji, HYN, HYI, hO, hG⟩ := hrel
        cases j with
        | zero =>
          have h0 : decide ((0 : Int) < ((0 : Nat) : Int)) = false := by simp
          have HF : Hid (Y = II (i + 1) l) := hid HYI.out
          have HX := hid (And.intro hO (grown_drewN hG))
          clear hO hG
          go_wp2
          go_quiet (fail)
          go_wp2
          go_roundw
          case rel => exact ⟨i + 1, by go_num, by omega, by omega, by rw [← HF.out]; exact HX.out.1.drewN _, HX.out.2 _⟩
          case measure => simp [intOf] <;> omega
        | succ j =>
          have hp : decide ((0 : Int) < ((j + 1 : Nat) : Int)) = true := by simp
          have hpp : (0 : Int) < ((j + 1 : Nat) : Int) := by omega
          have hjm : ((j + 1 : Nat) : Int) - 1 = (j : Int) := by omega
          have hj1 := hO.cell (j + 1) (by rw [HYN.out]; omega)
          have hj0 := hO.cell j (by rw [HYN.out]; omega)
          by_cases hyy : Y.getD (j + 1) 0 < Y.getD j 0
          · have HN2 := hid ((insJ_yes hyy).symm.trans HYI.out)
            have hdy : decide (Y.getD (j + 1) 0 < Y.getD j 0) = true := decide_eq_true hyy
            have HX := hid (fun n => show OI B (((wr.drewN n).setCell ⟨g, j + 1, none⟩ (.int .i64 (Y.getD j 0))).setCell ⟨g, j, none⟩ (.int .i64 (Y.getD (j + 1) 0))) (.slice (some ⟨g, 0, none⟩) N c) (swpL Y j) ∧ w.grownBy (((wr.drewN n).setCell ⟨g, j + 1, none⟩ (.int .i64 (Y.getD j 0))).setCell ⟨g, j, none⟩ (.int .i64 (Y.getD (j + 1) 0))) (some g) from by
              have hs1 := (hO.drewN n).stored (j + 1) (Y.getD j 0)
              have hs2 := hs1.1.stored j (Y.getD (j + 1) 0)
              exact ⟨hs2.1, grown_trans1 (grown_trans1 (grown_drewN hG n) hs1.2) hs2.2⟩)
            have hf1 := hO.frozen (j + 1)
            have hf0 := hO.frozen j
            have HLL := hid (fun w1 => less_any (Y.getD (j + 1) 0) (Y.getD j 0) w1)
            rw [hdy] at HLL
            have HYL2 : Hid ((swpL Y j).length = N) := hid (by rw [swpL_len, HYN.out])
            clear hO hG hyy hdy
            generalize swpL Y j = Y2 at *
            generalize Y.getD (j + 1) 0 = y1 at *
            generalize Y.getD j 0 = y0 at *
            have hjn : (j : Int) < (N : Int) := by omega
            have hjn1 : ((j + 1 : Nat) : Int) < (N : Int) := by omega
            have hjj : j < j + 1 := by omega
            generalize hj1e : j + 1 = j1 at *
            have hpn : decide (0 < j1) = true := by simp; omega
            have hw := IntWalk.i64_in (j : Int) (by omega)
            go_wp2
            go_quiet ((go_at_call 74; exact Calls.quiet_of_same (HLL.out _)))
            go_wp2
            go_region
            go_wp2
            go_roundw
            case rel => exact ⟨j, Y2, by go_num, by omega, HYL2, HN2, (HX.out _).1, (HX.out _).2⟩
            case measure => simp [intOf] <;> omega
          · have HN2 : Hid (Y = II (i + 1) l) := hid ((insJ_no hyy).symm.trans HYI.out)
            have HX := hid (And.intro hO (grown_drewN hG))
            have hdn : decide (Y.getD (j + 1) 0 < Y.getD j 0) = false := decide_eq_false hyy
            have HLL := hid (fun w1 => less_any (Y.getD (j + 1) 0) (Y.getD j 0) w1)
            rw [hdn] at HLL
            clear hO hG hyy hdn
            generalize Y.getD (j + 1) 0 = y1 at *
            generalize Y.getD j 0 = y0 at *
            have hjn : (j : Int) < (N : Int) := by omega
            have hjn1 : ((j + 1 : Nat) : Int) < (N : Int) := by omega
            generalize hj1e : j + 1 = j1 at *
            have hpn : decide (0 < j1) = true := by simp; omega
            have hw := IntWalk.i64_in (j : Int) (by omega)
            go_wp2
            go_quiet ((go_at_call 74; exact Calls.quiet_of_same (HLL.out _)))
            go_wp2
            go_roundw
            case rel => exact ⟨i + 1, by go_num, by omega, by omega, by rw [← HN2.out]; exact HX.out.1.drewN _, HX.out.2 _⟩
            case measure => simp [intOf] <;> omega
    · obtain rfl : i = N := by omega
      have hlti : ¬ (i : Int) < (i : Int) := by omega
      have HX := hid (And.intro hO hG)
      clear hO hG
      go_wp2
      go_end0
      exact ⟨rfl, HX.out.1, HX.out.2⟩
end Go.Proofs.Ythbpdfkaacgpoaa
