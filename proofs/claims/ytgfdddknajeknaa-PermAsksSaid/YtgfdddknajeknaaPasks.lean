/-
  The walk over the law PermAsks. Condition: the slice can be read.
-/
import Derived.Test.YtgfdddknajeknaaPrank2
import Derived.Test.YtgfdddknajeknaaPpow
import Derived.Test.YtgfdddknajeknaaPsign
namespace Go.Proofs.Ytgfdddknajeknaa
set_option linter.unusedVariables false
open Go.RowKit

set_option maxHeartbeats 1000000 in
theorem permAsks_walk (w : World) (v : Value) (l : List Int) (hl : Sl w v l) (_ : ∀ x ∈ l, I64 x) :
    Calls Try.prog 5 #[v] w fun e w' => e = .returned (.bool true) ∧ Below w.heap.size w w' := by
  have HF := hid (permfault_any v l w hl)
  have HCK := hid (fun w1 (h : Below w.heap.size w w1) => check_any v l w1 (hl.below h))
  have B0 := hid (Below.refl w.heap.size w)
  by_cases hz : permE l = 0
  · have P := pm_of hz
    have h12 := P.n12
    have HI := hid (fun w1 (h : Below w.heap.size w w1) => Inverse_ok v l w1 (hl.below h) hz)
    have HO := hid (fun w1 (h : Below w.heap.size w w1) => Order_ok v l w1 (hl.below h) hz)
    have HS := hid (fun w1 (h : Below w.heap.size w w1) => Sign_ok v l w1 (hl.below h) hz)
    have HR := hid (fun w1 (h : Below w.heap.size w w1) => Rank_ok v l w1 (hl.below h) hz)
    have HU := hid (fun w1 (h : Below w.heap.size w w1) => undo_ok v l _ _ w1 (hl.below h) P)
    have HPO := hid (fun w1 (h : Below w.heap.size w w1) => permorder_ok v l _ _ w1 (hl.below h) P)
    have HPS := hid (fun w1 (h : Below w.heap.size w w1) => permsign_ok v l _ _ w1 (hl.below h) P)
    have HPR := hid (fun w1 (h : Below w.heap.size w w1) => permrank_ok v l _ _ w1 (hl.below h) P)
    have hrk := rank_same P.pm
    rw [← hrk] at HPR
    have HLU := hid (show (undF (fL l) l.length l.length).length ≤ 17592186044416 by rw [und_len]; omega)
    rw [hz] at HF HCK
    clear hz P h12 hl hrk
    generalize undF (fL l) l.length l.length = ul at *
    generalize (ordN (fL l) l.length : Int) = od at *
    generalize sgnZ (inv (fL l) l.length) = sg at *
    generalize (rankH (fL l) l.length l.length : Int) = rk at *
    have e1 : (od == od) = true := by simp
    have e2 : (sg == sg) = true := by simp
    have e3 : (rk == rk) = true := by simp
    go_enter Try.func5, Try.ntmps5
    go_wp2_with fail
    refine HF.out.mono ?_
    rintro e w1 ⟨rfl, n1, rfl⟩
    go_wp2_with fail
    refine (HCK.out _ (below_drewN B0.out _)).mono ?_
    rintro e w2 ⟨rfl, hb2⟩
    have B2 := hid ((below_drewN B0.out n1).trans (hb2.mono (Nat.le_refl _)))
    clear hb2
    go_wp2_with fail
    refine (HI.out _ B2.out).mono ?_
    rintro e w3 ⟨⟨r3, rfl, hr3⟩, hb3⟩
    have B3 := hid (B2.out.trans (hb3.mono B2.out.size))
    have R3 := hid hr3
    clear hb3 hr3
    go_wp2_with fail
    refine (HO.out _ B3.out).mono ?_
    rintro e w4 ⟨rfl, hb4⟩
    have B4 := hid (B3.out.trans (hb4.mono B3.out.size))
    have R4 := hid (R3.out.below hb4)
    clear hb4
    go_wp2_with fail
    refine (HS.out _ B4.out).mono ?_
    rintro e w5 ⟨rfl, hb5⟩
    have B5 := hid (B4.out.trans (hb5.mono B4.out.size))
    have R5 := hid (R4.out.below hb5)
    clear hb5
    go_wp2_with fail
    refine (HR.out _ B5.out).mono ?_
    rintro e w6 ⟨rfl, hb6⟩
    have B6 := hid (B5.out.trans (hb6.mono B5.out.size))
    have R6 := hid (R5.out.below hb6)
    clear hb6
    go_wp2_with fail
    refine (HU.out _ B6.out).mono ?_
    rintro e w7 ⟨⟨r7, rfl, hr7⟩, hb7⟩
    have B7 := hid (B6.out.trans (hb7.mono B6.out.size))
    have R7 := hid (R6.out.below hb7)
    have S7 := hid hr7
    clear hb7 hr7
    go_wp2_with fail
    refine (ints_any _ _ ul ul _ (R7.out.sl HLU.out) (S7.out.sl HLU.out)).mono ?_
    rintro e w8 ⟨rfl, n8, rfl⟩
    have hd : decide (ul = ul) = true := by simp
    have B8 := hid (below_drewN B7.out n8)
    go_wp2_with fail
    refine (HPO.out _ B8.out).mono ?_
    rintro e w9 ⟨rfl, hb9⟩
    have B9 := hid (B8.out.trans (hb9.mono B8.out.size))
    clear hb9
    go_wp2_with fail
    refine (HPS.out _ B9.out).mono ?_
    rintro e w10 ⟨rfl, n10, rfl⟩
    have B10 := hid (below_drewN B9.out n10)
    go_wp2_with fail
    refine (HPR.out _ B10.out).mono ?_
    rintro e w11 ⟨rfl, rfl⟩
    go_wp2
    go_ret
    exact ⟨rfl, B10.out⟩
  · have HI := hid (fun w1 (h : Below w.heap.size w w1) => Inverse_bad v l w1 (hl.below h) hz)
    have HO := hid (fun w1 (h : Below w.heap.size w w1) => Order_bad v l w1 (hl.below h) hz)
    have HS := hid (fun w1 (h : Below w.heap.size w w1) => Sign_bad v l w1 (hl.below h) hz)
    have HR := hid (fun w1 (h : Below w.heap.size w w1) => Rank_bad v l w1 (hl.below h) hz)
    have qz1 : (permE l != 0) = true := by simpa using hz
    have qzz : (permE l != permE l) = false := by simp
    clear hl hz
    generalize permE l = z at *
    go_enter Try.func5, Try.ntmps5
    go_wp2_with fail
    refine HF.out.mono ?_
    rintro e w1 ⟨rfl, n1, rfl⟩
    go_wp2_with fail
    refine (HCK.out _ (below_drewN B0.out _)).mono ?_
    rintro e w2 ⟨rfl, hb2⟩
    have B2 := hid ((below_drewN B0.out n1).trans (hb2.mono (Nat.le_refl _)))
    clear hb2
    go_wp2_with fail
    refine (HI.out _ B2.out).mono ?_
    rintro e w3 ⟨rfl, hb3⟩
    have B3 := hid (B2.out.trans (hb3.mono B2.out.size))
    clear hb3
    go_wp2_with fail
    refine (HO.out _ B3.out).mono ?_
    rintro e w4 ⟨rfl, hb4⟩
    have B4 := hid (B3.out.trans (hb4.mono B3.out.size))
    clear hb4
    go_wp2_with fail
    refine (HS.out _ B4.out).mono ?_
    rintro e w5 ⟨rfl, hb5⟩
    have B5 := hid (B4.out.trans (hb5.mono B4.out.size))
    clear hb5
    go_wp2_with fail
    refine (HR.out _ B5.out).mono ?_
    rintro e w6 ⟨rfl, hb6⟩
    have B6 := hid (B5.out.trans (hb6.mono B5.out.size))
    clear hb6
    go_wp2
    go_ret
    exact ⟨rfl, B6.out⟩
end Go.Proofs.Ytgfdddknajeknaa
