/-
  The walk over the law SubsetAsks. Condition: the slice can be read.
-/
import Derived.Test.YtdbfmjlnalaobaaShad
import Derived.Test.YtdbfmjlnalaobaaWints
namespace Go.Proofs.Ytdbfmjlnalaobaa
set_option linter.unusedVariables false
open Go.RowKit

theorem subsetAsks_walk (w : World) (n : Int) (_ : I64 n) (v : Value) (l : List Int) (hl : Sl w v l) (hb : ∀ x ∈ l, I64 x) :
    Calls Try.prog 3 #[.int .i64 n, v] w fun e w' => e = .returned (.bool true) ∧ Below w.heap.size w w' := by
  have HF := hid (famfault_any n v l w hl)
  have B0 := hid (Below.refl w.heap.size w)
  have HCK := hid (fun w1 (h : Below w.heap.size w w1) => check_fam n v l w1 (hl.below h) hb)
  by_cases hz : famE n l = 0
  · obtain ⟨m, rfl, hF⟩ := fam_of hz
    obtain ⟨F, hFx⟩ : ∃ F : Nat → Nat, F = fun k : Nat => (l[k]?.getD (0 : Int)).toNat := ⟨_, rfl⟩
    rw [← hFx] at hF
    clear hFx
    have HSH := hid (fun w1 (h : Below w.heap.size w w1) => Shadow_ok m v l F l.length w1 (hl.below h) hb hz hF)
    have HAP := hid (fun w1 (h : Below w.heap.size w w1) => Apart_ok m v l F l.length w1 (hl.below h) hb hz hF.fam)
    have HCR := hid (fun w1 (h : Below w.heap.size w w1) => Cross_ok m v l F l.length w1 (hl.below h) hb hz hF.fam)
    have HSO := hid (fun w1 (h : Below w.heap.size w w1) => ShadowOf_ok m v l F l.length w1 (hl.below h) hF)
    have HAO := hid (fun w1 (h : Below w.heap.size w w1) => ApartOf_any v l F l.length w1 (hl.below h) hF.fam)
    have HCO := hid (fun w1 (h : Below w.heap.size w w1) => CrossOf_any v l F l.length w1 (hl.below h) hF.fam)
    have HLN : Hid ((outS (shB F m l.length 0) 4096).length ≤ 17592186044416) := hid (Nat.le_trans (outS_len _ _) (by omega))
    rw [hz] at HF HCK
    clear hz hF hl hb
    generalize outS (shB F m l.length 0) 4096 = R at *
    generalize pairB F apartB l.length = ap at *
    generalize crB l F l.length = cr at *
    have e1 : (ap == ap) = true := by simp
    have e2 : (cr == cr) = true := by simp
    go_enter Try.func3, Try.ntmps3
    go_wp2_with fail
    refine HF.out.mono ?_
    rintro e w1 ⟨rfl, n1, rfl⟩
    have B1 := hid (below_drewN B0.out n1)
    go_wp2_with fail
    refine (HCK.out _ B1.out).mono ?_
    rintro e w2 ⟨rfl, hb2⟩
    have B2 := hid (B1.out.trans (hb2.mono B1.out.size))
    clear hb2
    go_wp2_with fail
    refine (HSH.out _ B2.out).mono ?_
    rintro e w3 ⟨⟨r3, rfl, hr3⟩, hb3⟩
    have B3 := hid (B2.out.trans (hb3.mono B2.out.size))
    have R3 := hid hr3
    clear hb3 hr3
    go_wp2_with fail
    refine (HAP.out _ B3.out).mono ?_
    rintro e w4 ⟨rfl, hb4⟩
    have B4 := hid (B3.out.trans (hb4.mono B3.out.size))
    have R4 := hid (R3.out.below hb4)
    clear hb4
    go_wp2_with fail
    refine (HCR.out _ B4.out).mono ?_
    rintro e w5 ⟨rfl, hb5⟩
    have B5 := hid (B4.out.trans (hb5.mono B4.out.size))
    have R5 := hid (R4.out.below hb5)
    clear hb5
    go_wp2_with fail
    refine (HSO.out _ B5.out).mono ?_
    rintro e w6 ⟨⟨r6, rfl, hr6⟩, hb6⟩
    have B6 := hid (B5.out.trans (hb6.mono B5.out.size))
    have R6 := hid (R5.out.below hb6)
    have S6 := hid hr6
    clear hb6 hr6
    go_wp2_with fail
    refine (ints_any _ _ R R _ (R6.out.sl HLN.out) (S6.out.sl HLN.out)).mono ?_
    rintro e w7 ⟨rfl, n7, rfl⟩
    have hd : decide (R = R) = true := by simp
    have B7 := hid (below_drewN B6.out n7)
    go_wp2_with fail
    refine (HAO.out _ B7.out).mono ?_
    rintro e w8 ⟨rfl, n8, rfl⟩
    have B8 := hid (below_drewN B6.out (n7 + n8))
    go_wp2_with fail
    refine (HCO.out _ B8.out).mono ?_
    rintro e w9 ⟨rfl, n9, rfl⟩
    have B9 := hid (below_drewN B6.out (n7 + n8 + n9))
    go_wp2
    go_ret
    exact ⟨rfl, B9.out⟩
  · have HSH := hid (fun w1 (h : Below w.heap.size w w1) => Shadow_bad n v l w1 (hl.below h) hb hz)
    have HAP := hid (fun w1 (h : Below w.heap.size w w1) => Apart_bad n v l w1 (hl.below h) hb hz)
    have HCR := hid (fun w1 (h : Below w.heap.size w w1) => Cross_bad n v l w1 (hl.below h) hb hz)
    have qz1 : (famE n l != 0) = true := by simpa using hz
    have qzz : (famE n l != famE n l) = false := by simp
    clear hl hb hz
    generalize famE n l = z at *
    go_enter Try.func3, Try.ntmps3
    go_wp2_with fail
    refine HF.out.mono ?_
    rintro e w1 ⟨rfl, n1, rfl⟩
    have B1 := hid (below_drewN B0.out n1)
    go_wp2_with fail
    refine (HCK.out _ B1.out).mono ?_
    rintro e w2 ⟨rfl, hb2⟩
    have B2 := hid (B1.out.trans (hb2.mono B1.out.size))
    clear hb2
    go_wp2_with fail
    refine (HSH.out _ B2.out).mono ?_
    rintro e w3 ⟨rfl, hb3⟩
    have B3 := hid (B2.out.trans (hb3.mono B2.out.size))
    clear hb3
    go_wp2_with fail
    refine (HAP.out _ B3.out).mono ?_
    rintro e w4 ⟨rfl, hb4⟩
    have B4 := hid (B3.out.trans (hb4.mono B3.out.size))
    clear hb4
    go_wp2_with fail
    refine (HCR.out _ B4.out).mono ?_
    rintro e w5 ⟨rfl, hb5⟩
    have B5 := hid (B4.out.trans (hb5.mono B4.out.size))
    clear hb5
    go_wp2
    go_ret
    exact ⟨rfl, B5.out⟩
end Go.Proofs.Ytdbfmjlnalaobaa
