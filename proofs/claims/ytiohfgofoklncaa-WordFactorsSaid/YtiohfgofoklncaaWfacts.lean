/-
  The walks over parterrelaw4.WordFactors: for every word it returns true. Condition: the slice can be read.
-/
import Derived.Test.YtiohfgofoklncaaWlyndon
import Derived.Test.YtiohfgofoklncaaWfactof
import Derived.Test.YtiohfgofoklncaaWints
namespace Go.Proofs.Ytiohfgofoklncaa
open Go.RowKit

theorem wordFactors_walk (w : World) (v : Value) (l : List Int) (hl : Sl w v l) (hb : ∀ x ∈ l, I64 x) :
    Calls Try.prog 5 #[v] w fun e w' => e = .returned (.bool true) ∧ Below w.heap.size w w' := by
  by_cases h : wordFault l = 0
  · have h1 := wordfault_any v l w hl
    rw [h] at h1
    have H1 := hid h1
    clear h1
    have hlen := fault_len h
    obtain ⟨a, c, N, hv, hN, hl1, _⟩ := hl.open
    rw [hN.out] at hlen
    by_cases h60 : 60 < N
    · have HV := hid hv
      clear hv
      go_enter Try.func5, Try.ntmps5
      go_wp2_with fail
      refine H1.out.mono ?_
      rintro e w' ⟨rfl, ⟨n, rfl⟩⟩
      go_wp2_with fail
      refine (Factors_ok v l _ (hl.drewN n) hb h).mono ?_
      rintro e w2 ⟨⟨u, F, rfl, hF, hown⟩, hb1⟩
      go_wp2_with fail
      refine (Lyndon_ok v l _ ((hl.drewN n).below hb1) hb h).mono ?_
      rintro e w3 ⟨rfl, hb2⟩
      rw [HV.out]
      go_wp2
      go_ret
      exact ⟨rfl, (below_drewN (Below.refl _ w) n).trans (hb1.trans (hb2.mono hb1.size))⟩
    · have HV := hid hv
      clear hv
      go_enter Try.func5, Try.ntmps5
      go_wp2_with fail
      refine H1.out.mono ?_
      rintro e w' ⟨rfl, ⟨n, rfl⟩⟩
      go_wp2_with fail
      refine (Factors_ok v l _ (hl.drewN n) hb h).mono ?_
      rintro e w2 ⟨⟨u, F, rfl, hF, hown⟩, hb1⟩
      go_wp2_with fail
      refine (Lyndon_ok v l _ ((hl.drewN n).below hb1) hb h).mono ?_
      rintro e w3 ⟨rfl, hb2⟩
      have hl3 := ((hl.drewN n).below hb1).below hb2
      have hown3 := hown.below hb2
      have hbb : Below w.heap.size w w3 := (below_drewN (Below.refl _ w) n).trans (hb1.trans (hb2.mono hb1.size))
      have hFl : F.length ≤ 4096 := by
        have := Lex.made_count hF
        rw [hN.out] at this
        omega
      have HF := hid hF
      clear hF hown hb1 hb2
      rw [HV.out]
      go_wp2_with fail
      rw [← HV.out]
      refine (factorsof_any v l F _ hl3 (by rw [hN.out]; omega) HF.out).mono ?_
      rintro e w4 ⟨⟨u2, rfl, hown4⟩, hb4⟩
      go_wp2_with fail
      refine (lyndonof_any v l _ (hl3.below hb4)).mono ?_
      rintro e w5 ⟨rfl, ⟨m, rfl⟩⟩
      go_wp2_with fail
      refine (ints_any _ _ (Lex.lens F) (Lex.lens F) _ (((hown3.below hb4).drewN m).sl (by rw [lens_len]; omega)) ((hown4.drewN m).sl (by rw [lens_len]; omega))).mono ?_
      rintro e w5 ⟨rfl, ⟨k, rfl⟩⟩
      have hfin : Below w.heap.size w w4 := hbb.trans (hb4.mono hbb.size)
      clear hown4 hown3 hl3 hb4 hbb
      go_wp2
      go_ret
      exact ⟨rfl, below_drewN hfin _⟩
  · have H1 := hid (wordfault_any v l w hl)
    go_enter Try.func5, Try.ntmps5
    go_wp2_with fail
    refine H1.out.mono ?_
    rintro e w' ⟨rfl, ⟨n, rfl⟩⟩
    go_wp2_with fail
    refine (Factors_bad v l _ (hl.drewN n) hb h).mono ?_
    rintro e w' ⟨rfl, rfl⟩
    go_wp2_with fail
    refine (Lyndon_bad v l _ (hl.drewN n) hb h).mono ?_
    rintro e w' ⟨rfl, rfl⟩
    have hq : (wordFault l != 0) = true := by simpa using h
    go_wp2
    go_ret
    exact ⟨rfl, below_drewN (Below.refl _ _) _⟩
end Go.Proofs.Ytiohfgofoklncaa
