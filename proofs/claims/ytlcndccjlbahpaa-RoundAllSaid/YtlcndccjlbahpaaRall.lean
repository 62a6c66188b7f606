/-
  The walks over the laws RoundAll and RoundMullin. Condition: the slices can be read and hold integers of 64 bits.
-/
import Derived.Test.YtlcndccjlbahpaaRdevQ
import Derived.Deep.RegionLaw
namespace Go.Proofs.Ytlcndccjlbahpaa
set_option linter.unusedVariables false
open Go.RowKit

set_option maxHeartbeats 1000000 in
set_option maxRecDepth 100000 in
theorem roundAll_walk (w : World) (n : Int) (hn : I64 n) (v : Int) (hv : I64 v) (u : Value) (ll : List (List Int)) (hl : RL w u ll) (hb : ∀ l ∈ ll, ∀ x ∈ l, I64 x) :
    Calls Try.prog 6 #[.int .i64 n, .int .i64 v, u] w fun e w' => e = .returned (.bool true) ∧ Below w.heap.size w w' := by
  have HF := hid (roundFact_any w)
  by_cases hz : stE v ll = 0
  · obtain ⟨p, rfl, h3, h15, hpN, hp, _, _⟩ := st_zero hz
    clear hv
    have HDV := hid (fun w1 (h : Below w.heap.size w w1) => Develop_ok p u ll w1 (hl.below h) hb hz)
    have HDC := hid (fun (x : Value) (w1 : World) (h : RL w1 x (dvL p ll)) => Check_any ((p : Int) + 1) x (dvL p ll) w1 h (dv_i64 hz))
    rw [dv_chk hz] at HDC
    have HDL := hid (dv_len p ll)
    have HDS := hid (dv_short (v := p) (by omega) ll)
    clear hl hb hz hpN hp
    generalize dvL p ll = DV at *
    cases ht : tmB n with
    | false =>
      have HC := hid (fun w1 => Circle_bad n w1 ht)
      clear ht hn
      go_enter Try.func6, Try.ntmps6
      go_wp2_with fail
      refine HF.out.mono ?_
      rintro e w1 ⟨rfl, hb1⟩
      have B1 := hid hb1
      clear hb1
      go_wp2_with fail
      refine (HC.out w1).mono ?_
      rintro e w3 ⟨rfl, rfl⟩
      have B3 := hid B1.out
      go_wp2_with fail
      refine (HDV.out _ B3.out).mono ?_
      rintro e w4 ⟨⟨x4, rfl, hx4⟩, hb4⟩
      obtain ⟨a4, c4, e4⟩ := hx4.len
      rw [HDL.out] at e4
      subst e4
      have B4 := hid (B3.out.trans (hb4.mono B3.out.size))
      have HC2 := hid (HDC.out _ w4 (hx4.rl (by rw [HDL.out]; omega) HDS.out))
      clear hb4 hx4
      go_wp2_with fail
      refine HC2.out.mono ?_
      rintro e w5 ⟨rfl, hb5⟩
      have B5 := hid (B4.out.trans (hb5.mono B4.out.size))
      clear hb5
      go_wp2
      go_ret
      exact ⟨rfl, B5.out⟩
    | true =>
      obtain ⟨m, rfl, h2, h16, hev⟩ := tm_of ht
      clear hn
      obtain ⟨k1, k2, k3, k4⟩ := ci_ok ht
      have HC := hid (fun w1 => Circle_ok m w1 ht)
      have HCK := hid (fun (x : Value) (w1 : World) (h : RL w1 x (ciL m)) => Check_any m x (ciL m) w1 h (ci_i64 ht))
      rw [k1] at HCK
      have HL := hid k2
      have HIN := hid (ci_short ht)
      have hcl : (((m - 1 : Nat) : Int) != (m : Int) - 1) = false := by rw [bne_eq_false_iff_eq]; omega
      clear k1 k2 k3 k4 ht hev
      generalize ciL m = CL at *
      obtain ⟨m1, hm1⟩ : ∃ m1, m1 = m - 1 := ⟨_, rfl⟩
      rw [← hm1] at HL hcl
      have hm14 : m1 ≤ 15 := by omega
      clear hm1
      go_enter Try.func6, Try.ntmps6
      go_wp2_with fail
      refine HF.out.mono ?_
      rintro e w1 ⟨rfl, hb1⟩
      have B1 := hid hb1
      clear hb1
      go_wp2_with fail
      refine (HC.out w1).mono ?_
      rintro e w2 ⟨⟨x2, rfl, hx2⟩, hb2⟩
      obtain ⟨a2, c2, e2⟩ := hx2.len
      rw [HL.out] at e2
      subst e2
      have B2 := hid (B1.out.trans (hb2.mono B1.out.size))
      have HCC := hid (HCK.out _ w2 (hx2.rl (by rw [HL.out]; omega) HIN.out))
      clear hb2 hx2
      go_wp2_with fail
      refine HCC.out.mono ?_
      rintro e w3 ⟨rfl, hb3⟩
      have B3 := hid (B2.out.trans (hb3.mono B2.out.size))
      clear hb3
      go_wp2_with fail
      refine (HDV.out _ B3.out).mono ?_
      rintro e w4 ⟨⟨x4, rfl, hx4⟩, hb4⟩
      obtain ⟨a4, c4, e4⟩ := hx4.len
      rw [HDL.out] at e4
      subst e4
      have B4 := hid (B3.out.trans (hb4.mono B3.out.size))
      have HC2 := hid (HDC.out _ w4 (hx4.rl (by rw [HDL.out]; omega) HDS.out))
      clear hb4 hx4
      go_wp2_with fail
      refine HC2.out.mono ?_
      rintro e w5 ⟨rfl, hb5⟩
      have B5 := hid (B4.out.trans (hb5.mono B4.out.size))
      clear hb5
      go_wp2
      go_ret
      exact ⟨rfl, B5.out⟩
  · have HDV := hid (fun w1 (h : Below w.heap.size w w1) => Develop_err v u ll w1 hv (hl.below h) hb hz)
    have hq : (stE v ll != 0) = true := by simpa using hz
    clear hl hb hz hv
    generalize stE v ll = E at *
    cases ht : tmB n with
    | false =>
      have HC := hid (fun w1 => Circle_bad n w1 ht)
      clear ht hn
      go_enter Try.func6, Try.ntmps6
      go_wp2_with fail
      refine HF.out.mono ?_
      rintro e w1 ⟨rfl, hb1⟩
      have B1 := hid hb1
      clear hb1
      go_wp2_with fail
      refine (HC.out w1).mono ?_
      rintro e w3 ⟨rfl, rfl⟩
      have B3 := hid B1.out
      go_wp2_with fail
      refine (HDV.out _ B3.out).mono ?_
      rintro e w4 ⟨rfl, hb4⟩
      have B4 := hid (B3.out.trans (hb4.mono B3.out.size))
      clear hb4
      go_wp2
      go_ret
      exact ⟨rfl, B4.out⟩
    | true =>
      obtain ⟨m, rfl, h2, h16, hev⟩ := tm_of ht
      clear hn
      obtain ⟨k1, k2, k3, k4⟩ := ci_ok ht
      have HC := hid (fun w1 => Circle_ok m w1 ht)
      have HCK := hid (fun (x : Value) (w1 : World) (h : RL w1 x (ciL m)) => Check_any m x (ciL m) w1 h (ci_i64 ht))
      rw [k1] at HCK
      have HL := hid k2
      have HIN := hid (ci_short ht)
      have hcl : (((m - 1 : Nat) : Int) != (m : Int) - 1) = false := by rw [bne_eq_false_iff_eq]; omega
      clear k1 k2 k3 k4 ht hev
      generalize ciL m = CL at *
      obtain ⟨m1, hm1⟩ : ∃ m1, m1 = m - 1 := ⟨_, rfl⟩
      rw [← hm1] at HL hcl
      have hm14 : m1 ≤ 15 := by omega
      clear hm1
      go_enter Try.func6, Try.ntmps6
      go_wp2_with fail
      refine HF.out.mono ?_
      rintro e w1 ⟨rfl, hb1⟩
      have B1 := hid hb1
      clear hb1
      go_wp2_with fail
      refine (HC.out w1).mono ?_
      rintro e w2 ⟨⟨x2, rfl, hx2⟩, hb2⟩
      obtain ⟨a2, c2, e2⟩ := hx2.len
      rw [HL.out] at e2
      subst e2
      have B2 := hid (B1.out.trans (hb2.mono B1.out.size))
      have HCC := hid (HCK.out _ w2 (hx2.rl (by rw [HL.out]; omega) HIN.out))
      clear hb2 hx2
      go_wp2_with fail
      refine HCC.out.mono ?_
      rintro e w3 ⟨rfl, hb3⟩
      have B3 := hid (B2.out.trans (hb3.mono B2.out.size))
      clear hb3
      go_wp2_with fail
      refine (HDV.out _ B3.out).mono ?_
      rintro e w4 ⟨rfl, hb4⟩
      have B4 := hid (B3.out.trans (hb4.mono B3.out.size))
      clear hb4
      go_wp2
      go_ret
      exact ⟨rfl, B4.out⟩
end Go.Proofs.Ytlcndccjlbahpaa
