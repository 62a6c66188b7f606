/-
  The walk over the law RoundMakes. Condition: the slices can be read and hold integers of 64 bits.
-/
import Derived.Test.YtlcndccjlbahpaaRkotz
import Derived.Test.YtlcndccjlbahpaaRdev
namespace Go.Proofs.Ytlcndccjlbahpaa
set_option linter.unusedVariables false
open Go.RowKit

theorem RL.nil (w : World) : RL w (.slice none 0 0) [] := ⟨none, 0, rfl, by decide, fun h => by simp at h⟩
def ciA (n : Int) : List (List Int) := if tmB n = true then ciL n.toNat else []
def ciE (n : Int) : Int := if tmB n = true then 0 else 1
theorem ci_short {n : Nat} (h : tmB n = true) : ∀ i, i < (ciL n).length → ((ciL n).getD i []).length ≤ 17592186044416 := by
  intro i hi
  obtain ⟨m', hm', _, _, _, _, h6, _⟩ := chk_zero (ci_ok h).1
  have e : n = m' := by omega
  subst e
  have := (rd_spec (h6 i hi)).1
  omega
theorem Circle_any (n : Int) (w : World) : Calls Try.prog 8 #[.int .i64 n] w fun e w' => (∃ u, e = .returned (.tuple #[u, .int .i64 (ciE n)]) ∧ RL w' u (ciA n)) ∧ Below w.heap.size w w' := by
  cases h : tmB n with
  | false =>
    rw [show ciE n = 1 by simp [ciE, h], show ciA n = [] by simp [ciA, h]]
    refine (Circle_bad n w h).mono ?_
    rintro e w1 ⟨rfl, rfl⟩
    exact ⟨⟨_, rfl, RL.nil _⟩, Below.refl _ _⟩
  | true =>
    rw [show ciE n = 0 by simp [ciE, h], show ciA n = ciL n.toNat by simp [ciA, h]]
    obtain ⟨m, rfl, h2, h16, hev⟩ := tm_of h
    refine (Circle_ok m w h).mono ?_
    rintro e w1 ⟨⟨u, rfl, hu⟩, hb⟩
    exact ⟨⟨_, rfl, hu.rl (by rw [(ci_ok h).2.1]; omega) (ci_short h)⟩, hb⟩
theorem CircleOf_any (n : Int) (hn : I64 n) (w : World) : Calls Try.prog 9 #[.int .i64 n] w fun e w' => (∃ u, e = .returned (.tuple #[u, .int .i64 (ciE n)]) ∧ RL w' u (ciA n)) ∧ Below w.heap.size w w' := by
  cases h : tmB n with
  | false =>
    rw [show ciE n = 1 by simp [ciE, h], show ciA n = [] by simp [ciA, h]]
    refine (CircleOf_bad n hn w h).mono ?_
    rintro e w1 ⟨rfl, rfl⟩
    exact ⟨⟨_, rfl, RL.nil _⟩, Below.refl _ _⟩
  | true =>
    rw [show ciE n = 0 by simp [ciE, h], show ciA n = ciL n.toNat by simp [ciA, h]]
    obtain ⟨m, rfl, h2, h16, hev⟩ := tm_of h
    refine (CircleOf_ok m w h).mono ?_
    rintro e w1 ⟨⟨u, rfl, hu⟩, hb⟩
    rw [← (ci_ok h).2.2.1] at hu
    exact ⟨⟨_, rfl, hu.rl (by rw [(ci_ok h).2.1]; omega) (ci_short h)⟩, hb⟩
theorem dv_len (v : Nat) (ll : List (List Int)) : (dvL v ll).length = v := arR_len _ _ _
theorem dv_short {v : Nat} (hv : v ≤ 64) (ll : List (List Int)) : ∀ i, i < (dvL v ll).length → ((dvL v ll).getD i []).length ≤ 17592186044416 := by
  intro i hi
  rw [dv_len] at hi
  rw [dvL, arR_getD _ _ _ _ hi]
  unfold arL
  rw [arL_len]
  simp [ar0]
  omega

set_option maxHeartbeats 1000000 in
set_option maxRecDepth 100000 in
theorem roundMakes_walk (w : World) (n : Int) (hn : I64 n) (v : Int) (hv : I64 v) (u : Value) (ll : List (List Int)) (hl : RL w u ll) (hb : ∀ l ∈ ll, ∀ x ∈ l, I64 x) :
    Calls Try.prog 3 #[.int .i64 n, .int .i64 v, u] w fun e w' => e = .returned (.bool true) ∧ Below w.heap.size w w' := by
  have HC := hid (Circle_any n w)
  have HCO := hid (fun w1 => CircleOf_any n hn w1)
  have HLI := hid (fun (x y : Value) (w1 : World) (h1 : RL w1 x (ciA n)) (h2 : RL w1 y (ciA n)) => lists_any x y (ciA n) (ciA n) w1 h1 h2)
  rw [show decide (ciA n = ciA n) = true by simp] at HLI
  have HSF := hid (fun w1 (h : Below w.heap.size w w1) => StarterFault_any v u ll w1 hv (hl.below h) hb)
  have HST := hid (fun w1 (h : Below w.heap.size w w1) => Starter_any v u ll w1 hv (hl.below h) hb)
  have hee : (ciE n != ciE n) = false := by simp
  have HB0 := hid (Below.refl w.heap.size w)
  by_cases hz : stE v ll = 0
  · obtain ⟨m, rfl, h3, h15, hmN, hp, _, _⟩ := st_zero hz
    have HSG := hid (fun w1 (h : Below w.heap.size w w1) => Strong_ok m u ll w1 (hl.below h) hb hz)
    have HSO := hid (fun w1 (h : Below w.heap.size w w1) => StrongOf_ok m u ll w1 (hl.below h) hz)
    have HDV := hid (fun w1 (h : Below w.heap.size w w1) => Develop_ok m u ll w1 (hl.below h) hb hz)
    have HRO := hid (fun w1 (h : Below w.heap.size w w1) => RoundsOf_ok m u ll w1 (hl.below h) hz)
    have HLD := hid (fun (x y : Value) (w1 : World) (h1 : RL w1 x (dvL m ll)) (h2 : RL w1 y (dvL m ll)) => lists_any x y (dvL m ll) (dvL m ll) w1 h1 h2)
    rw [show decide (dvL m ll = dvL m ll) = true by simp] at HLD
    have HDL : Hid ((dvL m ll).length ≤ 1000000000000) := hid (by rw [dv_len]; omega)
    have HDS := hid (dv_short (v := m) (by omega) ll)
    rw [hz] at HSF HST
    generalize sgB m (pz ll) ll.length = G at *
    generalize dvL m ll = DV at *
    generalize ciA n = CA at *
    generalize ciE n = CE at *
    have hgg : (G == G) = true := by simp
    clear hl hb hz hp hmN hn hv
    go_enter Try.func3, Try.ntmps3
    go_wp2_with fail
    refine HC.out.mono ?_
    rintro e w1 ⟨⟨x1, rfl, hx1⟩, hb1⟩
    have B1 := hid hb1
    have X1 := hid hx1
    clear hb1 hx1
    go_wp2_with fail
    refine (HCO.out w1).mono ?_
    rintro e w2 ⟨⟨x2, rfl, hx2⟩, hb2⟩
    have B2 := hid (B1.out.trans (hb2.mono B1.out.size))
    have HL := hid (HLI.out x1 x2 w2 (X1.out.below hb2) hx2)
    clear hb2 hx2 X1
    go_wp2_with fail
    refine HL.out.mono ?_
    rintro e w3 ⟨rfl, n3, rfl⟩
    have B3 := hid (below_drewN B2.out n3)
    go_wp2_with fail
    refine (HSF.out _ B3.out).mono ?_
    rintro e w4 ⟨rfl, hb4⟩
    have B4 := hid (B3.out.trans (hb4.mono B3.out.size))
    clear hb4
    go_wp2_with fail
    refine (HST.out _ B4.out).mono ?_
    rintro e w5 ⟨rfl, hb5⟩
    have B5 := hid (B4.out.trans (hb5.mono B4.out.size))
    clear hb5
    go_wp2_with fail
    refine (HSG.out _ B5.out).mono ?_
    rintro e w6 ⟨rfl, hb6⟩
    have B6 := hid (B5.out.trans (hb6.mono B5.out.size))
    clear hb6
    go_wp2_with fail
    refine (HDV.out _ B6.out).mono ?_
    rintro e w7 ⟨⟨x7, rfl, hx7⟩, hb7⟩
    have B7 := hid (B6.out.trans (hb7.mono B6.out.size))
    have X7 := hid hx7
    clear hb7 hx7
    go_wp2_with fail
    refine (HSO.out _ B7.out).mono ?_
    rintro e w8 ⟨rfl, hb8⟩
    have B8 := hid (B7.out.trans (hb8.mono B7.out.size))
    have X8 := hid (X7.out.below hb8)
    clear hb8
    go_wp2_with fail
    refine (HRO.out _ B8.out).mono ?_
    rintro e w9 ⟨⟨x9, rfl, hx9⟩, hb9⟩
    have B9 := hid (B8.out.trans (hb9.mono B8.out.size))
    have HL2 := hid (HLD.out x7 x9 w9 ((X8.out.below hb9).rl HDL.out HDS.out) (hx9.rl HDL.out HDS.out))
    clear hb9 hx9
    go_wp2_with fail
    refine HL2.out.mono ?_
    rintro e wA ⟨rfl, nA, rfl⟩
    have BA := hid (below_drewN B9.out nA)
    go_wp2
    go_ret
    exact ⟨rfl, BA.out⟩
  · have HSG := hid (fun w1 (h : Below w.heap.size w w1) => Strong_err v u ll w1 hv (hl.below h) hb hz)
    have HDV := hid (fun w1 (h : Below w.heap.size w w1) => Develop_err v u ll w1 hv (hl.below h) hb hz)
    have hq : (stE v ll != 0) = true := by simpa using hz
    have hq2 : (stE v ll != stE v ll) = false := by simp
    generalize stE v ll = E at *
    generalize ciA n = CA at *
    generalize ciE n = CE at *
    clear hl hb hz hn hv
    go_enter Try.func3, Try.ntmps3
    go_wp2_with fail
    refine HC.out.mono ?_
    rintro e w1 ⟨⟨x1, rfl, hx1⟩, hb1⟩
    have B1 := hid hb1
    have X1 := hid hx1
    clear hb1 hx1
    go_wp2_with fail
    refine (HCO.out w1).mono ?_
    rintro e w2 ⟨⟨x2, rfl, hx2⟩, hb2⟩
    have B2 := hid (B1.out.trans (hb2.mono B1.out.size))
    have HL := hid (HLI.out x1 x2 w2 (X1.out.below hb2) hx2)
    clear hb2 hx2 X1
    go_wp2_with fail
    refine HL.out.mono ?_
    rintro e w3 ⟨rfl, n3, rfl⟩
    have B3 := hid (below_drewN B2.out n3)
    go_wp2_with fail
    refine (HSF.out _ B3.out).mono ?_
    rintro e w4 ⟨rfl, hb4⟩
    have B4 := hid (B3.out.trans (hb4.mono B3.out.size))
    clear hb4
    go_wp2_with fail
    refine (HST.out _ B4.out).mono ?_
    rintro e w5 ⟨rfl, hb5⟩
    have B5 := hid (B4.out.trans (hb5.mono B4.out.size))
    clear hb5
    go_wp2_with fail
    refine (HSG.out _ B5.out).mono ?_
    rintro e w6 ⟨rfl, hb6⟩
    have B6 := hid (B5.out.trans (hb6.mono B5.out.size))
    clear hb6
    go_wp2_with fail
    refine (HDV.out _ B6.out).mono ?_
    rintro e w7 ⟨rfl, hb7⟩
    have B7 := hid (B6.out.trans (hb7.mono B6.out.size))
    clear hb7
    go_wp2
    go_ret
    exact ⟨rfl, B7.out⟩
end Go.Proofs.Ytlcndccjlbahpaa
