/-
  Circles are complete, and perfect where one less is a prime: plain; the walks over roundFact and the law RoundKotzig. Condition: the number is one of 64 bits.
-/
import Derived.Test.YtlcndccjlbahpaaRcirc
import Derived.Test.YtlcndccjlbahpaaPrime
namespace Go.Proofs.Ytlcndccjlbahpaa
set_option linter.unusedVariables false
open Go.RowKit

def ciB (n : Nat) : Bool := chkE n (ciL n) == 0 && ((ciL n).length == n - 1 && ((ciL n == cfA (n - 1) (n - 1)) && (pfB n (ciL n) || (!(primeB (n - 1)) && decide (2 < n)))))
theorem ci_all : ∀ h, h < 8 → ciB (2 * (h + 1)) = true := by decide +kernel
theorem ci_ok {n : Nat} (h : tmB n = true) : chkE n (ciL n) = 0 ∧ (ciL n).length = n - 1 ∧ ciL n = cfA (n - 1) (n - 1) ∧ (pfB n (ciL n) || (!(primeB (n - 1)) && decide (2 < n))) = true := by
  obtain ⟨m, hm, h2, h16, hev⟩ := tm_of h
  obtain rfl : n = m := by omega
  have := ci_all (n / 2 - 1) (by omega)
  rw [show 2 * (n / 2 - 1 + 1) = n by omega] at this
  simp only [ciB, Bool.and_eq_true, beq_iff_eq] at this
  exact this
theorem ci_i64 {n : Nat} (h : tmB n = true) : ∀ l ∈ ciL n, ∀ x ∈ l, I64 x := by
  obtain ⟨m, hm, h2, h16, hev⟩ := tm_of h
  obtain rfl : n = m := by omega
  have hz := (ci_ok h).1
  intro l hl x hx
  obtain ⟨i, hi, e⟩ := List.mem_iff_getElem.1 hl
  obtain ⟨m, hm, h2', _, _, _, h6, _⟩ := chk_zero hz
  have hnm : n = m := by omega
  subst hnm
  have h7 := h6 i hi
  rw [List.getD_eq_getElem?_getD, List.getElem?_eq_getElem hi, e] at h7
  have h8 := (rd_spec h7).2.1
  have h9 : offR n x = false := by
    cases hq : offR n x with
    | false => rfl
    | true => exact absurd (List.any_eq_true.2 ⟨x, hx, hq⟩) (by rw [Option.getD_some] at h8; rw [h8]; decide)
  rw [offR_false] at h9
  unfold I64
  omega

set_option maxHeartbeats 1000000 in
set_option maxRecDepth 100000 in
theorem roundFact_any (w : World) : Calls Try.prog 23 #[] w fun e w' => e = .returned (.bool true) ∧ Below w.heap.size w w' := by
  have h4 : tmB ((4 : Nat) : Int) = true := by decide
  have HC := hid (Circle_ok 4 w h4)
  have HCK := hid (fun (u : Value) (w1 : World) (h : RL w1 u (ciL 4)) => Check_any 4 u (ciL 4) w1 h (ci_i64 h4))
  rw [show chkE 4 (ciL 4) = 0 from (ci_ok h4).1] at HCK
  have HL : Hid ((ciL 4).length = 3) := hid (ci_ok h4).2.1
  have HIN : Hid (∀ i, i < 3 → ((ciL 4).getD i []).length ≤ 17592186044416) := hid (by decide)
  clear h4
  generalize ciL 4 = CL at *
  go_enter Try.func23, Try.ntmps23
  go_wp2_with fail
  refine HC.out.mono ?_
  rintro e w1 ⟨⟨u, rfl, hu⟩, hb⟩
  have hrl := hu.rl (by rw [HL.out]; decide) (by rw [HL.out]; exact HIN.out)
  obtain ⟨a, c, e⟩ := hu.len
  rw [HL.out] at e
  subst e
  have HCC := hid (HCK.out _ _ hrl)
  have HB := hid hb
  clear hb hu hrl
  go_wp2_with fail
  refine HCC.out.mono ?_
  rintro e w2 ⟨rfl, hb2⟩
  have HB2 := hid (HB.out.trans (hb2.mono HB.out.size))
  clear hb2
  go_wp2
  go_ret
  exact ⟨rfl, HB2.out⟩

set_option maxHeartbeats 1000000 in
set_option maxRecDepth 100000 in
theorem roundKotzig_walk (w : World) (n : Int) (hn : I64 n) :
    Calls Try.prog 5 #[.int .i64 n] w fun e w' => e = .returned (.bool true) ∧ Below w.heap.size w w' := by
  have HF := hid (roundFact_any w)
  cases ht : tmB n with
  | false =>
    have HC := hid (fun w1 => Circle_bad n w1 ht)
    clear ht
    go_enter Try.func5, Try.ntmps5
    go_wp2_with fail
    refine HF.out.mono ?_
    rintro e w1 ⟨rfl, hb1⟩
    have HB := hid hb1
    clear hb1
    go_wp2_with fail
    refine (HC.out w1).mono ?_
    rintro e w2 ⟨rfl, rfl⟩
    go_wp2
    go_ret
    exact ⟨rfl, HB.out⟩
  | true =>
    obtain ⟨m, rfl, h2, h16, hev⟩ := tm_of ht
    obtain ⟨k1, k2, k3, k4⟩ := ci_ok ht
    have HC := hid (fun w1 => Circle_ok m w1 ht)
    have HP := hid (fun (u : Value) (w1 : World) (h : RL w1 u (ciL m)) => Perfect_any m u (ciL m) w1 h (ci_i64 ht))
    have HIP := hid (fun w1 => prime_any ((m : Int) - 1) w1 (by unfold I64; omega))
    rw [show ((m : Int) - 1).toNat = m - 1 by omega] at HIP
    rw [k1, Int.toNat_natCast, show ((0 : Int) == 0) = true from rfl, Bool.true_and] at HP
    have HL := hid k2
    have HIN : Hid (∀ i, i < m - 1 → ((ciL m).getD i []).length ≤ 17592186044416) := hid (fun i hi => by
      obtain ⟨m', hm', _, _, _, _, h6, _⟩ := chk_zero k1
      have e : m = m' := by omega
      subst e
      have := (rd_spec (h6 i (by rw [k2]; exact hi))).1
      omega)
    have HK := hid k4
    clear ht k1 k2 k3 k4 hev
    generalize ciL m = CL at *
    generalize pfB m CL = P at *
    generalize primeB (m - 1) = Q at *
    have hdc : decide (2 < m) = decide ((2 : Int) < (m : Int)) := decide_eq_decide.2 (by omega)
    rw [hdc] at HK
    clear hdc
    go_enter Try.func5, Try.ntmps5
    go_wp2_with fail
    refine HF.out.mono ?_
    rintro e w1 ⟨rfl, hb1⟩
    have HB := hid hb1
    clear hb1
    go_wp2_with fail
    refine (HC.out w1).mono ?_
    rintro e w2 ⟨⟨u, rfl, hu⟩, hb2⟩
    have hrl := hu.rl (by rw [HL.out]; omega) (by rw [HL.out]; exact HIN.out)
    have HB2 := hid (HB.out.trans (hb2.mono HB.out.size))
    have HPP := hid (HP.out _ _ hrl)
    clear hb2 hu hrl
    go_wp2_with fail
    refine HPP.out.mono ?_
    rintro e w3 ⟨rfl, hb3⟩
    have HB3 := hid (HB2.out.trans (hb3.mono HB2.out.size))
    clear hb3
    go_wp2_with fail
    refine (HIP.out w3).mono ?_
    rintro e w4 ⟨rfl, rfl⟩
    cases P with
    | true =>
      go_wp2
      go_ret
      exact ⟨rfl, HB3.out⟩
    | false =>
      cases Q with
      | true => exact absurd HK.out (by simp)
      | false =>
        have hk : (2 : Int) < (m : Int) := by have := HK.out; simpa using this
        go_wp2
        go_ret
        exact ⟨rfl, HB3.out⟩
end Go.Proofs.Ytlcndccjlbahpaa
