/-
  The walk over parterrelaw1.GroupBurnside. Conditions: the slices can be read; numbers of 64 bits.
-/
import Derived.Test.YtnbgnoimanpjnaaGlmade
import Derived.Test.YtnbgnoimanpjnaaGburn
namespace Go.Proofs.Ytnbgnoimanpjnaa
set_option linter.unusedVariables false
open Go.RowKit

set_option maxHeartbeats 1000000 in
theorem gburn_bad (w : World) (n : Int) (v : Value) (ll : List (List Int)) (hl : RL w v ll) (hE : grpE n ll ≠ 0) :
    Calls Try.prog 7 #[.int .i64 n, v] w fun e w' => e = .returned (.bool true) ∧ Below w.heap.size w w' := by
  have HM := hid (fun w1 => lmade_ok w1)
  have HO := hid (fun w1 (hb : Below w.heap.size w w1) => order_bad n v ll w1 (hl.below hb) hE)
  obtain ⟨a, c, N, rfl, hN, hc1, hc2⟩ := hl.open
  have hb : (grpE n ll != 0) = true := bne_iff_ne.2 hE
  clear hE hl hc2
  generalize grpE n ll = E at *
  go_enter Try.func7, Try.ntmps7
  go_wp2_with fail
  refine (HM.out _).mono ?_
  rintro e w1 ⟨rfl, hb1⟩
  have H1 := hid hb1
  clear hb1
  go_wp2_with fail
  refine (HO.out _ H1.out).mono ?_
  rintro e w2 ⟨rfl, hb2⟩
  have H2 := hid (H1.out.trans (hb2.mono H1.out.size))
  clear hb2
  go_wp2
  go_ret
  exact ⟨rfl, H2.out⟩

theorem sumN_step (g : Nat → Nat) (k : Nat) : sumN g (k + 1) = sumN g k + g k := by simp only [sumN]

set_option maxHeartbeats 4000000 in
set_option maxRecDepth 100000 in
theorem gburn_ok (w : World) (n : Nat) (v : Value) (ll : List (List Int)) (hl : RL w v ll) (hE : grpE (n : Int) ll = 0) :
    Calls Try.prog 7 #[.int .i64 n, v] w fun e w' => e = .returned (.bool true) ∧ Below w.heap.size w w' := by
  obtain ⟨n', hn', hG⟩ := gok_of hE
  obtain rfl : n = n' := by omega
  have hn7 := hG.n7
  have hlen := GL_len9 hG
  have hfb := fac7 n hn7
  have HM := hid (fun w1 => lmade_ok w1)
  have HO := hid (fun w1 (hb : Below w.heap.size w w1) => order_ok n v ll w1 (hl.below hb) hE)
  have HF := hid (fun w1 (hb : Below w.heap.size w w1) => Fixed_ok n v ll w1 (hl.below hb) hE)
  have HB := hid (fun w1 (hb : Below w.heap.size w w1) => Orbits_ok n v ll w1 (hl.below hb) hE)
  have hs1 := count_split (n + 1) (fun a => fixN a n) (GL n (msL n ll)) fun a _ => by have := fixN_le a n; omega
  have hs2 := weigh_sum (n + 1) (fun a => fixN a n) (GL n (msL n ll)) fun a _ => by have := fixN_le a n; omega
  rw [burnside hG.mv] at hs2
  have hol := orsL_len n (GL n (msL n ll)) n
  have HOL : Hid (((orsL n (GL n (msL n ll)) n).map intsL).length = (orsL n (GL n (msL n ll)) n).length) := hid (by simp)
  have HFG := hid (fun c (h : c < n + 1) => fixL_get (GL n (msL n ll)) (GL n (msL n ll)).length h)
  rw [List.take_length] at HFG
  have HFL := hid (fixL_len n (GL n (msL n ll)) (GL n (msL n ll)).length)
  have HCB : Hid (∀ c, ((GL n (msL n ll)).filter fun a => fixN a n == c).length ≤ 5040) := hid (fun c => by
    have := List.length_filter_le (fun a => fixN a n == c) (GL n (msL n ll))
    omega)
  have hb0 : (GL n (msL n ll)).length * (orsL n (GL n (msL n ll)) n).length ≤ 5040 * 7 := Nat.mul_le_mul (by omega) (by omega)
  obtain ⟨a, c, N, rfl, hN, hc1, hc2⟩ := hl.open
  clear hE hl hc2 hG hn'
  generalize fixL n (GL n (msL n ll)) (GL n (msL n ll)).length = FX at *
  generalize hFC : (fun c => ((GL n (msL n ll)).filter fun a => fixN a n == c).length) = FC at *
  have hFC' : ∀ c, ((GL n (msL n ll)).filter fun a => fixN a n == c).length = FC c := fun c => by rw [← hFC]
  simp only [hFC'] at hs2 HFG HCB
  clear hFC hFC'
  generalize hOO : (orsL n (GL n (msL n ll)) n).length = BO at *
  generalize ((orsL n (GL n (msL n ll)) n).map intsL) = OO at *
  clear hOO
  generalize (GL n (msL n ll)).length = O at *
  have HS1 := hid hs1
  have HS2 := hid hs2
  have HA0 : Hid (sumN FC 0 = 0) := hid rfl
  have HT0 : Hid (sumN (fun c => c * FC c) 0 = 0) := hid rfl
  have HAS := hid (sumN_step FC)
  have HTS := hid (sumN_step fun c => c * FC c)
  have HAB : Hid (∀ k, sumN FC k ≤ k * 5040) := hid (fun k => by
    induction k with
    | zero => exact Nat.le_refl _
    | succ k ih => have := HCB.out k; rw [HAS.out]; omega)
  have HTB : Hid (∀ k, k ≤ 8 → sumN (fun c => c * FC c) k ≤ k * 40320) := hid (fun k => by
    induction k with
    | zero => intro _; exact Nat.le_refl _
    | succ k ih =>
      intro hk
      have h1 := ih (by omega)
      have h2 : k * FC k ≤ 7 * 5040 := Nat.mul_le_mul (by omega) (HCB.out k)
      rw [HTS.out]
      show sumN (fun c => c * FC c) k + k * FC k ≤ _
      omega)
  have HMP : Hid (O * BO = O * BO) := hid rfl
  have hOB : ((O : Nat) : Int) * ((BO : Nat) : Int) = ((O * BO : Nat) : Int) := by simp
  clear hs1 hs2
  generalize hAS : sumN FC = SA at *
  generalize hTS : (sumN fun c => c * FC c) = ST at *
  clear hAS hTS
  generalize O * BO = OB at *
  go_enter Try.func7, Try.ntmps7
  go_wp2_with fail
  refine (HM.out _).mono ?_
  rintro e w1 ⟨rfl, hb1⟩
  have H1 := hid hb1
  clear hb1
  go_wp2_with fail
  refine (HO.out _ H1.out).mono ?_
  rintro e w2 ⟨rfl, hb2⟩
  have H2 := hid (H1.out.trans (hb2.mono H1.out.size))
  clear hb2
  go_wp2_with fail
  refine (HF.out _ H2.out).mono ?_
  rintro e w3 ⟨⟨r, rfl, hr⟩, hb3⟩
  obtain ⟨rg, rc, er, _, hrg⟩ := hr.form (by rw [HFL.out]; omega)
  rw [HFL.out] at er
  subst er
  have H3 := hid (And.intro (H2.out.trans (hb3.mono H2.out.size)) hr)
  clear hb3 hr
  go_wp2_with fail
  refine (HB.out _ H3.out.1).mono ?_
  rintro e w4 ⟨⟨q, rfl, hq⟩, hb4⟩
  obtain ⟨qa, qc, eq⟩ := hq.len
  rw [HOL.out] at eq
  subst eq
  have H4 := hid (And.intro (H3.out.1.trans (hb4.mono H3.out.1.size)) (H3.out.2.below hb4))
  clear hb4 hq
  have HCE : Hid (∀ c, c < n + 1 → w4.cell? ⟨rg, c, none⟩ = some (.int .i64 ((FC c : Nat) : Int))) := hid (fun c hc => by
    rw [H4.out.2.cell c (by rw [HFL.out]; exact hc), HFG.out c hc])
  go_wp2_with fail
  go_loopw [11, 12, 13] (fun v11 v12 v13 wr => ∃ k : Nat, v13 = .int .i64 k ∧ k ≤ n + 1 ∧ v11 = .int .i64 (SA k : Nat) ∧ v12 = .int .i64 (ST k : Nat) ∧ wr = w4) (fun _ _ v13 _ => n + 1 - (intOf v13).toNat)
  case atStart => exact ⟨0, rfl, Nat.zero_le _, by rw [HA0.out]; rfl, by rw [HT0.out]; rfl, rfl⟩
  case round =>
    obtain ⟨k, rfl, hk, rfl, rfl, hw⟩ := hrel
    subst hw
    have hab := HAB.out k
    have htb := HTB.out k (by omega)
    by_cases hkn : k < n + 1
    · have hki : (k : Int) < (n : Int) + 1 := by omega
      have hcell := HCE.out k hkn
      have hcb := HCB.out k
      have HA1 := hid (HAS.out k)
      have HT1 := hid (HTS.out k)
      have hm1 : ((k : Nat) : Int) * ((FC k : Nat) : Int) = ((k * FC k : Nat) : Int) := by simp
      have hm2 : k * FC k ≤ 7 * 5040 := Nat.mul_le_mul (by omega) hcb
      generalize k * FC k = P at *
      generalize FC k = fk at *
      have HA2 := hid (show SA (k + 1) = SA k + fk from HA1.out)
      have HT2 := hid (show ST (k + 1) = ST k + P from HT1.out)
      clear HA1 HT1
      go_wp2
      go_roundw
      case rel => exact ⟨k + 1, by go_num, by omega, by rw [HA2.out]; go_num, by rw [HT2.out]; go_num, trivial⟩
      case measure => simp [intOf] <;> omega
    · obtain rfl : k = n + 1 := by omega
      have hki : ¬ ((n + 1 : Nat) : Int) < (n : Int) + 1 := by omega
      rw [HS1.out, HS2.out]
      rw [HS1.out] at hab
      rw [HS2.out] at htb
      go_wp2
      go_ret
      exact ⟨rfl, H4.out.1⟩

theorem gburn_walk (w : World) (n : Int) (_hn : I64 n) (v : Value) (ll : List (List Int)) (hl : RL w v ll) (_hll : ∀ l ∈ ll, ∀ x ∈ l, I64 x) :
    Calls Try.prog 7 #[.int .i64 n, v] w fun e w' => e = .returned (.bool true) ∧ Below w.heap.size w w' := by
  by_cases hE : grpE n ll = 0
  · obtain ⟨n', rfl, hG⟩ := gok_of hE
    exact gburn_ok w n' v ll hl hE
  · exact gburn_bad w n v ll hl hE
end Go.Proofs.Ytnbgnoimanpjnaa
