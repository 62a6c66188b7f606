/-
  The walk over parterrelaw1.FieldPowers. Conditions: the numbers are of 64 bits; the primes are laid; the slice can be read.
-/
import Derived.Test.YthdlhfgeminoiaaDoorFref
namespace Go.Proofs.YthdlhfgeminoiaaDoor
set_option linter.unusedVariables false
open Go.RowKit

/-- What a law of one element asks first. -/
theorem one_cases (p k a : Int) (low : List Int) : (faE p k low ≠ 0 ∧ wiE p k low [a] = faE p k low) ∨ (faE p k low = 0 ∧ wiE p k low [a] = 1 ∧ ofF (ordF p k) a = true) ∨ (∃ P K n X : Nat, p = (P : Int) ∧ k = (K : Int) ∧ low = nZ (dgL P n K) ∧ FOk P K n ∧ a = (X : Int) ∧ X < P ^ K ∧ faE p k low = 0 ∧ wiE p k low [a] = 0 ∧ ofF (ordF p k) a = false) := by
  by_cases h : faE p k low = 0
  · right
    by_cases h2 : ofF (ordF p k) a = false
    · right
      obtain ⟨P, K, n, rfl, rfl, rfl, hF⟩ := fa_ok h
      have ha := (ofF_dec _ _).1 h2
      rw [hF.ord] at ha
      obtain ⟨X, rfl⟩ := Int.eq_ofNat_of_zero_le ha.1
      refine ⟨P, K, n, X, rfl, rfl, rfl, hF, rfl, by omega, h, ?_, h2⟩
      refine hF.wi fun x hx => ?_
      simp at hx
      subst hx
      exact ha
    · left
      have h3 : ofF (ordF p k) a = true := by simpa using h2
      refine ⟨h, ?_, h3⟩
      rw [wiE, if_pos h, if_pos (List.any_eq_true.2 ⟨a, by simp, h3⟩)]
  · exact .inl ⟨h, wi_bad h⟩

set_option maxHeartbeats 4000000 in
set_option maxRecDepth 100000 in
theorem fieldPowers_walk (w : World) (hp : Prs w) (p k : Int) (ip : I64 p) (ik : I64 k) (u : Value) (low : List Int) (hu : Sl w u low) (hi64 : ∀ x ∈ low, I64 x) (a : Int) (ia : I64 a) (m : Int) (im : I64 m) :
    Calls Tryd.prog 10 #[fldV p k u, .int .i64 a, .int .i64 m] w fun e w' => e = .returned (.bool true) ∧ Below w.heap.size w w' := by
  obtain ⟨ax, cx, e1⟩ := hu.len
  subst e1
  have HW0 := hid (And.intro (Arr.new w 24 [.int .i64 p, .int .i64 k, .slice ax low.length cx]) ((Below.refl w.heap.size w).alloc (Nat.le_refl _) (.cells #[.int .i64 p, .int .i64 k, .slice ax low.length cx] 24)))
  have r0 := HW0.out.1.range
  have i3 : (Tryd.prog.info? 24).map (·.size) = some 3 := by kernel_rfl
  have HF := hid (fun w1 (hb : Below w.heap.size w w1) => Fault_any p k (.slice ax low.length cx) low w1 ip ik (hu.below hb) hi64)
  have HN := hid (fun w1 (hb : Below w.heap.size w w1) => In_any p k a (.slice ax low.length cx) low w1 ip ik ia (hu.below hb))
  unfold fldV at HF HN
  rcases one_cases p k a low with ⟨h0, h1⟩ | ⟨h0, h1, h2⟩ | ⟨P, K, n, X, hpe, hke, hle, hF, hae, hx, h0, h1, h2⟩
  · have hz : wiE p k low [a] ≠ 0 := by rw [h1]; exact h0
    have HI := hid (fun w1 (hb : Below w.heap.size w w1) => Inv_bad p k a (.slice ax low.length cx) low w1 ip ik ia (hp.below hb) (hu.below hb) hi64 hz)
    have HP := hid (fun w1 (hb : Below w.heap.size w w1) => Pow_bad p k a m (.slice ax low.length cx) low w1 ip ik ia (hp.below hb) (hu.below hb) hi64 hz)
    have HL := hid (fun w1 (hb : Below w.heap.size w w1) => Log_bad p k a (.slice ax low.length cx) low w1 ip ik ia (hp.below hb) (hu.below hb) hi64 hz)
    have HT := hid (fun w1 (hb : Below w.heap.size w w1) => Trace_bad p k a (.slice ax low.length cx) low w1 ip ik ia (hp.below hb) (hu.below hb) hi64 hz)
    rw [h1] at HI HP HL HT
    unfold fldV at HI HP HL HT
    have hne : (faE p k low == 0) = false := beq_eq_false_iff_ne.2 h0
    have hne2 : (faE p k low != 0) = true := by simpa using h0
    clear hz hu hp hi64 h1 h0 HN
    generalize faE p k low = E at *
    generalize low.length = N at *
    unfold fldV
    go_enter Tryd.func10, Tryd.ntmps10
    go_wp2_with (refine wpList_load_mid rfl 24 _ rfl w.heap.size 0 rfl [.int .i64 p, .int .i64 k, .slice ax N cx] _ r0 Tryd.underlying24 rfl i3 ?_)
    refine (HF.out _ HW0.out.2).mono ?_
    rintro e w1 ⟨rfl, hb1⟩
    have HW1 := hid (And.intro (HW0.out.1.below hb1) (HW0.out.2.trans (hb1.mono HW0.out.2.size)))
    have r1 := HW1.out.1.range
    clear hb1 r0 HW0 HF
    go_wp2_with (refine wpList_load_mid rfl 24 _ rfl w.heap.size 0 rfl [.int .i64 p, .int .i64 k, .slice ax N cx] _ r1 Tryd.underlying24 rfl i3 ?_)
    refine (HI.out _ HW1.out.2).mono ?_
    rintro e w2 ⟨rfl, hb2⟩
    have HW2 := hid (And.intro (HW1.out.1.below hb2) (HW1.out.2.trans (hb2.mono HW1.out.2.size)))
    have r2 := HW2.out.1.range
    clear hb2 r1 HW1 HI
    go_wp2_with (refine wpList_load_mid rfl 24 _ rfl w.heap.size 0 rfl [.int .i64 p, .int .i64 k, .slice ax N cx] _ r2 Tryd.underlying24 rfl i3 ?_)
    refine (HP.out _ HW2.out.2).mono ?_
    rintro e w3 ⟨rfl, hb3⟩
    have HW3 := hid (And.intro (HW2.out.1.below hb3) (HW2.out.2.trans (hb3.mono HW2.out.2.size)))
    have r3 := HW3.out.1.range
    clear hb3 r2 HW2 HP
    go_wp2_with (refine wpList_load_mid rfl 24 _ rfl w.heap.size 0 rfl [.int .i64 p, .int .i64 k, .slice ax N cx] _ r3 Tryd.underlying24 rfl i3 ?_)
    refine (HL.out _ HW3.out.2).mono ?_
    rintro e w4 ⟨rfl, hb4⟩
    have HW4 := hid (And.intro (HW3.out.1.below hb4) (HW3.out.2.trans (hb4.mono HW3.out.2.size)))
    have r4 := HW4.out.1.range
    clear hb4 r3 HW3 HL
    go_wp2_with (refine wpList_load_mid rfl 24 _ rfl w.heap.size 0 rfl [.int .i64 p, .int .i64 k, .slice ax N cx] _ r4 Tryd.underlying24 rfl i3 ?_)
    refine (HT.out _ HW4.out.2).mono ?_
    rintro e w5 ⟨rfl, hb5⟩
    have HW5 := hid (And.intro (HW4.out.1.below hb5) (HW4.out.2.trans (hb5.mono HW4.out.2.size)))
    have r5 := HW5.out.1.range
    clear hb5 r4 HW4 HT
    clear r5
    go_wp2
    go_ret
    exact ⟨rfl, HW5.out.2⟩
  · have hz : wiE p k low [a] ≠ 0 := by rw [h1]; decide
    have HI := hid (fun w1 (hb : Below w.heap.size w w1) => Inv_bad p k a (.slice ax low.length cx) low w1 ip ik ia (hp.below hb) (hu.below hb) hi64 hz)
    have HP := hid (fun w1 (hb : Below w.heap.size w w1) => Pow_bad p k a m (.slice ax low.length cx) low w1 ip ik ia (hp.below hb) (hu.below hb) hi64 hz)
    have HL := hid (fun w1 (hb : Below w.heap.size w w1) => Log_bad p k a (.slice ax low.length cx) low w1 ip ik ia (hp.below hb) (hu.below hb) hi64 hz)
    have HT := hid (fun w1 (hb : Below w.heap.size w w1) => Trace_bad p k a (.slice ax low.length cx) low w1 ip ik ia (hp.below hb) (hu.below hb) hi64 hz)
    rw [h1] at HI HP HL HT
    unfold fldV at HI HP HL HT
    rw [h0] at HF
    rw [h2] at HN
    clear hz hu hp hi64 h1 h0 h2
    generalize low.length = N at *
    unfold fldV
    go_enter Tryd.func10, Tryd.ntmps10
    go_wp2_with (refine wpList_load_mid rfl 24 _ rfl w.heap.size 0 rfl [.int .i64 p, .int .i64 k, .slice ax N cx] _ r0 Tryd.underlying24 rfl i3 ?_)
    refine (HF.out _ HW0.out.2).mono ?_
    rintro e w1 ⟨rfl, hb1⟩
    have HW1 := hid (And.intro (HW0.out.1.below hb1) (HW0.out.2.trans (hb1.mono HW0.out.2.size)))
    have r1 := HW1.out.1.range
    clear hb1 r0 HW0 HF
    go_wp2_with (refine wpList_load_mid rfl 24 _ rfl w.heap.size 0 rfl [.int .i64 p, .int .i64 k, .slice ax N cx] _ r1 Tryd.underlying24 rfl i3 ?_)
    refine (HI.out _ HW1.out.2).mono ?_
    rintro e w2 ⟨rfl, hb2⟩
    have HW2 := hid (And.intro (HW1.out.1.below hb2) (HW1.out.2.trans (hb2.mono HW1.out.2.size)))
    have r2 := HW2.out.1.range
    clear hb2 r1 HW1 HI
    go_wp2_with (refine wpList_load_mid rfl 24 _ rfl w.heap.size 0 rfl [.int .i64 p, .int .i64 k, .slice ax N cx] _ r2 Tryd.underlying24 rfl i3 ?_)
    refine (HP.out _ HW2.out.2).mono ?_
    rintro e w3 ⟨rfl, hb3⟩
    have HW3 := hid (And.intro (HW2.out.1.below hb3) (HW2.out.2.trans (hb3.mono HW2.out.2.size)))
    have r3 := HW3.out.1.range
    clear hb3 r2 HW2 HP
    go_wp2_with (refine wpList_load_mid rfl 24 _ rfl w.heap.size 0 rfl [.int .i64 p, .int .i64 k, .slice ax N cx] _ r3 Tryd.underlying24 rfl i3 ?_)
    refine (HL.out _ HW3.out.2).mono ?_
    rintro e w4 ⟨rfl, hb4⟩
    have HW4 := hid (And.intro (HW3.out.1.below hb4) (HW3.out.2.trans (hb4.mono HW3.out.2.size)))
    have r4 := HW4.out.1.range
    clear hb4 r3 HW3 HL
    go_wp2_with (refine wpList_load_mid rfl 24 _ rfl w.heap.size 0 rfl [.int .i64 p, .int .i64 k, .slice ax N cx] _ r4 Tryd.underlying24 rfl i3 ?_)
    refine (HT.out _ HW4.out.2).mono ?_
    rintro e w5 ⟨rfl, hb5⟩
    have HW5 := hid (And.intro (HW4.out.1.below hb5) (HW4.out.2.trans (hb5.mono HW4.out.2.size)))
    have r5 := HW5.out.1.range
    clear hb5 r4 HW4 HT
    go_wp2_with (refine wpList_load_mid rfl 24 _ rfl w.heap.size 0 rfl [.int .i64 p, .int .i64 k, .slice ax N cx] _ r5 Tryd.underlying24 rfl i3 ?_)
    refine (HN.out _ HW5.out.2).mono ?_
    rintro e w6 ⟨rfl, hb6⟩
    have HW6 := hid (And.intro (HW5.out.1.below hb6) (HW5.out.2.trans (hb6.mono HW5.out.2.size)))
    have r6 := HW6.out.1.range
    clear hb6 r5 HW5 HN
    clear r6
    go_wp2
    go_ret
    exact ⟨rfl, HW6.out.2⟩
  · obtain ⟨⟨E, L, hX⟩, _⟩ := hF.fx
    obtain ⟨o, r, lg, hR⟩ := hX.fr hF.fb
    have HT := hid (fun w1 (hb : Below w.heap.size w w1) => Trace_ok (u := .slice ax low.length cx) hF (hp.below hb) (by rw [← hle]; exact hu.below hb) hX hx)
    have HTr := hid (fun w1 (hb : Below w.heap.size w w1) => TraceOf_ok (u := .slice ax low.length cx) hF (by rw [← hle]; exact hu.below hb) hX hx)
    rw [h0] at HF
    rw [h2] at HN
    unfold fldV at HT HTr
    have hPN : m < 0 ∨ ∃ M : Nat, m = (M : Int) ∧ M ≤ 9223372036854775807 := by
      rcases Int.lt_or_le m 0 with h | h
      · exact .inl h
      · obtain ⟨M, rfl⟩ := Int.eq_ofNat_of_zero_le h
        exact .inr ⟨M, rfl, by unfold I64 at im; omega⟩
    have hA0 : X = 0 ∨ 1 ≤ X := by omega
    rcases hPN with hm | ⟨M, hme, hM⟩ <;> rcases hA0 with hA | hA
    · have HP := hid (fun w1 (hb : Below w.heap.size w w1) => Pow_neg (u := .slice ax low.length cx) hF (hp.below hb) (by rw [← hle]; exact hu.below hb) hX hx hm)
      have HI := hid (fun w1 (hb : Below w.heap.size w w1) => Inv_zero (u := .slice ax low.length cx) hF (hp.below hb) (by rw [← hle]; exact hu.below hb) hX hx hA)
      have HL := hid (fun w1 (hb : Below w.heap.size w w1) => Log_zero (u := .slice ax low.length cx) hF (hp.below hb) (by rw [← hle]; exact hu.below hb) hX hx hA)
      have haz : (a == 0) = true := by rw [beq_iff_eq, hae, hA]; rfl
      unfold fldV at HP HI HL
      rw [← hpe, ← hke, ← hae] at HT HTr HP HI HL
      clear hu hp hi64 h0 h1 h2 hX hR
      generalize trS P K (dgL P n K) X K = Rt at *
      clear hF hx hA hpe hke hle hae
      have haz2 : a = 0 := by simpa using haz
      generalize low.length = N at *
      subst haz2
      unfold fldV
      go_enter Tryd.func10, Tryd.ntmps10
      go_wp2_with (refine wpList_load_mid rfl 24 _ rfl w.heap.size 0 rfl [.int .i64 p, .int .i64 k, .slice ax N cx] _ r0 Tryd.underlying24 rfl i3 ?_)
      refine (HF.out _ HW0.out.2).mono ?_
      rintro e w1 ⟨rfl, hb1⟩
      have HW1 := hid (And.intro (HW0.out.1.below hb1) (HW0.out.2.trans (hb1.mono HW0.out.2.size)))
      have r1 := HW1.out.1.range
      clear hb1 r0 HW0 HF
      go_wp2_with (refine wpList_load_mid rfl 24 _ rfl w.heap.size 0 rfl [.int .i64 p, .int .i64 k, .slice ax N cx] _ r1 Tryd.underlying24 rfl i3 ?_)
      refine (HI.out _ HW1.out.2).mono ?_
      rintro e w2 ⟨rfl, hb2⟩
      have HW2 := hid (And.intro (HW1.out.1.below hb2) (HW1.out.2.trans (hb2.mono HW1.out.2.size)))
      have r2 := HW2.out.1.range
      clear hb2 r1 HW1 HI
      go_wp2_with (refine wpList_load_mid rfl 24 _ rfl w.heap.size 0 rfl [.int .i64 p, .int .i64 k, .slice ax N cx] _ r2 Tryd.underlying24 rfl i3 ?_)
      refine (HP.out _ HW2.out.2).mono ?_
      rintro e w3 ⟨rfl, hb3⟩
      have HW3 := hid (And.intro (HW2.out.1.below hb3) (HW2.out.2.trans (hb3.mono HW2.out.2.size)))
      have r3 := HW3.out.1.range
      clear hb3 r2 HW2 HP
      go_wp2_with (refine wpList_load_mid rfl 24 _ rfl w.heap.size 0 rfl [.int .i64 p, .int .i64 k, .slice ax N cx] _ r3 Tryd.underlying24 rfl i3 ?_)
      refine (HL.out _ HW3.out.2).mono ?_
      rintro e w4 ⟨rfl, hb4⟩
      have HW4 := hid (And.intro (HW3.out.1.below hb4) (HW3.out.2.trans (hb4.mono HW3.out.2.size)))
      have r4 := HW4.out.1.range
      clear hb4 r3 HW3 HL
      go_wp2_with (refine wpList_load_mid rfl 24 _ rfl w.heap.size 0 rfl [.int .i64 p, .int .i64 k, .slice ax N cx] _ r4 Tryd.underlying24 rfl i3 ?_)
      refine (HT.out _ HW4.out.2).mono ?_
      rintro e w5 ⟨rfl, hb5⟩
      have HW5 := hid (And.intro (HW4.out.1.below hb5) (HW4.out.2.trans (hb5.mono HW4.out.2.size)))
      have r5 := HW5.out.1.range
      clear hb5 r4 HW4 HT
      go_wp2_with (refine wpList_load_mid rfl 24 _ rfl w.heap.size 0 rfl [.int .i64 p, .int .i64 k, .slice ax N cx] _ r5 Tryd.underlying24 rfl i3 ?_)
      refine (HN.out _ HW5.out.2).mono ?_
      rintro e w6 ⟨rfl, hb6⟩
      have HW6 := hid (And.intro (HW5.out.1.below hb6) (HW5.out.2.trans (hb6.mono HW5.out.2.size)))
      have r6 := HW6.out.1.range
      clear hb6 r5 HW5 HN
      go_wp2_with (refine wpList_load_mid rfl 24 _ rfl w.heap.size 0 rfl [.int .i64 p, .int .i64 k, .slice ax N cx] _ r6 Tryd.underlying24 rfl i3 ?_)
      refine (HTr.out _ HW6.out.2).mono ?_
      rintro e w7 ⟨rfl, hb7⟩
      have HW7 := hid (And.intro (HW6.out.1.below hb7) (HW6.out.2.trans (hb7.mono HW6.out.2.size)))
      have r7 := HW7.out.1.range
      clear hb7 r6 HW6 HTr
      clear r7
      go_wp2
      go_ret
      exact ⟨rfl, HW7.out.2⟩
    · have HP := hid (fun w1 (hb : Below w.heap.size w w1) => Pow_neg (u := .slice ax low.length cx) hF (hp.below hb) (by rw [← hle]; exact hu.below hb) hX hx hm)
      have HI := hid (fun w1 (hb : Below w.heap.size w w1) => Inv_ok (u := .slice ax low.length cx) hF (hp.below hb) (by rw [← hle]; exact hu.below hb) hX hx hA)
      have HL := hid (fun w1 (hb : Below w.heap.size w w1) => Log_ok (u := .slice ax low.length cx) hF (hp.below hb) (by rw [← hle]; exact hu.below hb) hX hR hx hA)
      have HIv := hid (fun w1 (hb : Below w.heap.size w w1) => Inverse_ok (u := .slice ax low.length cx) hF (by rw [← hle]; exact hu.below hb) hX hx hA)
      have HLg := hid (fun w1 (hb : Below w.heap.size w w1) => LogOf_ok (u := .slice ax low.length cx) hF (by rw [← hle]; exact hu.below hb) hX hR hx hA)
      unfold fldV at HIv HLg
      rw [← hpe, ← hke, ← hae] at HIv HLg
      have haz : (a == 0) = false := by rw [beq_eq_false_iff_ne, hae]; omega
      unfold fldV at HP HI HL
      rw [← hpe, ← hke, ← hae] at HT HTr HP HI HL
      clear hu hp hi64 h0 h1 h2 hX hR
      generalize trS P K (dgL P n K) X K = Rt at *
      generalize mpF P K (dgL P n K) X (P ^ K - 2) = Ri at *
      generalize lg X = Rl at *
      clear hF hx hA hpe hke hle hae
      generalize low.length = N at *
      unfold fldV
      go_enter Tryd.func10, Tryd.ntmps10
      go_wp2_with (refine wpList_load_mid rfl 24 _ rfl w.heap.size 0 rfl [.int .i64 p, .int .i64 k, .slice ax N cx] _ r0 Tryd.underlying24 rfl i3 ?_)
      refine (HF.out _ HW0.out.2).mono ?_
      rintro e w1 ⟨rfl, hb1⟩
      have HW1 := hid (And.intro (HW0.out.1.below hb1) (HW0.out.2.trans (hb1.mono HW0.out.2.size)))
      have r1 := HW1.out.1.range
      clear hb1 r0 HW0 HF
      go_wp2_with (refine wpList_load_mid rfl 24 _ rfl w.heap.size 0 rfl [.int .i64 p, .int .i64 k, .slice ax N cx] _ r1 Tryd.underlying24 rfl i3 ?_)
      refine (HI.out _ HW1.out.2).mono ?_
      rintro e w2 ⟨rfl, hb2⟩
      have HW2 := hid (And.intro (HW1.out.1.below hb2) (HW1.out.2.trans (hb2.mono HW1.out.2.size)))
      have r2 := HW2.out.1.range
      clear hb2 r1 HW1 HI
      go_wp2_with (refine wpList_load_mid rfl 24 _ rfl w.heap.size 0 rfl [.int .i64 p, .int .i64 k, .slice ax N cx] _ r2 Tryd.underlying24 rfl i3 ?_)
      refine (HP.out _ HW2.out.2).mono ?_
      rintro e w3 ⟨rfl, hb3⟩
      have HW3 := hid (And.intro (HW2.out.1.below hb3) (HW2.out.2.trans (hb3.mono HW2.out.2.size)))
      have r3 := HW3.out.1.range
      clear hb3 r2 HW2 HP
      go_wp2_with (refine wpList_load_mid rfl 24 _ rfl w.heap.size 0 rfl [.int .i64 p, .int .i64 k, .slice ax N cx] _ r3 Tryd.underlying24 rfl i3 ?_)
      refine (HL.out _ HW3.out.2).mono ?_
      rintro e w4 ⟨rfl, hb4⟩
      have HW4 := hid (And.intro (HW3.out.1.below hb4) (HW3.out.2.trans (hb4.mono HW3.out.2.size)))
      have r4 := HW4.out.1.range
      clear hb4 r3 HW3 HL
      go_wp2_with (refine wpList_load_mid rfl 24 _ rfl w.heap.size 0 rfl [.int .i64 p, .int .i64 k, .slice ax N cx] _ r4 Tryd.underlying24 rfl i3 ?_)
      refine (HT.out _ HW4.out.2).mono ?_
      rintro e w5 ⟨rfl, hb5⟩
      have HW5 := hid (And.intro (HW4.out.1.below hb5) (HW4.out.2.trans (hb5.mono HW4.out.2.size)))
      have r5 := HW5.out.1.range
      clear hb5 r4 HW4 HT
      go_wp2_with (refine wpList_load_mid rfl 24 _ rfl w.heap.size 0 rfl [.int .i64 p, .int .i64 k, .slice ax N cx] _ r5 Tryd.underlying24 rfl i3 ?_)
      refine (HN.out _ HW5.out.2).mono ?_
      rintro e w6 ⟨rfl, hb6⟩
      have HW6 := hid (And.intro (HW5.out.1.below hb6) (HW5.out.2.trans (hb6.mono HW5.out.2.size)))
      have r6 := HW6.out.1.range
      clear hb6 r5 HW5 HN
      go_wp2_with (refine wpList_load_mid rfl 24 _ rfl w.heap.size 0 rfl [.int .i64 p, .int .i64 k, .slice ax N cx] _ r6 Tryd.underlying24 rfl i3 ?_)
      refine (HTr.out _ HW6.out.2).mono ?_
      rintro e w7 ⟨rfl, hb7⟩
      have HW7 := hid (And.intro (HW6.out.1.below hb7) (HW6.out.2.trans (hb7.mono HW6.out.2.size)))
      have r7 := HW7.out.1.range
      clear hb7 r6 HW6 HTr
      go_wp2_with (refine wpList_load_mid rfl 24 _ rfl w.heap.size 0 rfl [.int .i64 p, .int .i64 k, .slice ax N cx] _ r7 Tryd.underlying24 rfl i3 ?_)
      refine (HIv.out _ HW7.out.2).mono ?_
      rintro e w8 ⟨rfl, hb8⟩
      have HW8 := hid (And.intro (HW7.out.1.below hb8) (HW7.out.2.trans (hb8.mono HW7.out.2.size)))
      have r8 := HW8.out.1.range
      clear hb8 r7 HW7 HIv
      go_wp2_with (refine wpList_load_mid rfl 24 _ rfl w.heap.size 0 rfl [.int .i64 p, .int .i64 k, .slice ax N cx] _ r8 Tryd.underlying24 rfl i3 ?_)
      refine (HLg.out _ HW8.out.2).mono ?_
      rintro e w9 ⟨rfl, hb9⟩
      have HW9 := hid (And.intro (HW8.out.1.below hb9) (HW8.out.2.trans (hb9.mono HW8.out.2.size)))
      have r9 := HW9.out.1.range
      clear hb9 r8 HW8 HLg
      clear r9
      go_wp2
      go_ret
      exact ⟨rfl, HW9.out.2⟩
    · have HP := hid (fun w1 (hb : Below w.heap.size w w1) => Pow_ok (u := .slice ax low.length cx) hF (hp.below hb) (by rw [← hle]; exact hu.below hb) hX hx hM)
      have HPw := hid (fun w1 (hb : Below w.heap.size w w1) => Power_ok (u := .slice ax low.length cx) hF (by rw [← hle]; exact hu.below hb) hX hx hM)
      rw [← hme] at HP HPw
      unfold fldV at HPw
      rw [← hpe, ← hke, ← hae] at HPw
      have hm0 : ¬ m < 0 := by omega
      have HI := hid (fun w1 (hb : Below w.heap.size w w1) => Inv_zero (u := .slice ax low.length cx) hF (hp.below hb) (by rw [← hle]; exact hu.below hb) hX hx hA)
      have HL := hid (fun w1 (hb : Below w.heap.size w w1) => Log_zero (u := .slice ax low.length cx) hF (hp.below hb) (by rw [← hle]; exact hu.below hb) hX hx hA)
      have haz : (a == 0) = true := by rw [beq_iff_eq, hae, hA]; rfl
      unfold fldV at HP HI HL
      rw [← hpe, ← hke, ← hae] at HT HTr HP HI HL
      clear hu hp hi64 h0 h1 h2 hX hR
      generalize trS P K (dgL P n K) X K = Rt at *
      generalize mpF P K (dgL P n K) X M = Rp at *
      clear hF hx hA hpe hke hle hae hme hM
      have haz2 : a = 0 := by simpa using haz
      generalize low.length = N at *
      subst haz2
      unfold fldV
      go_enter Tryd.func10, Tryd.ntmps10
      go_wp2_with (refine wpList_load_mid rfl 24 _ rfl w.heap.size 0 rfl [.int .i64 p, .int .i64 k, .slice ax N cx] _ r0 Tryd.underlying24 rfl i3 ?_)
      refine (HF.out _ HW0.out.2).mono ?_
      rintro e w1 ⟨rfl, hb1⟩
      have HW1 := hid (And.intro (HW0.out.1.below hb1) (HW0.out.2.trans (hb1.mono HW0.out.2.size)))
      have r1 := HW1.out.1.range
      clear hb1 r0 HW0 HF
      go_wp2_with (refine wpList_load_mid rfl 24 _ rfl w.heap.size 0 rfl [.int .i64 p, .int .i64 k, .slice ax N cx] _ r1 Tryd.underlying24 rfl i3 ?_)
      refine (HI.out _ HW1.out.2).mono ?_
      rintro e w2 ⟨rfl, hb2⟩
      have HW2 := hid (And.intro (HW1.out.1.below hb2) (HW1.out.2.trans (hb2.mono HW1.out.2.size)))
      have r2 := HW2.out.1.range
      clear hb2 r1 HW1 HI
      go_wp2_with (refine wpList_load_mid rfl 24 _ rfl w.heap.size 0 rfl [.int .i64 p, .int .i64 k, .slice ax N cx] _ r2 Tryd.underlying24 rfl i3 ?_)
      refine (HP.out _ HW2.out.2).mono ?_
      rintro e w3 ⟨rfl, hb3⟩
      have HW3 := hid (And.intro (HW2.out.1.below hb3) (HW2.out.2.trans (hb3.mono HW2.out.2.size)))
      have r3 := HW3.out.1.range
      clear hb3 r2 HW2 HP
      go_wp2_with (refine wpList_load_mid rfl 24 _ rfl w.heap.size 0 rfl [.int .i64 p, .int .i64 k, .slice ax N cx] _ r3 Tryd.underlying24 rfl i3 ?_)
      refine (HL.out _ HW3.out.2).mono ?_
      rintro e w4 ⟨rfl, hb4⟩
      have HW4 := hid (And.intro (HW3.out.1.below hb4) (HW3.out.2.trans (hb4.mono HW3.out.2.size)))
      have r4 := HW4.out.1.range
      clear hb4 r3 HW3 HL
      go_wp2_with (refine wpList_load_mid rfl 24 _ rfl w.heap.size 0 rfl [.int .i64 p, .int .i64 k, .slice ax N cx] _ r4 Tryd.underlying24 rfl i3 ?_)
      refine (HT.out _ HW4.out.2).mono ?_
      rintro e w5 ⟨rfl, hb5⟩
      have HW5 := hid (And.intro (HW4.out.1.below hb5) (HW4.out.2.trans (hb5.mono HW4.out.2.size)))
      have r5 := HW5.out.1.range
      clear hb5 r4 HW4 HT
      go_wp2_with (refine wpList_load_mid rfl 24 _ rfl w.heap.size 0 rfl [.int .i64 p, .int .i64 k, .slice ax N cx] _ r5 Tryd.underlying24 rfl i3 ?_)
      refine (HN.out _ HW5.out.2).mono ?_
      rintro e w6 ⟨rfl, hb6⟩
      have HW6 := hid (And.intro (HW5.out.1.below hb6) (HW5.out.2.trans (hb6.mono HW5.out.2.size)))
      have r6 := HW6.out.1.range
      clear hb6 r5 HW5 HN
      go_wp2_with (refine wpList_load_mid rfl 24 _ rfl w.heap.size 0 rfl [.int .i64 p, .int .i64 k, .slice ax N cx] _ r6 Tryd.underlying24 rfl i3 ?_)
      refine (HTr.out _ HW6.out.2).mono ?_
      rintro e w7 ⟨rfl, hb7⟩
      have HW7 := hid (And.intro (HW6.out.1.below hb7) (HW6.out.2.trans (hb7.mono HW6.out.2.size)))
      have r7 := HW7.out.1.range
      clear hb7 r6 HW6 HTr
      go_wp2_with (refine wpList_load_mid rfl 24 _ rfl w.heap.size 0 rfl [.int .i64 p, .int .i64 k, .slice ax N cx] _ r7 Tryd.underlying24 rfl i3 ?_)
      refine (HPw.out _ HW7.out.2).mono ?_
      rintro e w8 ⟨rfl, hb8⟩
      have HW8 := hid (And.intro (HW7.out.1.below hb8) (HW7.out.2.trans (hb8.mono HW7.out.2.size)))
      have r8 := HW8.out.1.range
      clear hb8 r7 HW7 HPw
      clear r8
      go_wp2
      go_ret
      exact ⟨rfl, HW8.out.2⟩
    · have HP := hid (fun w1 (hb : Below w.heap.size w w1) => Pow_ok (u := .slice ax low.length cx) hF (hp.below hb) (by rw [← hle]; exact hu.below hb) hX hx hM)
      have HPw := hid (fun w1 (hb : Below w.heap.size w w1) => Power_ok (u := .slice ax low.length cx) hF (by rw [← hle]; exact hu.below hb) hX hx hM)
      rw [← hme] at HP HPw
      unfold fldV at HPw
      rw [← hpe, ← hke, ← hae] at HPw
      have hm0 : ¬ m < 0 := by omega
      have HI := hid (fun w1 (hb : Below w.heap.size w w1) => Inv_ok (u := .slice ax low.length cx) hF (hp.below hb) (by rw [← hle]; exact hu.below hb) hX hx hA)
      have HL := hid (fun w1 (hb : Below w.heap.size w w1) => Log_ok (u := .slice ax low.length cx) hF (hp.below hb) (by rw [← hle]; exact hu.below hb) hX hR hx hA)
      have HIv := hid (fun w1 (hb : Below w.heap.size w w1) => Inverse_ok (u := .slice ax low.length cx) hF (by rw [← hle]; exact hu.below hb) hX hx hA)
      have HLg := hid (fun w1 (hb : Below w.heap.size w w1) => LogOf_ok (u := .slice ax low.length cx) hF (by rw [← hle]; exact hu.below hb) hX hR hx hA)
      unfold fldV at HIv HLg
      rw [← hpe, ← hke, ← hae] at HIv HLg
      have haz : (a == 0) = false := by rw [beq_eq_false_iff_ne, hae]; omega
      unfold fldV at HP HI HL
      rw [← hpe, ← hke, ← hae] at HT HTr HP HI HL
      clear hu hp hi64 h0 h1 h2 hX hR
      generalize trS P K (dgL P n K) X K = Rt at *
      generalize mpF P K (dgL P n K) X M = Rp at *
      generalize mpF P K (dgL P n K) X (P ^ K - 2) = Ri at *
      generalize lg X = Rl at *
      clear hF hx hA hpe hke hle hae hme hM
      generalize low.length = N at *
      unfold fldV
      go_enter Tryd.func10, Tryd.ntmps10
      go_wp2_with (refine wpList_load_mid rfl 24 _ rfl w.heap.size 0 rfl [.int .i64 p, .int .i64 k, .slice ax N cx] _ r0 Tryd.underlying24 rfl i3 ?_)
      refine (HF.out _ HW0.out.2).mono ?_
      rintro e w1 ⟨rfl, hb1⟩
      have HW1 := hid (And.intro (HW0.out.1.below hb1) (HW0.out.2.trans (hb1.mono HW0.out.2.size)))
      have r1 := HW1.out.1.range
      clear hb1 r0 HW0 HF
      go_wp2_with (refine wpList_load_mid rfl 24 _ rfl w.heap.size 0 rfl [.int .i64 p, .int .i64 k, .slice ax N cx] _ r1 Tryd.underlying24 rfl i3 ?_)
      refine (HI.out _ HW1.out.2).mono ?_
      rintro e w2 ⟨rfl, hb2⟩
      have HW2 := hid (And.intro (HW1.out.1.below hb2) (HW1.out.2.trans (hb2.mono HW1.out.2.size)))
      have r2 := HW2.out.1.range
      clear hb2 r1 HW1 HI
      go_wp2_with (refine wpList_load_mid rfl 24 _ rfl w.heap.size 0 rfl [.int .i64 p, .int .i64 k, .slice ax N cx] _ r2 Tryd.underlying24 rfl i3 ?_)
      refine (HP.out _ HW2.out.2).mono ?_
      rintro e w3 ⟨rfl, hb3⟩
      have HW3 := hid (And.intro (HW2.out.1.below hb3) (HW2.out.2.trans (hb3.mono HW2.out.2.size)))
      have r3 := HW3.out.1.range
      clear hb3 r2 HW2 HP
      go_wp2_with (refine wpList_load_mid rfl 24 _ rfl w.heap.size 0 rfl [.int .i64 p, .int .i64 k, .slice ax N cx] _ r3 Tryd.underlying24 rfl i3 ?_)
      refine (HL.out _ HW3.out.2).mono ?_
      rintro e w4 ⟨rfl, hb4⟩
      have HW4 := hid (And.intro (HW3.out.1.below hb4) (HW3.out.2.trans (hb4.mono HW3.out.2.size)))
      have r4 := HW4.out.1.range
      clear hb4 r3 HW3 HL
      go_wp2_with (refine wpList_load_mid rfl 24 _ rfl w.heap.size 0 rfl [.int .i64 p, .int .i64 k, .slice ax N cx] _ r4 Tryd.underlying24 rfl i3 ?_)
      refine (HT.out _ HW4.out.2).mono ?_
      rintro e w5 ⟨rfl, hb5⟩
      have HW5 := hid (And.intro (HW4.out.1.below hb5) (HW4.out.2.trans (hb5.mono HW4.out.2.size)))
      have r5 := HW5.out.1.range
      clear hb5 r4 HW4 HT
      go_wp2_with (refine wpList_load_mid rfl 24 _ rfl w.heap.size 0 rfl [.int .i64 p, .int .i64 k, .slice ax N cx] _ r5 Tryd.underlying24 rfl i3 ?_)
      refine (HN.out _ HW5.out.2).mono ?_
      rintro e w6 ⟨rfl, hb6⟩
      have HW6 := hid (And.intro (HW5.out.1.below hb6) (HW5.out.2.trans (hb6.mono HW5.out.2.size)))
      have r6 := HW6.out.1.range
      clear hb6 r5 HW5 HN
      go_wp2_with (refine wpList_load_mid rfl 24 _ rfl w.heap.size 0 rfl [.int .i64 p, .int .i64 k, .slice ax N cx] _ r6 Tryd.underlying24 rfl i3 ?_)
      refine (HTr.out _ HW6.out.2).mono ?_
      rintro e w7 ⟨rfl, hb7⟩
      have HW7 := hid (And.intro (HW6.out.1.below hb7) (HW6.out.2.trans (hb7.mono HW6.out.2.size)))
      have r7 := HW7.out.1.range
      clear hb7 r6 HW6 HTr
      go_wp2_with (refine wpList_load_mid rfl 24 _ rfl w.heap.size 0 rfl [.int .i64 p, .int .i64 k, .slice ax N cx] _ r7 Tryd.underlying24 rfl i3 ?_)
      refine (HPw.out _ HW7.out.2).mono ?_
      rintro e w8 ⟨rfl, hb8⟩
      have HW8 := hid (And.intro (HW7.out.1.below hb8) (HW7.out.2.trans (hb8.mono HW7.out.2.size)))
      have r8 := HW8.out.1.range
      clear hb8 r7 HW7 HPw
      go_wp2_with (refine wpList_load_mid rfl 24 _ rfl w.heap.size 0 rfl [.int .i64 p, .int .i64 k, .slice ax N cx] _ r8 Tryd.underlying24 rfl i3 ?_)
      refine (HIv.out _ HW8.out.2).mono ?_
      rintro e w9 ⟨rfl, hb9⟩
      have HW9 := hid (And.intro (HW8.out.1.below hb9) (HW8.out.2.trans (hb9.mono HW8.out.2.size)))
      have r9 := HW9.out.1.range
      clear hb9 r8 HW8 HIv
      go_wp2_with (refine wpList_load_mid rfl 24 _ rfl w.heap.size 0 rfl [.int .i64 p, .int .i64 k, .slice ax N cx] _ r9 Tryd.underlying24 rfl i3 ?_)
      refine (HLg.out _ HW9.out.2).mono ?_
      rintro e w10 ⟨rfl, hb10⟩
      have HW10 := hid (And.intro (HW9.out.1.below hb10) (HW9.out.2.trans (hb10.mono HW9.out.2.size)))
      have r10 := HW10.out.1.range
      clear hb10 r9 HW9 HLg
      clear r10
      go_wp2
      go_ret
      exact ⟨rfl, HW10.out.2⟩
end Go.Proofs.YthdlhfgeminoiaaDoor
