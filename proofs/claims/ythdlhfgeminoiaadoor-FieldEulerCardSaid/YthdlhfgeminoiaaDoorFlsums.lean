/-
  The walk over parterrelaw1.FieldSums. Conditions: the numbers are of 64 bits; the primes are laid; the slice can be read.
-/
import Derived.Test.YthdlhfgeminoiaaDoorFAdd2
import Derived.Test.YthdlhfgeminoiaaDoorFfld
import Derived.Test.YthdlhfgeminoiaaDoorFx
namespace Go.Proofs.YthdlhfgeminoiaaDoor
set_option linter.unusedVariables false
open Go.RowKit

theorem ofF_dec (q : Nat) (x : Int) : ofF q x = false ↔ 0 ≤ x ∧ x < q := by
  unfold ofF
  rw [Bool.or_eq_false_iff, decide_eq_false_iff_not, decide_eq_false_iff_not]
  omega
theorem wi_two_no {p k x y : Int} {low : List Int} (h0 : faE p k low = 0) (h : ¬ (0 ≤ x ∧ x < ordF p k ∧ 0 ≤ y ∧ y < ordF p k)) : wiE p k low [x, y] = 1 := by
  rw [wiE, if_pos h0, if_pos]
  rw [List.any_eq_true]
  by_cases hx : ofF (ordF p k) x = true
  · exact ⟨x, by simp, hx⟩
  · refine ⟨y, by simp, ?_⟩
    cases hy : ofF (ordF p k) y with
    | true => rfl
    | false =>
      have h1 := (ofF_dec _ _).1 (by simpa using hx)
      have h2 := (ofF_dec _ _).1 hy
      exact absurd ⟨h1.1, h1.2, h2.1, h2.2⟩ h

theorem Fault_any (p k : Int) (u : Value) (low : List Int) (w : World) (ip : I64 p) (ik : I64 k) (hu : Sl w u low) (hi64 : ∀ x ∈ low, I64 x) :
    Calls Tryd.prog 14 #[fldV p k u] w fun e w' => e = .returned (.int .i64 (faE p k low)) ∧ Below w.heap.size w w' := by
  by_cases h : ordF p k = 0 ∨ low.length ≠ k.toNat
  · exact Fault_bad p k u low w ip ik hu h
  · have h0 : ordF p k ≠ 0 := fun e => h (.inl e)
    have h1 : low.length = k.toNat := Classical.byContradiction fun e => h (.inr e)
    obtain ⟨P, K, rfl, rfl, _⟩ := ord_pos h0
    exact Fault_ok P K u low w hu h0 (by simpa using h1) hi64
/-- What a law asks first. -/
theorem sum_cases (p k a b : Int) (low : List Int) : (faE p k low ≠ 0 ∧ wiE p k low [a, b] = faE p k low) ∨ (faE p k low = 0 ∧ wiE p k low [a, b] = 1 ∧ (ofF (ordF p k) a = false → ofF (ordF p k) b = true)) ∨ (∃ P K n X Y : Nat, p = (P : Int) ∧ k = (K : Int) ∧ low = nZ (dgL P n K) ∧ FOk P K n ∧ a = (X : Int) ∧ b = (Y : Int) ∧ X < P ^ K ∧ Y < P ^ K ∧ faE p k low = 0 ∧ wiE p k low [a, b] = 0 ∧ ofF (ordF p k) a = false ∧ ofF (ordF p k) b = false) := by
  by_cases h : faE p k low = 0
  · right
    by_cases h2 : ofF (ordF p k) a = false ∧ ofF (ordF p k) b = false
    · right
      obtain ⟨P, K, n, rfl, rfl, rfl, hF⟩ := fa_ok h
      have ha := (ofF_dec _ _).1 h2.1
      have hb := (ofF_dec _ _).1 h2.2
      rw [hF.ord] at ha hb
      obtain ⟨X, rfl⟩ := Int.eq_ofNat_of_zero_le ha.1
      obtain ⟨Y, rfl⟩ := Int.eq_ofNat_of_zero_le hb.1
      refine ⟨P, K, n, X, Y, rfl, rfl, rfl, hF, rfl, rfl, by omega, by omega, h, ?_, h2.1, h2.2⟩
      refine hF.wi fun x hx => ?_
      simp at hx
      rcases hx with rfl | rfl
      · exact ha
      · exact hb
    · left
      refine ⟨h, wi_two_no h fun hc => h2 ⟨(ofF_dec _ _).2 ⟨hc.1, hc.2.1⟩, (ofF_dec _ _).2 ⟨hc.2.2.1, hc.2.2.2⟩⟩, fun e => ?_⟩
      cases hb : ofF (ordF p k) b with
      | true => rfl
      | false => exact absurd ⟨e, hb⟩ h2
  · exact .inl ⟨h, wi_bad h⟩

set_option maxHeartbeats 4000000 in
set_option maxRecDepth 100000 in
theorem fieldSums_walk (w : World) (hp : Prs w) (p k : Int) (ip : I64 p) (ik : I64 k) (u : Value) (low : List Int) (hu : Sl w u low) (hi64 : ∀ x ∈ low, I64 x) (a : Int) (ia : I64 a) (b : Int) (ib : I64 b) :
    Calls Tryd.prog 4 #[fldV p k u, .int .i64 a, .int .i64 b] w fun e w' => e = .returned (.bool true) ∧ Below w.heap.size w w' := by
  obtain ⟨ax, cx, e1⟩ := hu.len
  subst e1
  have HW0 := hid (And.intro (Arr.new w 24 [.int .i64 p, .int .i64 k, .slice ax low.length cx]) ((Below.refl w.heap.size w).alloc (Nat.le_refl _) (.cells #[.int .i64 p, .int .i64 k, .slice ax low.length cx] 24)))
  have r0 := HW0.out.1.range
  have i3 : (Tryd.prog.info? 24).map (·.size) = some 3 := by kernel_rfl
  have HF := hid (fun w1 (hb : Below w.heap.size w w1) => Fault_any p k (.slice ax low.length cx) low w1 ip ik (hu.below hb) hi64)
  have HA := hid (fun w1 (hb : Below w.heap.size w w1) => Add_any p k a b (.slice ax low.length cx) low w1 ip ik ia ib (hp.below hb) (hu.below hb) hi64)
  have HM := hid (fun w1 (hb : Below w.heap.size w w1) => Mul_any p k a b (.slice ax low.length cx) low w1 ip ik ia ib (hp.below hb) (hu.below hb) hi64)
  have HI1 := hid (fun w1 (hb : Below w.heap.size w w1) => In_any p k a (.slice ax low.length cx) low w1 ip ik ia (hu.below hb))
  have HI2 := hid (fun w1 (hb : Below w.heap.size w w1) => In_any p k b (.slice ax low.length cx) low w1 ip ik ib (hu.below hb))
  unfold fldV at HF HA HM HI1 HI2
  rcases sum_cases p k a b low with ⟨h0, h1⟩ | ⟨h0, h1, h2⟩ | ⟨P, K, n, X, Y, hpe, hke, hle, hF, hae, hbe, hx, hy, h0, h1, h2, h3⟩
  · have hz : wiE p k low [a, b] ≠ 0 := by rw [h1]; exact h0
    rw [addR, if_neg hz, h1] at HA
    rw [mulR, if_neg hz, h1] at HM
    have hne : (faE p k low == 0) = false := beq_eq_false_iff_ne.2 h0
    have hne2 : (faE p k low != 0) = true := by simpa using h0
    generalize faE p k low = E at *
    clear hz hu hp hi64 h1 h0 HI1 HI2
    generalize low.length = N at *
    unfold fldV
    go_enter Tryd.func4, Tryd.ntmps4
    go_wp2_with (refine wpList_load_mid rfl 24 _ rfl w.heap.size 0 rfl [.int .i64 p, .int .i64 k, .slice ax N cx] _ r0 Tryd.underlying24 rfl i3 ?_)
    refine (HF.out _ HW0.out.2).mono ?_
    rintro e w1 ⟨rfl, hb1⟩
    have HW1 := hid (And.intro (HW0.out.1.below hb1) (HW0.out.2.trans (hb1.mono HW0.out.2.size)))
    have r1 := HW1.out.1.range
    clear hb1 r0 HW0 HF
    go_wp2_with (refine wpList_load_mid rfl 24 _ rfl w.heap.size 0 rfl [.int .i64 p, .int .i64 k, .slice ax N cx] _ r1 Tryd.underlying24 rfl i3 ?_)
    refine (HA.out _ HW1.out.2).mono ?_
    rintro e w2 ⟨rfl, hb2⟩
    have HW2 := hid (And.intro (HW1.out.1.below hb2) (HW1.out.2.trans (hb2.mono HW1.out.2.size)))
    have r2 := HW2.out.1.range
    clear hb2 r1 HW1 HA
    go_wp2_with (refine wpList_load_mid rfl 24 _ rfl w.heap.size 0 rfl [.int .i64 p, .int .i64 k, .slice ax N cx] _ r2 Tryd.underlying24 rfl i3 ?_)
    refine (HM.out _ HW2.out.2).mono ?_
    rintro e w3 ⟨rfl, hb3⟩
    have HW3 := hid (And.intro (HW2.out.1.below hb3) (HW2.out.2.trans (hb3.mono HW2.out.2.size)))
    have r3 := HW3.out.1.range
    clear hb3 r2 HW2 HM
    clear r3
    go_wp2
    go_ret
    exact ⟨rfl, HW3.out.2⟩
  · have hz : wiE p k low [a, b] ≠ 0 := by rw [h1]; decide
    rw [addR, if_neg hz, h1] at HA
    rw [mulR, if_neg hz, h1] at HM
    rw [h0] at HF
    clear hz hu hp hi64 h1 h0
    generalize low.length = N at *
    generalize ofF (ordF p k) a = A at *
    generalize ofF (ordF p k) b = B at *
    unfold fldV
    go_enter Tryd.func4, Tryd.ntmps4
    go_wp2_with (refine wpList_load_mid rfl 24 _ rfl w.heap.size 0 rfl [.int .i64 p, .int .i64 k, .slice ax N cx] _ r0 Tryd.underlying24 rfl i3 ?_)
    refine (HF.out _ HW0.out.2).mono ?_
    rintro e w1 ⟨rfl, hb1⟩
    have HW1 := hid (And.intro (HW0.out.1.below hb1) (HW0.out.2.trans (hb1.mono HW0.out.2.size)))
    have r1 := HW1.out.1.range
    clear hb1 r0 HW0 HF
    go_wp2_with (refine wpList_load_mid rfl 24 _ rfl w.heap.size 0 rfl [.int .i64 p, .int .i64 k, .slice ax N cx] _ r1 Tryd.underlying24 rfl i3 ?_)
    refine (HA.out _ HW1.out.2).mono ?_
    rintro e w2 ⟨rfl, hb2⟩
    have HW2 := hid (And.intro (HW1.out.1.below hb2) (HW1.out.2.trans (hb2.mono HW1.out.2.size)))
    have r2 := HW2.out.1.range
    clear hb2 r1 HW1 HA
    go_wp2_with (refine wpList_load_mid rfl 24 _ rfl w.heap.size 0 rfl [.int .i64 p, .int .i64 k, .slice ax N cx] _ r2 Tryd.underlying24 rfl i3 ?_)
    refine (HM.out _ HW2.out.2).mono ?_
    rintro e w3 ⟨rfl, hb3⟩
    have HW3 := hid (And.intro (HW2.out.1.below hb3) (HW2.out.2.trans (hb3.mono HW2.out.2.size)))
    have r3 := HW3.out.1.range
    clear hb3 r2 HW2 HM
    go_wp2_with (refine wpList_load_mid rfl 24 _ rfl w.heap.size 0 rfl [.int .i64 p, .int .i64 k, .slice ax N cx] _ r3 Tryd.underlying24 rfl i3 ?_)
    refine (HI1.out _ HW3.out.2).mono ?_
    rintro e w4 ⟨rfl, hb4⟩
    have HW4 := hid (And.intro (HW3.out.1.below hb4) (HW3.out.2.trans (hb4.mono HW3.out.2.size)))
    have r4 := HW4.out.1.range
    clear hb4 r3 HW3 HI1
    go_wp2_with (refine wpList_load_mid rfl 24 _ rfl w.heap.size 0 rfl [.int .i64 p, .int .i64 k, .slice ax N cx] _ r4 Tryd.underlying24 rfl i3 ?_)
    refine (HI2.out _ HW4.out.2).mono ?_
    rintro e w5 ⟨rfl, hb5⟩
    have HW5 := hid (And.intro (HW4.out.1.below hb5) (HW4.out.2.trans (hb5.mono HW4.out.2.size)))
    have r5 := HW5.out.1.range
    clear hb5 r4 HW4 HI2
    clear r5
    cases A
    · obtain rfl := h2 rfl
      go_wp2
      go_ret
      exact ⟨rfl, HW5.out.2⟩
    · cases B <;>
      · go_wp2
        go_ret
        exact ⟨rfl, HW5.out.2⟩
  · have HS := hid (fun w1 (hb : Below w.heap.size w w1) => Sum_ok P K X Y (.slice ax low.length cx) w1 ⟨_, _, _, rfl⟩ hF.p2 (by have := hF.p61; omega) hF.k1 hF.k6 hF.q64 (by have := hF.q64; omega) (by have := hF.q64; omega))
    have HT := hid (fun w1 (hb : Below w.heap.size w w1) => Times_ok P K X Y (.slice ax low.length cx) (dgL P n K) w1 (by rw [← hle]; exact hu.below hb) hF.p2 (by have := hF.p61; omega) hF.k1 hF.k6 hF.q64 (dgL_len _ _ _) (dgL_lt hF.p2 _) (by have := hF.q64; omega) (by have := hF.q64; omega))
    rw [addR, if_pos h1, hpe, hke, hae, hbe, Int.toNat_natCast, Int.toNat_natCast, Int.toNat_natCast, Int.toNat_natCast, ← hpe, ← hke, ← hae, ← hbe, h1] at HA
    rw [mulR, if_pos h1, hpe, hke, hae, hbe, Int.toNat_natCast, Int.toNat_natCast, Int.toNat_natCast, Int.toNat_natCast, hle, toN_of, ← hle, ← hpe, ← hke, ← hae, ← hbe, h1] at HM
    rw [h0] at HF
    rw [h2] at HI1
    rw [h3] at HI2
    unfold fldV at HS HT
    rw [← hpe, ← hke, ← hae, ← hbe, sum_add hF.k6] at HS
    rw [← hpe, ← hke, ← hae, ← hbe, hF.fx.2 X Y hx hy] at HT
    clear hu hp hi64 h0 h1 h2 h3
    generalize mulF P K (dgL P n K) X Y = M at *
    generalize addF P K X Y = S at *
    clear hF hx hy hpe hke hle hae hbe
    generalize low.length = N at *
    unfold fldV
    go_enter Tryd.func4, Tryd.ntmps4
    go_wp2_with (refine wpList_load_mid rfl 24 _ rfl w.heap.size 0 rfl [.int .i64 p, .int .i64 k, .slice ax N cx] _ r0 Tryd.underlying24 rfl i3 ?_)
    refine (HF.out _ HW0.out.2).mono ?_
    rintro e w1 ⟨rfl, hb1⟩
    have HW1 := hid (And.intro (HW0.out.1.below hb1) (HW0.out.2.trans (hb1.mono HW0.out.2.size)))
    have r1 := HW1.out.1.range
    clear hb1 r0 HW0 HF
    go_wp2_with (refine wpList_load_mid rfl 24 _ rfl w.heap.size 0 rfl [.int .i64 p, .int .i64 k, .slice ax N cx] _ r1 Tryd.underlying24 rfl i3 ?_)
    refine (HA.out _ HW1.out.2).mono ?_
    rintro e w2 ⟨rfl, hb2⟩
    have HW2 := hid (And.intro (HW1.out.1.below hb2) (HW1.out.2.trans (hb2.mono HW1.out.2.size)))
    have r2 := HW2.out.1.range
    clear hb2 r1 HW1 HA
    go_wp2_with (refine wpList_load_mid rfl 24 _ rfl w.heap.size 0 rfl [.int .i64 p, .int .i64 k, .slice ax N cx] _ r2 Tryd.underlying24 rfl i3 ?_)
    refine (HM.out _ HW2.out.2).mono ?_
    rintro e w3 ⟨rfl, hb3⟩
    have HW3 := hid (And.intro (HW2.out.1.below hb3) (HW2.out.2.trans (hb3.mono HW2.out.2.size)))
    have r3 := HW3.out.1.range
    clear hb3 r2 HW2 HM
    go_wp2_with (refine wpList_load_mid rfl 24 _ rfl w.heap.size 0 rfl [.int .i64 p, .int .i64 k, .slice ax N cx] _ r3 Tryd.underlying24 rfl i3 ?_)
    refine (HI1.out _ HW3.out.2).mono ?_
    rintro e w4 ⟨rfl, hb4⟩
    have HW4 := hid (And.intro (HW3.out.1.below hb4) (HW3.out.2.trans (hb4.mono HW3.out.2.size)))
    have r4 := HW4.out.1.range
    clear hb4 r3 HW3 HI1
    go_wp2_with (refine wpList_load_mid rfl 24 _ rfl w.heap.size 0 rfl [.int .i64 p, .int .i64 k, .slice ax N cx] _ r4 Tryd.underlying24 rfl i3 ?_)
    refine (HI2.out _ HW4.out.2).mono ?_
    rintro e w5 ⟨rfl, hb5⟩
    have HW5 := hid (And.intro (HW4.out.1.below hb5) (HW4.out.2.trans (hb5.mono HW4.out.2.size)))
    have r5 := HW5.out.1.range
    clear hb5 r4 HW4 HI2
    go_wp2_with (refine wpList_load_mid rfl 24 _ rfl w.heap.size 0 rfl [.int .i64 p, .int .i64 k, .slice ax N cx] _ r5 Tryd.underlying24 rfl i3 ?_)
    refine (HS.out _ HW5.out.2).mono ?_
    rintro e w6 ⟨rfl, hb6⟩
    have HW6 := hid (And.intro (HW5.out.1.below hb6) (HW5.out.2.trans (hb6.mono HW5.out.2.size)))
    have r6 := HW6.out.1.range
    clear hb6 r5 HW5 HS
    go_wp2_with (refine wpList_load_mid rfl 24 _ rfl w.heap.size 0 rfl [.int .i64 p, .int .i64 k, .slice ax N cx] _ r6 Tryd.underlying24 rfl i3 ?_)
    refine (HT.out _ HW6.out.2).mono ?_
    rintro e w7 ⟨rfl, hb7⟩
    have HW7 := hid (And.intro (HW6.out.1.below hb7) (HW6.out.2.trans (hb7.mono HW6.out.2.size)))
    have r7 := HW7.out.1.range
    clear hb7 r6 HW6 HT
    clear r7
    go_wp2
    go_ret
    exact ⟨rfl, HW7.out.2⟩
end Go.Proofs.YthdlhfgeminoiaaDoor
