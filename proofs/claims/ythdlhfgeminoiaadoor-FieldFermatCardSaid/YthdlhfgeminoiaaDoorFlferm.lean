/-
  The walk over parterrelaw1.FieldFermat. Conditions: the numbers are of 64 bits; the primes are laid; the slice can be read.
-/
import Derived.Test.YthdlhfgeminoiaaDoorFrob
namespace Go.Proofs.YthdlhfgeminoiaaDoor
set_option linter.unusedVariables false
open Go.RowKit

set_option maxHeartbeats 4000000 in
set_option maxRecDepth 100000 in
theorem fermat_ok (w : World) (hp : Prs w) (p k : Int) {P K n X Y : Nat} (hpe : p = (P : Int)) (hke : k = (K : Int)) (hF : FOk P K n) (u : Value) (low : List Int) (hle : low = nZ (dgL P n K)) (hu : Sl w u low) (hx0 : X < P ^ K) (hy0 : Y < P ^ K) :
    Calls Tryd.prog 7 #[fldV p k u, .int .i64 X, .int .i64 Y] w fun e w' => e = .returned (.bool true) ∧ Below w.heap.size w w' := by
  obtain ⟨⟨E, L, hX⟩, _⟩ := hF.fx
  have hY := hF.fy
  obtain ⟨Q, hQ⟩ : ∃ Q : Nat, Q = P ^ K := ⟨_, rfl⟩
  have B := hF.fb
  have hq64 := hF.q64
  have hq2 := B.q2
  have hp2 := B.p2
  have hp64 := B.p64
  have hK1 := B.k1
  have hK6 := B.k6
  obtain ⟨ax, cx, e1⟩ := hu.len
  subst e1
  have HW0 := hid (And.intro (Arr.new w 24 [.int .i64 p, .int .i64 k, .slice ax low.length cx]) ((Below.refl w.heap.size w).alloc (Nat.le_refl _) (.cells #[.int .i64 p, .int .i64 k, .slice ax low.length cx] 24)))
  have r0 := HW0.out.1.range
  have i3 : (Tryd.prog.info? 24).map (·.size) = some 3 := by kernel_rfl
  have HFA := hid (fun w1 (hb : Below w.heap.size w w1) => fact_ok w1 (hp.below hb))
  obtain ⟨S, hS⟩ : ∃ s, addF P K X Y = s := ⟨_, rfl⟩
  obtain ⟨PX, hPX⟩ : ∃ s, mpF P K (dgL P n K) X P = s := ⟨_, rfl⟩
  obtain ⟨PY, hPY⟩ : ∃ s, mpF P K (dgL P n K) Y P = s := ⟨_, rfl⟩
  obtain ⟨PS, hPS⟩ : ∃ s, mpF P K (dgL P n K) S P = s := ⟨_, rfl⟩
  have lS : S < P ^ K := by rw [← hS]; exact addF_lt B.p2 B.k6 _ _
  have lX : PX < P ^ K := by rw [← hPX]; exact mp_lt B _ _
  have lY : PY < P ^ K := by rw [← hPY]; exact mp_lt B _ _
  have eF : mpF P K (dgL P n K) X (P ^ K) = X := hX.fermat B hx0
  have eA : addF P K PX PY = PS := by rw [← hPX, ← hPY, ← hY.frob2 B hx0 _ hy0, hS]; exact hPS
  have HA1 := hid (fun w1 (hb : Below w.heap.size w w1) => add_v (u := .slice ax low.length cx) (x := X) (y := Y) rfl hF (hp.below hb) (by rw [← hle]; exact hu.below hb) hx0 hy0 hS)
  have HP1 := hid (fun w1 (hb : Below w.heap.size w w1) => Pow_ok (u := .slice ax low.length cx) (a := X) (m := P ^ K) hF (hp.below hb) (by rw [← hle]; exact hu.below hb) hX hx0 (by omega))
  rw [eF] at HP1
  have HP2 := hid (fun w1 (hb : Below w.heap.size w w1) => Pow_ok (u := .slice ax low.length cx) (a := S) (m := P) hF (hp.below hb) (by rw [← hle]; exact hu.below hb) hX lS (by omega))
  rw [hPS] at HP2
  have HP3 := hid (fun w1 (hb : Below w.heap.size w w1) => Pow_ok (u := .slice ax low.length cx) (a := X) (m := P) hF (hp.below hb) (by rw [← hle]; exact hu.below hb) hX hx0 (by omega))
  rw [hPX] at HP3
  have HP4 := hid (fun w1 (hb : Below w.heap.size w w1) => Pow_ok (u := .slice ax low.length cx) (a := Y) (m := P) hF (hp.below hb) (by rw [← hle]; exact hu.below hb) hX hy0 (by omega))
  rw [hPY] at HP4
  have HA2 := hid (fun w1 (hb : Below w.heap.size w w1) => add_v (u := .slice ax low.length cx) (x := PX) (y := PY) rfl hF (hp.below hb) (by rw [← hle]; exact hu.below hb) lX lY eA)
  unfold fldV at HA1 HP1 HP2 HP3 HP4 HA2
  rw [← hpe, ← hke] at HA1 HP1 HP2 HP3 HP4 HA2
  obtain ⟨F, hF0⟩ : ∃ F : Nat → Nat, F = fun i => P ^ i := ⟨_, rfl⟩
  have HF0 : Hid (F 0 = 1) := hid (by rw [hF0]; rfl)
  have HFK : Hid (F K = P ^ K) := hid (by rw [hF0])
  have HKE : Hid (k = (K : Int)) := hid hke
  have HFS : Hid (∀ t, t < K → ((F t : Nat) : Int) * p = ((F (t + 1) : Nat) : Int) ∧ F t ≤ 64 ∧ F (t + 1) ≤ 64) := hid (fun t ht => by
    rw [hF0, hpe]
    have h1 : P ^ t ≤ P ^ K := Nat.pow_le_pow_right (by omega) (by omega)
    have h2 : P ^ (t + 1) ≤ P ^ K := Nat.pow_le_pow_right (by omega) (by omega)
    refine ⟨?_, show P ^ t ≤ 64 by omega, show P ^ (t + 1) ≤ 64 by omega⟩
    show ((P ^ t : Nat) : Int) * (P : Int) = ((P ^ (t + 1) : Nat) : Int)
    rw [Nat.pow_succ, Int.natCast_mul])
  clear hF0
  clear hu hp hF hX hY hS hPX hPY hPS lS lX lY eF eA hx0 hy0 hpe hke hle B
  rw [← hQ] at HP1 HFK
  have hQ64 : Q ≤ 64 := by omega
  clear hQ hq64 hq2 hp2 hp64
  generalize low.length = N at *
  unfold fldV
  go_enter Tryd.func7, Tryd.ntmps7
  go_wp2_with fail
  refine (HFA.out _ HW0.out.2).mono ?_
  rintro e w1 ⟨rfl, hb1⟩
  have HW1 := hid (And.intro (HW0.out.1.below hb1) (HW0.out.2.trans (hb1.mono HW0.out.2.size)))
  have r1 := HW1.out.1.range
  clear hb1 r0 HW0 HFA
  go_wp2_with (refine wpList_load_mid rfl 24 _ rfl w.heap.size 0 rfl [.int .i64 p, .int .i64 k, .slice ax N cx] _ r1 Tryd.underlying24 rfl i3 ?_)
  refine (HA1.out _ HW1.out.2).mono ?_
  rintro e w2 ⟨rfl, hb2⟩
  have HW2 := hid (And.intro (HW1.out.1.below hb2) (HW1.out.2.trans (hb2.mono HW1.out.2.size)))
  have r2 := HW2.out.1.range
  clear hb2 r1 HW1 HA1
  go_wp2_with fail
  clear r2
  go_loopw [10, 11] (fun x y wq => ∃ t : Nat, x = .int .i64 (F t : Nat) ∧ y = .int .i64 t ∧ t ≤ K ∧ Arr wq w.heap.size 24 [.int .i64 p, .int .i64 k, .slice ax N cx] ∧ Below w.heap.size w wq) (fun _ y _ => K - (intOf y).toNat)
  case atStart => exact ⟨0, by rw [HF0.out]; rfl, rfl, Nat.zero_le _, HW2.out.1, HW2.out.2⟩
  case round =>
    clear HW2
    obtain ⟨t, rfl, rfl, htl, hA, hB⟩ := hrel
    have k0 := hA.cell 0
    have k1 := hA.cell 1
    simp only [List.getElem?_cons_zero, List.getElem?_cons_succ] at k0 k1
    by_cases hte : t < K
    · have htk : (t : Int) < k := by rw [HKE.out]; omega
      have hft := HFS.out t hte
      have hmul : ((F t : Nat) : Int) * p = ((F (t + 1) : Nat) : Int) := hft.1
      have hfl := hft.2.1
      have hfl2 := hft.2.2
      have HX := hid (And.intro hA hB)
      clear hA hB hft
      generalize hf2 : F (t + 1) = f2 at *
      have HF2 := hid hf2
      clear hf2
      go_wp2
      go_roundw
      case rel => exact ⟨t + 1, by rw [HF2.out], by go_num, by omega, HX.out.1, HX.out.2⟩
      case measure => simp [intOf] <;> omega
    · obtain rfl : K = t := by omega
      have htk : ¬ (K : Int) < k := by rw [HKE.out]; omega
      have HW3 := hid (And.intro hA hB)
      have r3 := HW3.out.1.range
      clear hA hB
      rw [HFK.out]
      go_wp2_with (refine wpList_load_mid rfl 24 _ rfl w.heap.size 0 rfl [.int .i64 p, .int .i64 k, .slice ax N cx] _ r3 Tryd.underlying24 rfl i3 ?_)
      refine (HP1.out _ HW3.out.2).mono ?_
      rintro e w4 ⟨rfl, hb4⟩
      have HW4 := hid (And.intro (HW3.out.1.below hb4) (HW3.out.2.trans (hb4.mono HW3.out.2.size)))
      have r4 := HW4.out.1.range
      clear hb4 r3 HW3 HP1
      clear k0 k1
      have k0 := HW4.out.1.cell 0
      simp only [List.getElem?_cons_zero] at k0
      go_wp2_with (refine wpList_load_mid rfl 24 _ rfl w.heap.size 0 rfl [.int .i64 p, .int .i64 k, .slice ax N cx] _ r4 Tryd.underlying24 rfl i3 ?_)
      refine (HP2.out _ HW4.out.2).mono ?_
      rintro e w5 ⟨rfl, hb5⟩
      have HW5 := hid (And.intro (HW4.out.1.below hb5) (HW4.out.2.trans (hb5.mono HW4.out.2.size)))
      have r5 := HW5.out.1.range
      clear hb5 r4 HW4 HP2
      clear k0
      have k0 := HW5.out.1.cell 0
      simp only [List.getElem?_cons_zero] at k0
      go_wp2_with (refine wpList_load_mid rfl 24 _ rfl w.heap.size 0 rfl [.int .i64 p, .int .i64 k, .slice ax N cx] _ r5 Tryd.underlying24 rfl i3 ?_)
      refine (HP3.out _ HW5.out.2).mono ?_
      rintro e w6 ⟨rfl, hb6⟩
      have HW6 := hid (And.intro (HW5.out.1.below hb6) (HW5.out.2.trans (hb6.mono HW5.out.2.size)))
      have r6 := HW6.out.1.range
      clear hb6 r5 HW5 HP3
      clear k0
      have k0 := HW6.out.1.cell 0
      simp only [List.getElem?_cons_zero] at k0
      go_wp2_with (refine wpList_load_mid rfl 24 _ rfl w.heap.size 0 rfl [.int .i64 p, .int .i64 k, .slice ax N cx] _ r6 Tryd.underlying24 rfl i3 ?_)
      refine (HP4.out _ HW6.out.2).mono ?_
      rintro e w7 ⟨rfl, hb7⟩
      have HW7 := hid (And.intro (HW6.out.1.below hb7) (HW6.out.2.trans (hb7.mono HW6.out.2.size)))
      have r7 := HW7.out.1.range
      clear hb7 r6 HW6 HP4
      clear k0
      go_wp2_with (refine wpList_load_mid rfl 24 _ rfl w.heap.size 0 rfl [.int .i64 p, .int .i64 k, .slice ax N cx] _ r7 Tryd.underlying24 rfl i3 ?_)
      refine (HA2.out _ HW7.out.2).mono ?_
      rintro e w8 ⟨rfl, hb8⟩
      have HW8 := hid (And.intro (HW7.out.1.below hb8) (HW7.out.2.trans (hb8.mono HW7.out.2.size)))
      have r8 := HW8.out.1.range
      clear hb8 r7 HW7 HA2
      clear r8
      go_wp2
      go_ret
      exact ⟨rfl, HW8.out.2⟩

set_option maxHeartbeats 4000000 in
set_option maxRecDepth 100000 in
theorem fieldFermat_walk (w : World) (hp : Prs w) (p k : Int) (ip : I64 p) (ik : I64 k) (u : Value) (low : List Int) (hu : Sl w u low) (hi64 : ∀ x ∈ low, I64 x) (a : Int) (ia : I64 a) (b : Int) (ib : I64 b) :
    Calls Tryd.prog 7 #[fldV p k u, .int .i64 a, .int .i64 b] w fun e w' => e = .returned (.bool true) ∧ Below w.heap.size w w' := by
  by_cases h1 : wiE p k low [a, b] = 0
  · obtain ⟨hf, hes⟩ := wi_ok h1
    obtain ⟨P, K, n, rfl, rfl, hle, hF⟩ := fa_ok hf
    have ha := hes a (by simp)
    have hb := hes b (by simp)
    rw [hF.ord] at ha hb
    obtain ⟨X, rfl⟩ := Int.eq_ofNat_of_zero_le ha.1
    obtain ⟨Y, rfl⟩ := Int.eq_ofNat_of_zero_le hb.1
    exact fermat_ok w hp P K rfl rfl hF u low hle hu (by omega) (by omega)
  · have hne : (wiE p k low [a, b] != 0) = true := by simpa using h1
    obtain ⟨ax, cx, e1⟩ := hu.len
    subst e1
    have HW0 := hid (And.intro (Arr.new w 24 [.int .i64 p, .int .i64 k, .slice ax low.length cx]) ((Below.refl w.heap.size w).alloc (Nat.le_refl _) (.cells #[.int .i64 p, .int .i64 k, .slice ax low.length cx] 24)))
    have r0 := HW0.out.1.range
    have i3 : (Tryd.prog.info? 24).map (·.size) = some 3 := by kernel_rfl
    have HFA := hid (fun w1 (hb : Below w.heap.size w w1) => fact_ok w1 (hp.below hb))
    have HA1 := hid (fun w1 (hb : Below w.heap.size w w1) => Add_any p k a b (.slice ax low.length cx) low w1 ip ik ia ib (hp.below hb) (hu.below hb) hi64)
    unfold fldV at HA1
    clear hu hp hi64 h1
    generalize wiE p k low [a, b] = e1 at *
    generalize addR p k low a b = s1 at *
    generalize low.length = N at *
    unfold fldV
    go_enter Tryd.func7, Tryd.ntmps7
    go_wp2_with fail
    refine (HFA.out _ HW0.out.2).mono ?_
    rintro e w1 ⟨rfl, hb1⟩
    have HW1 := hid (And.intro (HW0.out.1.below hb1) (HW0.out.2.trans (hb1.mono HW0.out.2.size)))
    have r1 := HW1.out.1.range
    clear hb1 r0 HW0 HFA
    go_wp2_with (refine wpList_load_mid rfl 24 _ rfl w.heap.size 0 rfl [.int .i64 p, .int .i64 k, .slice ax N cx] _ r1 Tryd.underlying24 rfl i3 ?_)
    refine (HA1.out _ HW1.out.2).mono ?_
    rintro e w2 ⟨rfl, hb2⟩
    have HW2 := hid (And.intro (HW1.out.1.below hb2) (HW1.out.2.trans (hb2.mono HW1.out.2.size)))
    have r2 := HW2.out.1.range
    clear hb2 r1 HW1 HA1
    clear r2
    go_wp2
    go_ret
    exact ⟨rfl, HW2.out.2⟩
end Go.Proofs.YthdlhfgeminoiaaDoor
