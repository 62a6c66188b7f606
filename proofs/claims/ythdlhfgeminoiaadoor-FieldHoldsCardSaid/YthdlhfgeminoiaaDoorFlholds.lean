/-
  The walk over parterrelaw1.FieldHolds. Conditions: the numbers are of 64 bits; the primes are laid; the slice can be read.
-/
import Derived.Test.YthdlhfgeminoiaaDoorFfact
namespace Go.Proofs.YthdlhfgeminoiaaDoor
set_option linter.unusedVariables false
open Go.RowKit

set_option maxHeartbeats 4000000 in
set_option maxRecDepth 100000 in
theorem holds_ok (w : World) (hp : Prs w) (p k : Int) {P K n X Y Z : Nat} (hpe : p = (P : Int)) (hke : k = (K : Int)) (hF : FOk P K n) (u : Value) (low : List Int) (hle : low = nZ (dgL P n K)) (hu : Sl w u low) (hx0 : X < P ^ K) (hy0 : Y < P ^ K) (hz0 : Z < P ^ K) :
    Calls Tryd.prog 6 #[fldV p k u, .int .i64 X, .int .i64 Y, .int .i64 Z] w fun e w' => e = .returned (.bool true) ∧ Below w.heap.size w w' := by
  obtain ⟨⟨E, L, hX⟩, _⟩ := hF.fx
  obtain ⟨Q, hQ⟩ : ∃ Q : Nat, Q = P ^ K := ⟨_, rfl⟩
  have B := hF.fb
  have hq64 := hF.q64
  have hq2 := B.q2
  have hp2 := B.p2
  obtain ⟨ax, cx, e1⟩ := hu.len
  subst e1
  have HW0 := hid (And.intro (Arr.new w 24 [.int .i64 p, .int .i64 k, .slice ax low.length cx]) ((Below.refl w.heap.size w).alloc (Nat.le_refl _) (.cells #[.int .i64 p, .int .i64 k, .slice ax low.length cx] 24)))
  have r0 := HW0.out.1.range
  have i3 : (Tryd.prog.info? 24).map (·.size) = some 3 := by kernel_rfl
  have HFA := hid (fun w1 (hb : Below w.heap.size w w1) => fact_ok w1 (hp.below hb))
  obtain ⟨S1, hS1⟩ : ∃ s, addF P K X Y = s := ⟨_, rfl⟩
  obtain ⟨S2, hS2⟩ : ∃ s, addF P K Y Z = s := ⟨_, rfl⟩
  obtain ⟨S3, hS3⟩ : ∃ s, addF P K S1 Z = s := ⟨_, rfl⟩
  obtain ⟨M1, hM1⟩ : ∃ s, mulF P K (dgL P n K) X Y = s := ⟨_, rfl⟩
  obtain ⟨M2, hM2⟩ : ∃ s, mulF P K (dgL P n K) Y Z = s := ⟨_, rfl⟩
  obtain ⟨M3, hM3⟩ : ∃ s, mulF P K (dgL P n K) M1 Z = s := ⟨_, rfl⟩
  obtain ⟨M4, hM4⟩ : ∃ s, mulF P K (dgL P n K) X Z = s := ⟨_, rfl⟩
  obtain ⟨M5, hM5⟩ : ∃ s, mulF P K (dgL P n K) X S2 = s := ⟨_, rfl⟩
  obtain ⟨V, hV⟩ : ∃ s, mpF P K (dgL P n K) X (P ^ K - 2) = s := ⟨_, rfl⟩
  have lS1 : S1 < P ^ K := by rw [← hS1]; exact addF_lt B.p2 B.k6 _ _
  have lS2 : S2 < P ^ K := by rw [← hS2]; exact addF_lt B.p2 B.k6 _ _
  have lM1 : M1 < P ^ K := by rw [← hM1]; exact mulF_lt B.p2 B.k6 _ _ _
  have lM2 : M2 < P ^ K := by rw [← hM2]; exact mulF_lt B.p2 B.k6 _ _ _
  have lM4 : M4 < P ^ K := by rw [← hM4]; exact mulF_lt B.p2 B.k6 _ _ _
  have lV : V < P ^ K := by rw [← hV]; exact mp_lt B _ _
  have l1 : 1 < P ^ K := by omega
  have l0 : 0 < P ^ K := by omega
  have eA3 : addF P K Y X = S1 := by rw [addF_comm B.p2 B.k6 hy0 hx0]; exact hS1
  have eA5 : addF P K X S2 = S3 := by rw [← hS2, ← addF_assoc B.p2 B.k6 hx0 hy0 hz0, hS1]; exact hS3
  have eM2 : mulF P K (dgL P n K) Y X = M1 := by rw [hX.comm B hy0 hx0]; exact hM1
  have eM5 : mulF P K (dgL P n K) X M2 = M3 := by rw [← hM2, ← hX.assoc B hx0 hy0 hz0, hM1]; exact hM3
  have eA6 : addF P K M1 M4 = M5 := by rw [← hM1, ← hM4, ← mulF_add2 B.p2 B.k6 _ X hy0 hz0, hS2]; exact hM5
  have eM7 : mulF P K (dgL P n K) X 1 = X := hX.mul1 X hx0
  have eA7 : addF P K X 0 = X := addF_zero B.p2 B.k6 hx0
  have HA0 := hid (fun w1 (hb : Below w.heap.size w w1) => add_v (u := .slice ax low.length cx) (x := X) (y := Y) rfl hF (hp.below hb) (by rw [← hle]; exact hu.below hb) hx0 hy0 hS1)
  have HA1 := hid (fun w1 (hb : Below w.heap.size w w1) => add_v (u := .slice ax low.length cx) (x := Y) (y := Z) rfl hF (hp.below hb) (by rw [← hle]; exact hu.below hb) hy0 hz0 hS2)
  have HA2 := hid (fun w1 (hb : Below w.heap.size w w1) => add_v (u := .slice ax low.length cx) (x := Y) (y := X) rfl hF (hp.below hb) (by rw [← hle]; exact hu.below hb) hy0 hx0 eA3)
  have HA3 := hid (fun w1 (hb : Below w.heap.size w w1) => add_v (u := .slice ax low.length cx) (x := S1) (y := Z) rfl hF (hp.below hb) (by rw [← hle]; exact hu.below hb) lS1 hz0 hS3)
  have HA4 := hid (fun w1 (hb : Below w.heap.size w w1) => add_v (u := .slice ax low.length cx) (x := X) (y := S2) rfl hF (hp.below hb) (by rw [← hle]; exact hu.below hb) hx0 lS2 eA5)
  have HM5 := hid (fun w1 (hb : Below w.heap.size w w1) => mul_v (u := .slice ax low.length cx) (x := X) (y := Y) rfl hF (hp.below hb) (by rw [← hle]; exact hu.below hb) hx0 hy0 hM1)
  have HM6 := hid (fun w1 (hb : Below w.heap.size w w1) => mul_v (u := .slice ax low.length cx) (x := Y) (y := X) rfl hF (hp.below hb) (by rw [← hle]; exact hu.below hb) hy0 hx0 eM2)
  have HM7 := hid (fun w1 (hb : Below w.heap.size w w1) => mul_v (u := .slice ax low.length cx) (x := Y) (y := Z) rfl hF (hp.below hb) (by rw [← hle]; exact hu.below hb) hy0 hz0 hM2)
  have HM8 := hid (fun w1 (hb : Below w.heap.size w w1) => mul_v (u := .slice ax low.length cx) (x := M1) (y := Z) rfl hF (hp.below hb) (by rw [← hle]; exact hu.below hb) lM1 hz0 hM3)
  have HM9 := hid (fun w1 (hb : Below w.heap.size w w1) => mul_v (u := .slice ax low.length cx) (x := X) (y := M2) rfl hF (hp.below hb) (by rw [← hle]; exact hu.below hb) hx0 lM2 eM5)
  have HM10 := hid (fun w1 (hb : Below w.heap.size w w1) => mul_v (u := .slice ax low.length cx) (x := X) (y := Z) rfl hF (hp.below hb) (by rw [← hle]; exact hu.below hb) hx0 hz0 hM4)
  have HM11 := hid (fun w1 (hb : Below w.heap.size w w1) => mul_v (u := .slice ax low.length cx) (x := X) (y := S2) rfl hF (hp.below hb) (by rw [← hle]; exact hu.below hb) hx0 lS2 hM5)
  have HA12 := hid (fun w1 (hb : Below w.heap.size w w1) => add_v (u := .slice ax low.length cx) (x := M1) (y := M4) rfl hF (hp.below hb) (by rw [← hle]; exact hu.below hb) lM1 lM4 eA6)
  have HM13 := hid (fun w1 (hb : Below w.heap.size w w1) => mul_v (u := .slice ax low.length cx) (x := X) (y := 1) rfl hF (hp.below hb) (by rw [← hle]; exact hu.below hb) hx0 l1 eM7)
  have HA14 := hid (fun w1 (hb : Below w.heap.size w w1) => add_v (u := .slice ax low.length cx) (x := X) (y := 0) rfl hF (hp.below hb) (by rw [← hle]; exact hu.below hb) hx0 l0 eA7)
  unfold fldV at HA0 HA1 HA2 HA3 HA4 HM5 HM6 HM7 HM8 HM9 HM10 HM11 HA12 HM13 HA14
  rw [← hpe, ← hke] at HA0 HA1 HA2 HA3 HA4 HM5 HM6 HM7 HM8 HM9 HM10 HM11 HA12 HM13 HA14
  rw [show ((1 : Nat) : Int) = 1 from rfl] at HM13
  rw [show ((0 : Nat) : Int) = 0 from rfl] at HA14
  by_cases h0 : X = 0
  · have haz : ((X : Int) == 0) = true := by rw [beq_iff_eq, h0]; rfl
    have haz2 : (X : Int) = 0 := by rw [h0]; rfl
    rw [haz2] at HA0 HA2 HA4 HM5 HM6 HM9 HM10 HM11 HM13 HA14 ⊢
    clear hu hp hF hX hS1 hS2 hS3 hM1 hM2 hM3 hM4 hM5 hV lS1 lS2 lM1 lM2 lM4 lV eA3 eA5 eM2 eM5 eA6 eM7 eA7 hx0 hy0 hz0 hpe hke hle l1 l0 hq64 hq2 hp2 B hQ haz haz2 h0
    generalize low.length = N at *
    unfold fldV
    go_enter Tryd.func6, Tryd.ntmps6
    go_wp2_with fail
    refine (HFA.out _ HW0.out.2).mono ?_
    rintro e w1 ⟨rfl, hb1⟩
    have HW1 := hid (And.intro (HW0.out.1.below hb1) (HW0.out.2.trans (hb1.mono HW0.out.2.size)))
    have r1 := HW1.out.1.range
    clear hb1 r0 HW0 HFA
    go_wp2_with (refine wpList_load_mid rfl 24 _ rfl w.heap.size 0 rfl [.int .i64 p, .int .i64 k, .slice ax N cx] _ r1 Tryd.underlying24 rfl i3 ?_)
    refine (HA0.out _ HW1.out.2).mono ?_
    rintro e w2 ⟨rfl, hb2⟩
    have HW2 := hid (And.intro (HW1.out.1.below hb2) (HW1.out.2.trans (hb2.mono HW1.out.2.size)))
    have r2 := HW2.out.1.range
    clear hb2 r1 HW1 HA0
    go_wp2_with (refine wpList_load_mid rfl 24 _ rfl w.heap.size 0 rfl [.int .i64 p, .int .i64 k, .slice ax N cx] _ r2 Tryd.underlying24 rfl i3 ?_)
    refine (HA1.out _ HW2.out.2).mono ?_
    rintro e w3 ⟨rfl, hb3⟩
    have HW3 := hid (And.intro (HW2.out.1.below hb3) (HW2.out.2.trans (hb3.mono HW2.out.2.size)))
    have r3 := HW3.out.1.range
    clear hb3 r2 HW2 HA1
    go_wp2_with (refine wpList_load_mid rfl 24 _ rfl w.heap.size 0 rfl [.int .i64 p, .int .i64 k, .slice ax N cx] _ r3 Tryd.underlying24 rfl i3 ?_)
    refine (HA2.out _ HW3.out.2).mono ?_
    rintro e w4 ⟨rfl, hb4⟩
    have HW4 := hid (And.intro (HW3.out.1.below hb4) (HW3.out.2.trans (hb4.mono HW3.out.2.size)))
    have r4 := HW4.out.1.range
    clear hb4 r3 HW3 HA2
    go_wp2_with (refine wpList_load_mid rfl 24 _ rfl w.heap.size 0 rfl [.int .i64 p, .int .i64 k, .slice ax N cx] _ r4 Tryd.underlying24 rfl i3 ?_)
    refine (HA3.out _ HW4.out.2).mono ?_
    rintro e w5 ⟨rfl, hb5⟩
    have HW5 := hid (And.intro (HW4.out.1.below hb5) (HW4.out.2.trans (hb5.mono HW4.out.2.size)))
    have r5 := HW5.out.1.range
    clear hb5 r4 HW4 HA3
    go_wp2_with (refine wpList_load_mid rfl 24 _ rfl w.heap.size 0 rfl [.int .i64 p, .int .i64 k, .slice ax N cx] _ r5 Tryd.underlying24 rfl i3 ?_)
    refine (HA4.out _ HW5.out.2).mono ?_
    rintro e w6 ⟨rfl, hb6⟩
    have HW6 := hid (And.intro (HW5.out.1.below hb6) (HW5.out.2.trans (hb6.mono HW5.out.2.size)))
    have r6 := HW6.out.1.range
    clear hb6 r5 HW5 HA4
    go_wp2_with (refine wpList_load_mid rfl 24 _ rfl w.heap.size 0 rfl [.int .i64 p, .int .i64 k, .slice ax N cx] _ r6 Tryd.underlying24 rfl i3 ?_)
    refine (HM5.out _ HW6.out.2).mono ?_
    rintro e w7 ⟨rfl, hb7⟩
    have HW7 := hid (And.intro (HW6.out.1.below hb7) (HW6.out.2.trans (hb7.mono HW6.out.2.size)))
    have r7 := HW7.out.1.range
    clear hb7 r6 HW6 HM5
    go_wp2_with (refine wpList_load_mid rfl 24 _ rfl w.heap.size 0 rfl [.int .i64 p, .int .i64 k, .slice ax N cx] _ r7 Tryd.underlying24 rfl i3 ?_)
    refine (HM6.out _ HW7.out.2).mono ?_
    rintro e w8 ⟨rfl, hb8⟩
    have HW8 := hid (And.intro (HW7.out.1.below hb8) (HW7.out.2.trans (hb8.mono HW7.out.2.size)))
    have r8 := HW8.out.1.range
    clear hb8 r7 HW7 HM6
    go_wp2_with (refine wpList_load_mid rfl 24 _ rfl w.heap.size 0 rfl [.int .i64 p, .int .i64 k, .slice ax N cx] _ r8 Tryd.underlying24 rfl i3 ?_)
    refine (HM7.out _ HW8.out.2).mono ?_
    rintro e w9 ⟨rfl, hb9⟩
    have HW9 := hid (And.intro (HW8.out.1.below hb9) (HW8.out.2.trans (hb9.mono HW8.out.2.size)))
    have r9 := HW9.out.1.range
    clear hb9 r8 HW8 HM7
    go_wp2_with (refine wpList_load_mid rfl 24 _ rfl w.heap.size 0 rfl [.int .i64 p, .int .i64 k, .slice ax N cx] _ r9 Tryd.underlying24 rfl i3 ?_)
    refine (HM8.out _ HW9.out.2).mono ?_
    rintro e w10 ⟨rfl, hb10⟩
    have HW10 := hid (And.intro (HW9.out.1.below hb10) (HW9.out.2.trans (hb10.mono HW9.out.2.size)))
    have r10 := HW10.out.1.range
    clear hb10 r9 HW9 HM8
    go_wp2_with (refine wpList_load_mid rfl 24 _ rfl w.heap.size 0 rfl [.int .i64 p, .int .i64 k, .slice ax N cx] _ r10 Tryd.underlying24 rfl i3 ?_)
    refine (HM9.out _ HW10.out.2).mono ?_
    rintro e w11 ⟨rfl, hb11⟩
    have HW11 := hid (And.intro (HW10.out.1.below hb11) (HW10.out.2.trans (hb11.mono HW10.out.2.size)))
    have r11 := HW11.out.1.range
    clear hb11 r10 HW10 HM9
    go_wp2_with (refine wpList_load_mid rfl 24 _ rfl w.heap.size 0 rfl [.int .i64 p, .int .i64 k, .slice ax N cx] _ r11 Tryd.underlying24 rfl i3 ?_)
    refine (HM10.out _ HW11.out.2).mono ?_
    rintro e w12 ⟨rfl, hb12⟩
    have HW12 := hid (And.intro (HW11.out.1.below hb12) (HW11.out.2.trans (hb12.mono HW11.out.2.size)))
    have r12 := HW12.out.1.range
    clear hb12 r11 HW11 HM10
    go_wp2_with (refine wpList_load_mid rfl 24 _ rfl w.heap.size 0 rfl [.int .i64 p, .int .i64 k, .slice ax N cx] _ r12 Tryd.underlying24 rfl i3 ?_)
    refine (HM11.out _ HW12.out.2).mono ?_
    rintro e w13 ⟨rfl, hb13⟩
    have HW13 := hid (And.intro (HW12.out.1.below hb13) (HW12.out.2.trans (hb13.mono HW12.out.2.size)))
    have r13 := HW13.out.1.range
    clear hb13 r12 HW12 HM11
    go_wp2_with (refine wpList_load_mid rfl 24 _ rfl w.heap.size 0 rfl [.int .i64 p, .int .i64 k, .slice ax N cx] _ r13 Tryd.underlying24 rfl i3 ?_)
    refine (HA12.out _ HW13.out.2).mono ?_
    rintro e w14 ⟨rfl, hb14⟩
    have HW14 := hid (And.intro (HW13.out.1.below hb14) (HW13.out.2.trans (hb14.mono HW13.out.2.size)))
    have r14 := HW14.out.1.range
    clear hb14 r13 HW13 HA12
    go_wp2_with (refine wpList_load_mid rfl 24 _ rfl w.heap.size 0 rfl [.int .i64 p, .int .i64 k, .slice ax N cx] _ r14 Tryd.underlying24 rfl i3 ?_)
    refine (HM13.out _ HW14.out.2).mono ?_
    rintro e w15 ⟨rfl, hb15⟩
    have HW15 := hid (And.intro (HW14.out.1.below hb15) (HW14.out.2.trans (hb15.mono HW14.out.2.size)))
    have r15 := HW15.out.1.range
    clear hb15 r14 HW14 HM13
    go_wp2_with (refine wpList_load_mid rfl 24 _ rfl w.heap.size 0 rfl [.int .i64 p, .int .i64 k, .slice ax N cx] _ r15 Tryd.underlying24 rfl i3 ?_)
    refine (HA14.out _ HW15.out.2).mono ?_
    rintro e w16 ⟨rfl, hb16⟩
    have HW16 := hid (And.intro (HW15.out.1.below hb16) (HW15.out.2.trans (hb16.mono HW15.out.2.size)))
    have r16 := HW16.out.1.range
    clear hb16 r15 HW15 HA14
    clear r16
    go_wp2
    go_ret
    exact ⟨rfl, HW16.out.2⟩
  · have haz : ((X : Int) == 0) = false := by rw [beq_eq_false_iff_ne]; omega
    have HIv := hid (fun w1 (hb : Below w.heap.size w w1) => Inv_ok (u := .slice ax low.length cx) hF (hp.below hb) (by rw [← hle]; exact hu.below hb) hX hx0 (show 1 ≤ X by omega))
    have HMv := hid (fun w1 (hb : Below w.heap.size w w1) => mul_v (u := .slice ax low.length cx) (x := X) (y := V) (z := 1) rfl hF (hp.below hb) (by rw [← hle]; exact hu.below hb) hx0 lV (by rw [← hV]; exact hX.inv2 B (by omega) hx0))
    rw [hV] at HIv
    unfold fldV at HIv HMv
    rw [← hpe, ← hke] at HIv HMv
    rw [show ((1 : Nat) : Int) = 1 from rfl] at HMv
    clear hu hp hF hX hS1 hS2 hS3 hM1 hM2 hM3 hM4 hM5 hV lS1 lS2 lM1 lM2 lM4 lV eA3 eA5 eM2 eM5 eA6 eM7 eA7 hx0 hy0 hz0 hpe hke hle l1 l0 hq64 hq2 hp2 B hQ h0
    generalize low.length = N at *
    unfold fldV
    go_enter Tryd.func6, Tryd.ntmps6
    go_wp2_with fail
    refine (HFA.out _ HW0.out.2).mono ?_
    rintro e w1 ⟨rfl, hb1⟩
    have HW1 := hid (And.intro (HW0.out.1.below hb1) (HW0.out.2.trans (hb1.mono HW0.out.2.size)))
    have r1 := HW1.out.1.range
    clear hb1 r0 HW0 HFA
    go_wp2_with (refine wpList_load_mid rfl 24 _ rfl w.heap.size 0 rfl [.int .i64 p, .int .i64 k, .slice ax N cx] _ r1 Tryd.underlying24 rfl i3 ?_)
    refine (HA0.out _ HW1.out.2).mono ?_
    rintro e w2 ⟨rfl, hb2⟩
    have HW2 := hid (And.intro (HW1.out.1.below hb2) (HW1.out.2.trans (hb2.mono HW1.out.2.size)))
    have r2 := HW2.out.1.range
    clear hb2 r1 HW1 HA0
    go_wp2_with (refine wpList_load_mid rfl 24 _ rfl w.heap.size 0 rfl [.int .i64 p, .int .i64 k, .slice ax N cx] _ r2 Tryd.underlying24 rfl i3 ?_)
    refine (HA1.out _ HW2.out.2).mono ?_
    rintro e w3 ⟨rfl, hb3⟩
    have HW3 := hid (And.intro (HW2.out.1.below hb3) (HW2.out.2.trans (hb3.mono HW2.out.2.size)))
    have r3 := HW3.out.1.range
    clear hb3 r2 HW2 HA1
    go_wp2_with (refine wpList_load_mid rfl 24 _ rfl w.heap.size 0 rfl [.int .i64 p, .int .i64 k, .slice ax N cx] _ r3 Tryd.underlying24 rfl i3 ?_)
    refine (HA2.out _ HW3.out.2).mono ?_
    rintro e w4 ⟨rfl, hb4⟩
    have HW4 := hid (And.intro (HW3.out.1.below hb4) (HW3.out.2.trans (hb4.mono HW3.out.2.size)))
    have r4 := HW4.out.1.range
    clear hb4 r3 HW3 HA2
    go_wp2_with (refine wpList_load_mid rfl 24 _ rfl w.heap.size 0 rfl [.int .i64 p, .int .i64 k, .slice ax N cx] _ r4 Tryd.underlying24 rfl i3 ?_)
    refine (HA3.out _ HW4.out.2).mono ?_
    rintro e w5 ⟨rfl, hb5⟩
    have HW5 := hid (And.intro (HW4.out.1.below hb5) (HW4.out.2.trans (hb5.mono HW4.out.2.size)))
    have r5 := HW5.out.1.range
    clear hb5 r4 HW4 HA3
    go_wp2_with (refine wpList_load_mid rfl 24 _ rfl w.heap.size 0 rfl [.int .i64 p, .int .i64 k, .slice ax N cx] _ r5 Tryd.underlying24 rfl i3 ?_)
    refine (HA4.out _ HW5.out.2).mono ?_
    rintro e w6 ⟨rfl, hb6⟩
    have HW6 := hid (And.intro (HW5.out.1.below hb6) (HW5.out.2.trans (hb6.mono HW5.out.2.size)))
    have r6 := HW6.out.1.range
    clear hb6 r5 HW5 HA4
    go_wp2_with (refine wpList_load_mid rfl 24 _ rfl w.heap.size 0 rfl [.int .i64 p, .int .i64 k, .slice ax N cx] _ r6 Tryd.underlying24 rfl i3 ?_)
    refine (HM5.out _ HW6.out.2).mono ?_
    rintro e w7 ⟨rfl, hb7⟩
    have HW7 := hid (And.intro (HW6.out.1.below hb7) (HW6.out.2.trans (hb7.mono HW6.out.2.size)))
    have r7 := HW7.out.1.range
    clear hb7 r6 HW6 HM5
    go_wp2_with (refine wpList_load_mid rfl 24 _ rfl w.heap.size 0 rfl [.int .i64 p, .int .i64 k, .slice ax N cx] _ r7 Tryd.underlying24 rfl i3 ?_)
    refine (HM6.out _ HW7.out.2).mono ?_
    rintro e w8 ⟨rfl, hb8⟩
    have HW8 := hid (And.intro (HW7.out.1.below hb8) (HW7.out.2.trans (hb8.mono HW7.out.2.size)))
    have r8 := HW8.out.1.range
    clear hb8 r7 HW7 HM6
    go_wp2_with (refine wpList_load_mid rfl 24 _ rfl w.heap.size 0 rfl [.int .i64 p, .int .i64 k, .slice ax N cx] _ r8 Tryd.underlying24 rfl i3 ?_)
    refine (HM7.out _ HW8.out.2).mono ?_
    rintro e w9 ⟨rfl, hb9⟩
    have HW9 := hid (And.intro (HW8.out.1.below hb9) (HW8.out.2.trans (hb9.mono HW8.out.2.size)))
    have r9 := HW9.out.1.range
    clear hb9 r8 HW8 HM7
    go_wp2_with (refine wpList_load_mid rfl 24 _ rfl w.heap.size 0 rfl [.int .i64 p, .int .i64 k, .slice ax N cx] _ r9 Tryd.underlying24 rfl i3 ?_)
    refine (HM8.out _ HW9.out.2).mono ?_
    rintro e w10 ⟨rfl, hb10⟩
    have HW10 := hid (And.intro (HW9.out.1.below hb10) (HW9.out.2.trans (hb10.mono HW9.out.2.size)))
    have r10 := HW10.out.1.range
    clear hb10 r9 HW9 HM8
    go_wp2_with (refine wpList_load_mid rfl 24 _ rfl w.heap.size 0 rfl [.int .i64 p, .int .i64 k, .slice ax N cx] _ r10 Tryd.underlying24 rfl i3 ?_)
    refine (HM9.out _ HW10.out.2).mono ?_
    rintro e w11 ⟨rfl, hb11⟩
    have HW11 := hid (And.intro (HW10.out.1.below hb11) (HW10.out.2.trans (hb11.mono HW10.out.2.size)))
    have r11 := HW11.out.1.range
    clear hb11 r10 HW10 HM9
    go_wp2_with (refine wpList_load_mid rfl 24 _ rfl w.heap.size 0 rfl [.int .i64 p, .int .i64 k, .slice ax N cx] _ r11 Tryd.underlying24 rfl i3 ?_)
    refine (HM10.out _ HW11.out.2).mono ?_
    rintro e w12 ⟨rfl, hb12⟩
    have HW12 := hid (And.intro (HW11.out.1.below hb12) (HW11.out.2.trans (hb12.mono HW11.out.2.size)))
    have r12 := HW12.out.1.range
    clear hb12 r11 HW11 HM10
    go_wp2_with (refine wpList_load_mid rfl 24 _ rfl w.heap.size 0 rfl [.int .i64 p, .int .i64 k, .slice ax N cx] _ r12 Tryd.underlying24 rfl i3 ?_)
    refine (HM11.out _ HW12.out.2).mono ?_
    rintro e w13 ⟨rfl, hb13⟩
    have HW13 := hid (And.intro (HW12.out.1.below hb13) (HW12.out.2.trans (hb13.mono HW12.out.2.size)))
    have r13 := HW13.out.1.range
    clear hb13 r12 HW12 HM11
    go_wp2_with (refine wpList_load_mid rfl 24 _ rfl w.heap.size 0 rfl [.int .i64 p, .int .i64 k, .slice ax N cx] _ r13 Tryd.underlying24 rfl i3 ?_)
    refine (HA12.out _ HW13.out.2).mono ?_
    rintro e w14 ⟨rfl, hb14⟩
    have HW14 := hid (And.intro (HW13.out.1.below hb14) (HW13.out.2.trans (hb14.mono HW13.out.2.size)))
    have r14 := HW14.out.1.range
    clear hb14 r13 HW13 HA12
    go_wp2_with (refine wpList_load_mid rfl 24 _ rfl w.heap.size 0 rfl [.int .i64 p, .int .i64 k, .slice ax N cx] _ r14 Tryd.underlying24 rfl i3 ?_)
    refine (HM13.out _ HW14.out.2).mono ?_
    rintro e w15 ⟨rfl, hb15⟩
    have HW15 := hid (And.intro (HW14.out.1.below hb15) (HW14.out.2.trans (hb15.mono HW14.out.2.size)))
    have r15 := HW15.out.1.range
    clear hb15 r14 HW14 HM13
    go_wp2_with (refine wpList_load_mid rfl 24 _ rfl w.heap.size 0 rfl [.int .i64 p, .int .i64 k, .slice ax N cx] _ r15 Tryd.underlying24 rfl i3 ?_)
    refine (HA14.out _ HW15.out.2).mono ?_
    rintro e w16 ⟨rfl, hb16⟩
    have HW16 := hid (And.intro (HW15.out.1.below hb16) (HW15.out.2.trans (hb16.mono HW15.out.2.size)))
    have r16 := HW16.out.1.range
    clear hb16 r15 HW15 HA14
    go_wp2_with (refine wpList_load_mid rfl 24 _ rfl w.heap.size 0 rfl [.int .i64 p, .int .i64 k, .slice ax N cx] _ r16 Tryd.underlying24 rfl i3 ?_)
    refine (HIv.out _ HW16.out.2).mono ?_
    rintro e w17 ⟨rfl, hb17⟩
    have HW17 := hid (And.intro (HW16.out.1.below hb17) (HW16.out.2.trans (hb17.mono HW16.out.2.size)))
    have r17 := HW17.out.1.range
    clear hb17 r16 HW16 HIv
    go_wp2_with (refine wpList_load_mid rfl 24 _ rfl w.heap.size 0 rfl [.int .i64 p, .int .i64 k, .slice ax N cx] _ r17 Tryd.underlying24 rfl i3 ?_)
    refine (HMv.out _ HW17.out.2).mono ?_
    rintro e w18 ⟨rfl, hb18⟩
    have HW18 := hid (And.intro (HW17.out.1.below hb18) (HW17.out.2.trans (hb18.mono HW17.out.2.size)))
    have r18 := HW18.out.1.range
    clear hb18 r17 HW17 HMv
    clear r18
    go_wp2
    go_ret
    exact ⟨rfl, HW18.out.2⟩

set_option maxHeartbeats 4000000 in
set_option maxRecDepth 100000 in
theorem fieldHolds_walk (w : World) (hp : Prs w) (p k : Int) (ip : I64 p) (ik : I64 k) (u : Value) (low : List Int) (hu : Sl w u low) (hi64 : ∀ x ∈ low, I64 x) (a : Int) (ia : I64 a) (b : Int) (ib : I64 b) (c : Int) (ic : I64 c) :
    Calls Tryd.prog 6 #[fldV p k u, .int .i64 a, .int .i64 b, .int .i64 c] w fun e w' => e = .returned (.bool true) ∧ Below w.heap.size w w' := by
  by_cases h12 : wiE p k low [a, b] = 0 ∧ wiE p k low [b, c] = 0
  · obtain ⟨h1, h2⟩ := h12
    obtain ⟨hf, hes⟩ := wi_ok h1
    obtain ⟨_, hes2⟩ := wi_ok h2
    obtain ⟨P, K, n, rfl, rfl, hle, hF⟩ := fa_ok hf
    have ha := hes a (by simp)
    have hb := hes b (by simp)
    have hc := hes2 c (by simp)
    rw [hF.ord] at ha hb hc
    obtain ⟨X, rfl⟩ := Int.eq_ofNat_of_zero_le ha.1
    obtain ⟨Y, rfl⟩ := Int.eq_ofNat_of_zero_le hb.1
    obtain ⟨Z, rfl⟩ := Int.eq_ofNat_of_zero_le hc.1
    exact holds_ok w hp P K rfl rfl hF u low hle hu (by omega) (by omega) (by omega)
  · have hor : (wiE p k low [a, b] != 0 || wiE p k low [b, c] != 0) = true := by
      rw [Bool.or_eq_true, bne_iff_ne, bne_iff_ne]
      by_cases h1 : wiE p k low [a, b] = 0
      · exact .inr fun h2 => h12 ⟨h1, h2⟩
      · exact .inl h1
    obtain ⟨ax, cx, e1⟩ := hu.len
    subst e1
    have HW0 := hid (And.intro (Arr.new w 24 [.int .i64 p, .int .i64 k, .slice ax low.length cx]) ((Below.refl w.heap.size w).alloc (Nat.le_refl _) (.cells #[.int .i64 p, .int .i64 k, .slice ax low.length cx] 24)))
    have r0 := HW0.out.1.range
    have i3 : (Tryd.prog.info? 24).map (·.size) = some 3 := by kernel_rfl
    have HFA := hid (fun w1 (hb : Below w.heap.size w w1) => fact_ok w1 (hp.below hb))
    have HA1 := hid (fun w1 (hb : Below w.heap.size w w1) => Add_any p k a b (.slice ax low.length cx) low w1 ip ik ia ib (hp.below hb) (hu.below hb) hi64)
    have HA2 := hid (fun w1 (hb : Below w.heap.size w w1) => Add_any p k b c (.slice ax low.length cx) low w1 ip ik ib ic (hp.below hb) (hu.below hb) hi64)
    unfold fldV at HA1 HA2
    clear hu hp hi64 h12
    generalize wiE p k low [a, b] = e1 at *
    generalize wiE p k low [b, c] = e2 at *
    generalize addR p k low a b = s1 at *
    generalize addR p k low b c = s2 at *
    generalize low.length = N at *
    unfold fldV
    go_enter Tryd.func6, Tryd.ntmps6
    go_wp2_with fail
    refine (HFA.out _ HW0.out.2).mono ?_
    rintro e w1 ⟨rfl, hb1⟩
    have HW1 := hid (And.intro (HW0.out.1.below hb1) (HW0.out.2.trans (hb1.mono HW0.out.2.size)))
    have r1 := HW1.out.1.range
    clear hb1 r0 HW0 HFA
    go_wp2_with (refine wpList_load_mid rfl 24 _ rfl w.heap.size 0 rfl [.int .i64 p, .int .i64 k, .slice ax N cx] _ r1 Tryd.underlying24 rfl i3 ?_)
    refine (HA1.out _ HW1.out.2).mono ?_
    rintro e w2 ⟨rfl, hb2⟩
    have HW2 := hid (And.intro (HW1.out.1.below hb2) (HW1.out.2.trans (hb2.mono HW1.out.2.size)))
    have r2 := HW2.out.1.range
    clear hb2 r1 HW1 HA1
    go_wp2_with (refine wpList_load_mid rfl 24 _ rfl w.heap.size 0 rfl [.int .i64 p, .int .i64 k, .slice ax N cx] _ r2 Tryd.underlying24 rfl i3 ?_)
    refine (HA2.out _ HW2.out.2).mono ?_
    rintro e w3 ⟨rfl, hb3⟩
    have HW3 := hid (And.intro (HW2.out.1.below hb3) (HW2.out.2.trans (hb3.mono HW2.out.2.size)))
    have r3 := HW3.out.1.range
    clear hb3 r2 HW2 HA2
    clear r3
    cases h1 : (e1 != 0)
    · rw [h1, Bool.false_or] at hor
      go_wp2
      go_ret
      exact ⟨rfl, HW3.out.2⟩
    · go_wp2
      go_ret
      exact ⟨rfl, HW3.out.2⟩
end Go.Proofs.YthdlhfgeminoiaaDoor
