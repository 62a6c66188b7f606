/-
  The walk over parterrelaw1.FieldTraces. Conditions: the numbers are of 64 bits; the primes are laid; the slice can be read.
-/
import Derived.Test.YthdlhfgeminoiaaDoorFrob
namespace Go.Proofs.YthdlhfgeminoiaaDoor
set_option linter.unusedVariables false
open Go.RowKit

set_option maxHeartbeats 4000000 in
set_option maxRecDepth 100000 in
theorem traces_ok (w : World) (hp : Prs w) (p k : Int) {P K n X Y : Nat} (hpe : p = (P : Int)) (hke : k = (K : Int)) (hF : FOk P K n) (u : Value) (low : List Int) (hle : low = nZ (dgL P n K)) (hu : Sl w u low) (hx0 : X < P ^ K) (hy0 : Y < P ^ K) :
    Calls Tryd.prog 8 #[fldV p k u, .int .i64 X, .int .i64 Y] w fun e w' => e = .returned (.bool true) ∧ Below w.heap.size w w' := by
  obtain ⟨⟨E, L, hX⟩, _⟩ := hF.fx
  have hY := hF.fy
  obtain ⟨Q, hQ⟩ : ∃ Q : Nat, Q = P ^ K := ⟨_, rfl⟩
  have B := hF.fb
  have hq64 := hF.q64
  have hq2 := B.q2
  have hp2 := B.p2
  have hp64 := B.p64
  have hK1 := B.k1
  have hK6 := B.k6
  obtain ⟨ax, cx, e1⟩ := hu.len
  subst e1
  have HW0 := hid (And.intro (Arr.new w 24 [.int .i64 p, .int .i64 k, .slice ax low.length cx]) ((Below.refl w.heap.size w).alloc (Nat.le_refl _) (.cells #[.int .i64 p, .int .i64 k, .slice ax low.length cx] 24)))
  have r0 := HW0.out.1.range
  have i3 : (Tryd.prog.info? 24).map (·.size) = some 3 := by kernel_rfl
  have HFA := hid (fun w1 (hb : Below w.heap.size w w1) => fact_ok w1 (hp.below hb))
  obtain ⟨S, hS⟩ : ∃ s, addF P K X Y = s := ⟨_, rfl⟩
  obtain ⟨TR, hTR⟩ : ∃ f : Nat → Nat, (fun x => trS P K (dgL P n K) x K) = f := ⟨_, rfl⟩
  have lS : S < P ^ K := by rw [← hS]; exact addF_lt B.p2 B.k6 _ _
  have eT2 : ∀ x, trS P K (dgL P n K) x K = TR x := fun x => by rw [← hTR]
  have eAdd : TR S = (TR X + TR Y) % P := by rw [← eT2, ← eT2, ← eT2, ← hS]; exact hY.tr_add B hx0 hy0
  have lX : TR X < P := by rw [← eT2]; exact hY.tr_lt B X hx0
  have lY : TR Y < P := by rw [← eT2]; exact hY.tr_lt B Y hy0
  have eCnt := hY.tcnt (TR X) lX
  rw [show (fun x => trS P K (dgL P n K) x K == TR X) = (fun x => TR x == TR X) from funext fun x => by rw [eT2]] at eCnt
  have HA1 := hid (fun w1 (hb : Below w.heap.size w w1) => add_v (u := .slice ax low.length cx) (x := X) (y := Y) rfl hF (hp.below hb) (by rw [← hle]; exact hu.below hb) hx0 hy0 hS)
  have HT1 := hid (fun w1 (hb : Below w.heap.size w w1) => Trace_ok (u := .slice ax low.length cx) (a := S) hF (hp.below hb) (by rw [← hle]; exact hu.below hb) hX lS)
  rw [eT2] at HT1
  have HT2 := hid (fun w1 (hb : Below w.heap.size w w1) => Trace_ok (u := .slice ax low.length cx) (a := X) hF (hp.below hb) (by rw [← hle]; exact hu.below hb) hX hx0)
  rw [eT2] at HT2
  have HT3 := hid (fun w1 (hb : Below w.heap.size w w1) => Trace_ok (u := .slice ax low.length cx) (a := Y) hF (hp.below hb) (by rw [← hle]; exact hu.below hb) hX hy0)
  rw [eT2] at HT3
  have HTA := hid (fun (x : Nat) (hx : x < Q) w1 (hb : Below w.heap.size w w1) => Trace_ok (u := .slice ax low.length cx) (a := x) hF (hp.below hb) (by rw [← hle]; exact hu.below hb) hX (show x < P ^ K by omega))
  simp only [eT2] at HTA
  unfold fldV at HA1 HT1 HT2 HT3 HTA
  rw [← hpe, ← hke] at HA1 HT1 HT2 HT3 HTA
  have hsum : ((TR X : Nat) : Int) + ((TR Y : Nat) : Int) = ((TR X + TR Y : Nat) : Int) := (Int.natCast_add _ _).symm
  have hmod : ((TR X + TR Y : Nat) : Int).tmod p = ((TR S : Nat) : Int) := by rw [hpe, Int.tmod_eq_emod_of_nonneg (by omega), eAdd]; rfl
  have hpnz : p ≠ 0 := by omega
  have hpos : 0 < p := by omega
  have hdiv : ((Q : Nat) : Int).tdiv p = ((Q / P : Nat) : Int) := by rw [hpe, Int.tdiv_eq_ediv_of_nonneg (by omega)]; rfl
  have HCN := hid (show ((List.range Q).filter fun x => TR x == TR X).length = Q / P by rw [hQ]; exact eCnt)
  have HC0 : Hid (((List.range 0).filter fun x => TR x == TR X).length = 0) := hid rfl
  have HCS : Hid (∀ t, ((List.range (t + 1)).filter fun x => TR x == TR X).length = ((List.range t).filter fun x => TR x == TR X).length + if TR t = TR X then 1 else 0) := hid (fun t => by
    rw [List.range_succ, List.filter_append, List.length_append]
    congr 1
    by_cases h : TR t = TR X
    · rw [if_pos h, List.filter_cons_of_pos (by simpa using h)]; rfl
    · rw [if_neg h, List.filter_cons_of_neg (by simpa using h)]; rfl)
  have HCL : Hid (∀ t, ((List.range t).filter fun x => TR x == TR X).length ≤ t) := hid (fun t => Nat.le_trans (List.length_filter_le _ _) (by simp))
  obtain ⟨C, hC⟩ : ∃ C : Nat → Nat, (fun t => ((List.range t).filter fun x => TR x == TR X).length) = C := ⟨_, rfl⟩
  have hC2 : ∀ t, ((List.range t).filter fun x => TR x == TR X).length = C t := fun t => by rw [← hC]
  simp only [hC2] at HCN HC0 HCS HCL
  obtain ⟨F, hF0⟩ : ∃ F : Nat → Nat, F = fun i => P ^ i := ⟨_, rfl⟩
  have HF0 : Hid (F 0 = 1) := hid (by rw [hF0]; rfl)
  have HFK : Hid (F K = P ^ K) := hid (by rw [hF0])
  have HKE : Hid (k = (K : Int)) := hid hke
  have HFS : Hid (∀ t, t < K → ((F t : Nat) : Int) * p = ((F (t + 1) : Nat) : Int) ∧ F t ≤ 64 ∧ F (t + 1) ≤ 64) := hid (fun t ht => by
    rw [hF0, hpe]
    have h1 : P ^ t ≤ P ^ K := Nat.pow_le_pow_right (by omega) (by omega)
    have h2 : P ^ (t + 1) ≤ P ^ K := Nat.pow_le_pow_right (by omega) (by omega)
    refine ⟨?_, show P ^ t ≤ 64 by omega, show P ^ (t + 1) ≤ 64 by omega⟩
    show ((P ^ t : Nat) : Int) * (P : Int) = ((P ^ (t + 1) : Nat) : Int)
    rw [Nat.pow_succ, Int.natCast_mul])
  clear hF0
  clear hu hp hF hX hY hS lS eAdd eCnt hC hC2 eT2 hTR hx0 hy0 hke hle B
  rw [← hQ] at HFK
  have hQ64 : Q ≤ 64 := by omega
  have hp61 : p ≤ 64 := by omega
  have hlx : TR X ≤ 64 := by omega
  have hly : TR Y ≤ 64 := by omega
  clear hQ hq64 hq2 hp2 hp64 hpe lX lY
  generalize TR S = tS at *
  generalize TR Y = tY at *
  generalize hTX : TR X = tX at *
  have HTX := hid hTX
  clear hTX
  generalize tX + tY = tXY at *
  generalize low.length = N at *
  unfold fldV
  go_enter Tryd.func8, Tryd.ntmps8
  go_wp2_with fail
  refine (HFA.out _ HW0.out.2).mono ?_
  rintro e w1 ⟨rfl, hb1⟩
  have HW1 := hid (And.intro (HW0.out.1.below hb1) (HW0.out.2.trans (hb1.mono HW0.out.2.size)))
  have r1 := HW1.out.1.range
  clear hb1 r0 HW0 HFA
  go_wp2_with (refine wpList_load_mid rfl 24 _ rfl w.heap.size 0 rfl [.int .i64 p, .int .i64 k, .slice ax N cx] _ r1 Tryd.underlying24 rfl i3 ?_)
  refine (HA1.out _ HW1.out.2).mono ?_
  rintro e w2 ⟨rfl, hb2⟩
  have HW2 := hid (And.intro (HW1.out.1.below hb2) (HW1.out.2.trans (hb2.mono HW1.out.2.size)))
  have r2 := HW2.out.1.range
  clear hb2 r1 HW1 HA1
  go_wp2_with (refine wpList_load_mid rfl 24 _ rfl w.heap.size 0 rfl [.int .i64 p, .int .i64 k, .slice ax N cx] _ r2 Tryd.underlying24 rfl i3 ?_)
  refine (HT1.out _ HW2.out.2).mono ?_
  rintro e w3 ⟨rfl, hb3⟩
  have HW3 := hid (And.intro (HW2.out.1.below hb3) (HW2.out.2.trans (hb3.mono HW2.out.2.size)))
  have r3 := HW3.out.1.range
  clear hb3 r2 HW2 HT1
  go_wp2_with (refine wpList_load_mid rfl 24 _ rfl w.heap.size 0 rfl [.int .i64 p, .int .i64 k, .slice ax N cx] _ r3 Tryd.underlying24 rfl i3 ?_)
  refine (HT2.out _ HW3.out.2).mono ?_
  rintro e w4 ⟨rfl, hb4⟩
  have HW4 := hid (And.intro (HW3.out.1.below hb4) (HW3.out.2.trans (hb4.mono HW3.out.2.size)))
  have r4 := HW4.out.1.range
  clear hb4 r3 HW3 HT2
  go_wp2_with (refine wpList_load_mid rfl 24 _ rfl w.heap.size 0 rfl [.int .i64 p, .int .i64 k, .slice ax N cx] _ r4 Tryd.underlying24 rfl i3 ?_)
  refine (HT3.out _ HW4.out.2).mono ?_
  rintro e w5 ⟨rfl, hb5⟩
  have HW5 := hid (And.intro (HW4.out.1.below hb5) (HW4.out.2.trans (hb5.mono HW4.out.2.size)))
  have r5 := HW5.out.1.range
  clear hb5 r4 HW4 HT3
  have k0 := HW5.out.1.cell 0
  simp only [List.getElem?_cons_zero] at k0
  clear r5
  go_wp2_with fail
  clear k0 hsum hmod
  have r5 : True := trivial
  clear r5
  go_loopw [17, 18] (fun x y wq => ∃ t : Nat, x = .int .i64 (F t : Nat) ∧ y = .int .i64 t ∧ t ≤ K ∧ Arr wq w.heap.size 24 [.int .i64 p, .int .i64 k, .slice ax N cx] ∧ Below w.heap.size w wq) (fun _ y _ => K - (intOf y).toNat)
  case atStart => exact ⟨0, by rw [HF0.out]; rfl, rfl, Nat.zero_le _, HW5.out.1, HW5.out.2⟩
  case round =>
    clear HW5
    obtain ⟨t, rfl, rfl, htl, hA, hB⟩ := hrel
    have k0 := hA.cell 0
    have k1 := hA.cell 1
    simp only [List.getElem?_cons_zero, List.getElem?_cons_succ] at k0 k1
    by_cases hte : t < K
    · have htk : (t : Int) < k := by rw [HKE.out]; omega
      have hft := HFS.out t hte
      have hmul : ((F t : Nat) : Int) * p = ((F (t + 1) : Nat) : Int) := hft.1
      have hfl := hft.2.1
      have hfl2 := hft.2.2
      have HX := hid (And.intro hA hB)
      clear hA hB hft
      generalize hf2 : F (t + 1) = f2 at *
      have HF2 := hid hf2
      clear hf2
      go_wp2
      go_roundw
      case rel => exact ⟨t + 1, by rw [HF2.out], by go_num, by omega, HX.out.1, HX.out.2⟩
      case measure => simp [intOf] <;> omega
    · obtain rfl : K = t := by omega
      have htk : ¬ (K : Int) < k := by rw [HKE.out]; omega
      have HW6 := hid (And.intro hA hB)
      have r6 := HW6.out.1.range
      clear hA hB
      rw [HFK.out]
      go_wp2_with fail
      clear r6 k0 k1
      go_loopw [16, 19, 20, 21] (fun c x _ _ wq => ∃ t : Nat, c = .int .i64 (C t : Nat) ∧ x = .int .i64 t ∧ t ≤ Q ∧ Arr wq w.heap.size 24 [.int .i64 p, .int .i64 k, .slice ax N cx] ∧ Below w.heap.size w wq) (fun _ x _ _ _ => Q - (intOf x).toNat)
      case atStart => exact ⟨0, by rw [HC0.out]; rfl, rfl, Nat.zero_le _, HW6.out.1, HW6.out.2⟩
      case round =>
        clear HW6
        obtain ⟨t, rfl, rfl, htl, hA, hB⟩ := hrel
        by_cases hte : t = Q
        · have hlt : ¬ (t : Int) < (Q : Int) := by omega
          have k0 := hA.cell 0
          simp only [List.getElem?_cons_zero] at k0
          have hce : C t = Q / P := by rw [hte, HCN.out]
          have HX := hid hB
          rw [hce]
          clear hce hte htl hA hB
          have hqp : Q / P ≤ 64 := Nat.le_trans (Nat.div_le_self Q P) hQ64
          generalize Q / P = qp at *
          go_wp2
          go_ret
          exact ⟨rfl, HX.out⟩
        · have hlt : (t : Int) < (Q : Int) := by omega
          have r1 := hA.range
          have HX := hid (And.intro hA hB)
          have HC1 := hid (HTA.out t (by omega) _ hB)
          have hcs := HCS.out t
          have hcl := HCL.out t
          clear hA hB
          generalize TR t = y at *
          by_cases hy : y = tX
          · have hye : ((y : Int) == (tX : Int)) = true := by rw [beq_iff_eq]; omega
            rw [if_pos hy] at hcs
            have HCE := hid hcs
            clear hy hcs
            go_wp2_with (refine wpList_load_mid rfl 24 _ rfl w.heap.size 0 rfl [.int .i64 p, .int .i64 k, .slice ax N cx] _ r1 Tryd.underlying24 rfl i3 ?_)
            refine HC1.out.mono ?_
            rintro e w7 ⟨rfl, hb7⟩
            have HW7 := hid (And.intro (HX.out.1.below hb7) (HX.out.2.trans (hb7.mono HX.out.2.size)))
            clear hb7 r1 HX HC1
            go_wp2
            go_roundw
            case rel => exact ⟨t + 1, by rw [HCE.out]; go_num, by go_num, by omega, HW7.out.1, HW7.out.2⟩
            case measure => simp [intOf] <;> omega
          · have hye : ((y : Int) == (tX : Int)) = false := by rw [beq_eq_false_iff_ne]; omega
            rw [if_neg hy] at hcs
            have HCE := hid hcs
            clear hy hcs
            go_wp2_with (refine wpList_load_mid rfl 24 _ rfl w.heap.size 0 rfl [.int .i64 p, .int .i64 k, .slice ax N cx] _ r1 Tryd.underlying24 rfl i3 ?_)
            refine HC1.out.mono ?_
            rintro e w7 ⟨rfl, hb7⟩
            have HW7 := hid (And.intro (HX.out.1.below hb7) (HX.out.2.trans (hb7.mono HX.out.2.size)))
            clear hb7 r1 HX HC1
            go_wp2
            go_roundw
            case rel => exact ⟨t + 1, by rw [HCE.out, Nat.add_zero], by go_num, by omega, HW7.out.1, HW7.out.2⟩
            case measure => simp [intOf] <;> omega

set_option maxHeartbeats 4000000 in
set_option maxRecDepth 100000 in
theorem fieldTraces_walk (w : World) (hp : Prs w) (p k : Int) (ip : I64 p) (ik : I64 k) (u : Value) (low : List Int) (hu : Sl w u low) (hi64 : ∀ x ∈ low, I64 x) (a : Int) (ia : I64 a) (b : Int) (ib : I64 b) :
    Calls Tryd.prog 8 #[fldV p k u, .int .i64 a, .int .i64 b] w fun e w' => e = .returned (.bool true) ∧ Below w.heap.size w w' := by
  by_cases h1 : wiE p k low [a, b] = 0
  · obtain ⟨hf, hes⟩ := wi_ok h1
    obtain ⟨P, K, n, rfl, rfl, hle, hF⟩ := fa_ok hf
    have ha := hes a (by simp)
    have hb := hes b (by simp)
    rw [hF.ord] at ha hb
    obtain ⟨X, rfl⟩ := Int.eq_ofNat_of_zero_le ha.1
    obtain ⟨Y, rfl⟩ := Int.eq_ofNat_of_zero_le hb.1
    exact traces_ok w hp P K rfl rfl hF u low hle hu (by omega) (by omega)
  · have hne : (wiE p k low [a, b] != 0) = true := by simpa using h1
    obtain ⟨ax, cx, e1⟩ := hu.len
    subst e1
    have HW0 := hid (And.intro (Arr.new w 24 [.int .i64 p, .int .i64 k, .slice ax low.length cx]) ((Below.refl w.heap.size w).alloc (Nat.le_refl _) (.cells #[.int .i64 p, .int .i64 k, .slice ax low.length cx] 24)))
    have r0 := HW0.out.1.range
    have i3 : (Tryd.prog.info? 24).map (·.size) = some 3 := by kernel_rfl
    have HFA := hid (fun w1 (hb : Below w.heap.size w w1) => fact_ok w1 (hp.below hb))
    have HA1 := hid (fun w1 (hb : Below w.heap.size w w1) => Add_any p k a b (.slice ax low.length cx) low w1 ip ik ia ib (hp.below hb) (hu.below hb) hi64)
    unfold fldV at HA1
    clear hu hp hi64 h1
    generalize wiE p k low [a, b] = e1 at *
    generalize addR p k low a b = s1 at *
    generalize low.length = N at *
    unfold fldV
    go_enter Tryd.func8, Tryd.ntmps8
    go_wp2_with fail
    refine (HFA.out _ HW0.out.2).mono ?_
    rintro e w1 ⟨rfl, hb1⟩
    have HW1 := hid (And.intro (HW0.out.1.below hb1) (HW0.out.2.trans (hb1.mono HW0.out.2.size)))
    have r1 := HW1.out.1.range
    clear hb1 r0 HW0 HFA
    go_wp2_with (refine wpList_load_mid rfl 24 _ rfl w.heap.size 0 rfl [.int .i64 p, .int .i64 k, .slice ax N cx] _ r1 Tryd.underlying24 rfl i3 ?_)
    refine (HA1.out _ HW1.out.2).mono ?_
    rintro e w2 ⟨rfl, hb2⟩
    have HW2 := hid (And.intro (HW1.out.1.below hb2) (HW1.out.2.trans (hb2.mono HW1.out.2.size)))
    have r2 := HW2.out.1.range
    clear hb2 r1 HW1 HA1
    clear r2
    go_wp2
    go_ret
    exact ⟨rfl, HW2.out.2⟩
end Go.Proofs.YthdlhfgeminoiaaDoor
