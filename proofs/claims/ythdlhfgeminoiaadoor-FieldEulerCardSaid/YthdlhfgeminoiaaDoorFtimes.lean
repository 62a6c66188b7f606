/-
  The walk over parterreref1.Times. Conditions: the numbers fit; the slice can be read.
-/
import Derived.Test.YthdlhfgeminoiaaDoorFprod
import Derived.BigRegion
namespace Go.Proofs.YthdlhfgeminoiaaDoor
set_option linter.unusedVariables false
open Go.RowKit

def timF (P K : Nat) (low : List Nat) (x y : Nat) : Nat := numL P ((rdO P K (2 * K - 1) low (pdO P K (dgL P x K) (dgL P y K) K) K).take K)
theorem nZ_take (l : List Nat) (k : Nat) : (nZ l).take k = nZ (l.take k) := by simp [nZ, List.map_take]

set_option maxHeartbeats 2000000 in
set_option maxRecDepth 100000 in
theorem Times_ok (P K x y : Nat) (u : Value) (low : List Nat) (w : World) (hu : Sl w u (nZ low)) (hP : 2 ≤ P) (hP2 : P ≤ 64) (hK : 1 ≤ K) (hK6 : K ≤ 6) (hq : P ^ K ≤ 64) (hlow : low.length = K) (hll : ∀ j, low.getD j 0 < P) (hx : x < 64) (hy : y < 64) :
    Calls Tryd.prog 19 #[fldV P K u, .int .i64 x, .int .i64 y] w fun e w' => e = .returned (.int .i64 (timF P K low x y)) ∧ Below w.heap.size w w' := by
  have HD1 := hid (fun w1 => Digits_ok P x K w1 (by omega) (by omega) (by omega) (by omega))
  have HD2 := hid (fun w1 => Digits_ok P y K w1 (by omega) (by omega) (by omega) (by omega))
  have hd1 := dgL_le hP x K
  have hd2 := dgL_le hP y K
  have hl1 := dgL_len P x K
  have hl2 := dgL_len P y K
  have hz1 := pdO_len P K (dgL P x K) (dgL P y K) K
  have hz2 := pdO_lt (P := P) (K := K) (dgL P x K) (dgL P y K) (by omega) K
  have HPR := hid (fun (w1 : World) (v1 v2 : Value) (hv1 : Sl w1 v1 (nZ (dgL P x K))) (hv2 : Sl w1 v2 (nZ (dgL P y K))) => Product_ok P K (dgL P x K) (dgL P y K) v1 v2 w1 hv1 hv2 hP hP2 hK hK6 hl1 hl2 hd1 hd2)
  have HQ : Hid (timF P K low x y = numL P ((rdO P K (2 * K - 1) low (pdO P K (dgL P x K) (dgL P y K) K) K).take K)) := hid rfl
  obtain ⟨Z0, hZ0⟩ : ∃ Z, Z = pdO P K (dgL P x K) (dgL P y K) K := ⟨_, rfl⟩
  rw [← hZ0] at HPR HQ hz1 hz2
  have HLEN := hid (fun s => (rdO_len P K (2 * K - 1) low Z0 s).trans hz1)
  have HLT := hid (fun s j => rdO_lt (n := K) (k := 2 * K - 1) (d := low) hz2 s j)
  have HO0 : Hid (rdO P K (2 * K - 1) low Z0 0 = Z0) := hid rfl
  have HON : Hid (∀ s, rdO P K (2 * K - 1) low Z0 (s + 1) = rdI P ((rdO P K (2 * K - 1) low Z0 s).getD (2 * K - 1 - s) 0) (2 * K - 1 - s - K) low ((rdO P K (2 * K - 1) low Z0 s).set (2 * K - 1 - s) 0) K) := hid fun s => rfl
  have HIL := hid (fun t b (x : List Nat) i => rdI_len P t b low x i)
  have HIT := hid (fun t b (x : List Nat) (h : ∀ j, x.getD j 0 < P) i j => rdI_lt (c := t) (base := b) (d := low) h i j)
  have HI0 : Hid (∀ t b (x : List Nat), rdI P t b low x 0 = x) := hid fun t b x => rfl
  have HIN : Hid (∀ t b (x : List Nat) i, rdI P t b low x (i + 1) = (rdI P t b low x i).set (b + i) (rN P ((rdI P t b low x i).getD (b + i) 0) t (low.getD i 0))) := hid fun t b x i => rfl
  have HDL := hid hll
  have HRS := hid (fun r c d => rN_spec (P := P) (r := r) (c := c) (d := d) (by omega))
  have HTB := hid (fun x => tmod_bd x (P := P) (by omega))
  have HNL : Hid (Z0.length = 2 * K) := hid hz1
  have HL1 : Hid ((dgL P x K).length = K) := hid hl1
  have HL2 : Hid ((dgL P y K).length = K) := hid hl2
  obtain ⟨O, hO⟩ : ∃ O, O = rdO P K (2 * K - 1) low Z0 := ⟨_, rfl⟩
  rw [← hO] at HLEN HLT HO0 HON HQ
  generalize dgL P x K = D1 at *
  generalize dgL P y K = D2 at *
  clear hO hd1 hd2 hl1 hl2 hz1 hz2 hZ0 hll
  obtain ⟨la, lc, N, rfl, hN, hm1, hm2⟩ := hu.open
  obtain rfl : N = K := by rw [← hN.out, nZ_len]; exact hlow
  obtain ⟨bL, oL, rfl, hbL, hcL⟩ := hm2 (by omega)
  have HCL : Hid (∀ i, i < N → w.cell? ⟨bL, oL + i, none⟩ = some (.int .i64 ((low.getD i 0 : Nat) : Int))) := hid (fun i hi => by rw [hcL i hi, ← nZ_getD, List.getD_eq_getElem?_getD])
  clear hcL hm2 hu hlow
  have hR : Arr (w.alloc (.cells #[.int .i64 (P : Int), .int .i64 (N : Int), .slice (some ⟨bL, oL, none⟩) N lc] 24)) w.heap.size 24 [.int .i64 (P : Int), .int .i64 (N : Int), .slice (some ⟨bL, oL, none⟩) N lc] := Arr.new _ _ _
  have hb := ((Below.refl w.heap.size w).alloc (Nat.le_refl _) (.cells #[.int .i64 (P : Int), .int .i64 (N : Int), .slice (some ⟨bL, oL, none⟩) N lc] 24))
  have HW := hid (And.intro hR hb)
  clear hR hb
  unfold fldV
  go_enter Tryd.func19, Tryd.ntmps19
  go_wp2_with fail
  refine (HD1.out _).mono ?_
  rintro _ w2 ⟨⟨u1, rfl, ho1⟩, hb2⟩
  have hB2 := HW.out.2.trans (hb2.mono HW.out.2.size)
  have hR2 := HW.out.1.below hb2
  have ho1' : OI 0 w2 u1 (nZ D1) := ho1.mono (by omega)
  have H2 := hid (And.intro ho1' (And.intro hR2 hB2))
  have k0 := hR2.cell 0
  have k1 := hR2.cell 1
  simp only [List.getElem?_cons_zero, List.getElem?_cons_succ] at k0 k1
  clear ho1 ho1' hb2 hR2 hB2 HW HD1
  go_wp2_with fail
  refine (HD2.out _).mono ?_
  rintro _ w3 ⟨⟨u2, rfl, ho2⟩, hb3⟩
  have ho2' : OI 0 w3 u2 (nZ D2) := OI.mono ho2 (by omega)
  have hR3 := H2.out.2.1.below hb3
  have hB3 := H2.out.2.2.trans (hb3.mono H2.out.2.2.size)
  have hs1 := (H2.out.1.below hb3).sl (by rw [nZ_len, HL1.out]; omega)
  have hs2 := ho2'.sl (by rw [nZ_len, HL2.out]; omega)
  have HPP := hid (HPR.out w3 u1 u2 hs1 hs2)
  have H3 := hid (And.intro hR3 hB3)
  clear k0 k1
  have k0 := hR3.cell 0
  have k1 := hR3.cell 1
  simp only [List.getElem?_cons_zero, List.getElem?_cons_succ] at k0 k1
  clear ho2 ho2' hb3 H2 HD2 hs1 hs2 hR3 hB3 HPR
  go_wp2_with fail
  refine HPP.out.mono ?_
  rintro _ w4 ⟨⟨z, rfl, ho⟩, hb4⟩
  obtain ⟨g9, c9, e9, hg9, hg9'⟩ := ho.form (by rw [nZ_len, HNL.out]; omega)
  rw [nZ_len, HNL.out] at e9
  subst e9
  have hR4 := H3.out.1.below hb4
  have hB4 := H3.out.2.trans (hb4.mono H3.out.2.size)
  have hg9w : w.heap.size < g9 := by have := H3.out.1.lt; omega
  have H9 := hid (And.intro (ho.mono (show w.heap.size ≤ _ by have := H3.out.2.size; omega)) (And.intro hR4 hB4))
  have hN2 : (N : Int) + (N : Int) = ((2 * N : Nat) : Int) := by omega
  have hcast : Hid (((2 * N : Nat) : Int) - 1 = ((2 * N - 1 : Nat) : Int)) := hid (by omega)
  clear k0 k1 hN2 ho hb4 hR4 hB4 HPP H3
  go_wp2_with fail
  go_loopw [10, 11, 12, 13] (fun x _ _ _ wr => ∃ s top : Nat, s + top = 2 * N - 1 ∧ N ≤ top + 1 ∧ x = .int .i64 top ∧ OI w.heap.size wr (.slice (some ⟨g9, 0, none⟩) (2 * N) c9) (nZ (O s)) ∧ Arr wr w.heap.size 24 [.int .i64 (P : Int), .int .i64 (N : Int), .slice (some ⟨bL, oL, none⟩) N lc] ∧ Below w.heap.size w wr) (fun x _ _ _ _ => (intOf x).toNat)
  case atStart => exact ⟨0, 2 * N - 1, by omega, by omega, by rw [← hcast.out]; simp, by rw [HO0.out]; exact H9.out.1, H9.out.2.1, H9.out.2.2⟩
  case round =>
    clear H9
    obtain ⟨s, top, hst, htd, rfl, ho, hR, hb⟩ := hrel
    have k1 := hR.cell 1
    simp only [List.getElem?_cons_zero, List.getElem?_cons_succ] at k1
    by_cases hge : N ≤ top
    · have hks : 2 * N - 1 - s = top := by omega
      have hon := HON.out s
      rw [hks] at hon
      have hlen := HLEN.out s
      have hlt := HLT.out s
      have htl := hlt top
      have hcell := ho.cell top (by rw [nZ_len, hlen]; omega)
      rw [nZ_getD] at hcell
      have hfz := ho.frozen top
      have hst2 := ho.stored top ((0 : Nat) : Int)
      rw [nZ_set] at hst2
      have hst3 : OI w.heap.size (wr.setCell ⟨g9, top, none⟩ (.int .i64 0)) (.slice (some ⟨g9, 0, none⟩) (2 * N) c9) (nZ ((O s).set top 0)) ∧ wr.grownBy (wr.setCell ⟨g9, top, none⟩ (.int .i64 0)) (some g9) := hst2
      have HW := hid (And.intro hst3.1 (And.intro (hR.kept hst3.2 (fun e => by have := Option.some.inj e; omega)) (hb.grown hst3.2 hb.size (fun k h => by cases h; omega))))
      have HONS := hid hon
      have hi0 := HI0.out ((O s).getD top 0) (top - N) ((O s).set top 0)
      have HIL2 := hid (fun i => (HIL.out ((O s).getD top 0) (top - N) ((O s).set top 0) i).trans (show ((O s).set top 0).length = 2 * N by rw [List.length_set, hlen]))
      have HIT2 := hid (HIT.out ((O s).getD top 0) (top - N) ((O s).set top 0) (getD_set_lt hlt (by omega)))
      have HIN2 := hid (HIN.out ((O s).getD top 0) (top - N) ((O s).set top 0))
      have hge2 : (N : Int) ≤ (top : Int) := by omega
      have htopK : (top : Int) < ((2 * N : Nat) : Int) := by omega
      have hsub : (top : Int) - (N : Int) = ((top - N : Nat) : Int) := by omega
      have hbd : top - N + N = top := by omega
      have htop2 : top < 2 * N := by omega
      have HI0' := hid hi0
      clear ho hb hlt hon hi0 hst2 hst3 hR
      generalize hI : rdI P ((O s).getD top 0) (top - N) low ((O s).set top 0) = I at *
      clear hI
      generalize (O s).getD top 0 = t at *
      generalize hbse : top - N = base at *
      clear hbse
      go_wp2
      clear k1 hfz hcell
      go_loopw [12, 13] (fun i _ wq => ∃ j : Nat, j ≤ N ∧ i = .int .i64 j ∧ OI w.heap.size wq (.slice (some ⟨g9, 0, none⟩) (2 * N) c9) (nZ (I j)) ∧ Arr wq w.heap.size 24 [.int .i64 (P : Int), .int .i64 (N : Int), .slice (some ⟨bL, oL, none⟩) N lc] ∧ Below w.heap.size w wq) (fun i _ _ => N - (intOf i).toNat)
      case atStart => exact ⟨0, by omega, rfl, by rw [HI0'.out]; exact HW.out.1, HW.out.2.1, HW.out.2.2⟩
      case round =>
        clear HW
        obtain ⟨j, hj, rfl, ho, hR, hb⟩ := hrel
        have k0 := hR.cell 0
        have k1 := hR.cell 1
        have k2 := hR.cell 2
        simp only [List.getElem?_cons_zero, List.getElem?_cons_succ] at k0 k1 k2
        by_cases hjl : j < N
        · have hlI := HIL2.out j
          have hin := HIN2.out j
          have hce := ho.cell (base + j) (by rw [nZ_len, hlI]; omega)
          rw [nZ_getD] at hce
          have hfz := ho.frozen (base + j)
          have hcd := (hb.cell (p := ⟨bL, oL + j, none⟩) hbL).trans (HCL.out j hjl)
          have hst2 := OI.stored (w := wr.drew) ho (base + j) ((rN P ((I j).getD (base + j) 0) t (low.getD j 0) : Nat) : Int)
          rw [nZ_set, ← hin] at hst2
          have hq1 := HIT2.out j (base + j)
          have hq2 := HDL.out j
          have hm : t * low.getD j 0 ≤ 4096 := Nat.mul_le_mul (show t ≤ 64 by omega) (show _ ≤ 64 by omega)
          have HX := hid (And.intro hst2.1 (And.intro (Arr.kept (w := wr.drew) hR hst2.2 (fun e => by have := Option.some.inj e; omega)) ((hb.drew).grown hst2.2 hb.size (fun k h => by cases h; omega))))
          have n4 := HRS.out ((I j).getD (base + j) 0) t (low.getD j 0)
          have n2 : (t : Int) * ((low.getD j 0 : Nat) : Int) = ((t * low.getD j 0 : Nat) : Int) := (Int.natCast_mul _ _).symm
          have n6 := HTB.out ((((I j).getD (base + j) 0 : Nat) : Int) - ((t * low.getD j 0 : Nat) : Int))
          have n5 : (base : Int) + (j : Int) = ((base + j : Nat) : Int) := by omega
          have hl1 : rN P ((I j).getD (base + j) 0) t (low.getD j 0) < P := rN_lt (by omega)
          have hbK : ((base + j : Nat) : Int) < ((2 * N : Nat) : Int) := by omega
          have hjd : (j : Int) < (N : Int) := by omega
          have hbj2 : base + j < 2 * N := by omega
          have hcd : wr.drew.cell? ⟨bL, oL + j, none⟩ = _ := hcd
          have hce : wr.drew.cell? ⟨g9, base + j, none⟩ = _ := hce
          have hfz : wr.drew.frozen? ⟨g9, base + j, none⟩ = false := hfz
          have d0 : wr.drew.cell? ⟨w.heap.size, 0, none⟩ = _ := k0
          have d2 : wr.drew.cell? ⟨w.heap.size, 2, none⟩ = _ := k2
          clear ho hb hst2 hin hlI hR k0 k2
          generalize (I j).getD (base + j) 0 = av at *
          generalize low.getD j 0 = dvv at *
          generalize rN P av t dvv = r at *
          generalize hat : base + j = at' at *
          have HAT := hid hat
          clear hat
          generalize t * dvv = prod at *
          generalize hx : ((av : Int) - (prod : Int)).tmod (P : Int) = x at *
          go_wp2
          go_region
          go_wp2
          go_roundw
          case rel => exact ⟨j + 1, by omega, by go_num, HX.out.1, HX.out.2.1, HX.out.2.2⟩
          case measure => simp [intOf] <;> omega
        · obtain rfl : N = j := by omega
          have HX := hid (And.intro ho (And.intro hR hb))
          have htop1 : 1 ≤ top := by omega
          clear ho hb hR k0 k2
          go_wp2
          go_roundw
          case rel => exact ⟨s + 1, top - 1, by omega, by omega, by go_num, by rw [HONS.out]; exact HX.out.1, HX.out.2.1, HX.out.2.2⟩
          case measure => simp [intOf] <;> omega
    · have hs : s = N := by omega
      subst hs
      have hlt2 : ¬ (s : Int) ≤ (top : Int) := by omega
      have hlen := HLEN.out s
      have hbs := hb.size
      have HB := hid hb
      have k0 := hR.cell 0
      simp only [List.getElem?_cons_zero] at k0
      have hcap := ho.cap
      have hcap2 : s ≤ c9 := by omega
      have hcap3 : (s : Int) ≤ (c9 : Int) := by omega
      have htk := ho.take s (by omega)
      rw [nZ_take] at htk
      have hlt8 := getD_take_lt (HLT.out s) s
      have hlt9 : ((O s).take s).length = s := by rw [List.length_take, hlen]; omega
      have HC := hid (fun (w1 : World) (hb1 : Below wr.heap.size wr w1) => Number_ok P _ ((O s).take s) w1 ((htk.below hb1).sl (by rw [nZ_len, hlt9]; omega)) hP hP2 (by rw [hlt9]; omega) (by rw [hlt9]; exact hq) hlt8)
      rw [← HQ.out] at HC
      have HBR := hid (Below.refl wr.heap.size wr)
      have d0 : wr.drew.cell? ⟨w.heap.size, 0, none⟩ = _ := k0
      have d1 : wr.drew.cell? ⟨w.heap.size, 1, none⟩ = _ := k1
      clear ho hR hb htk hlt8 hlt9 hlen k0
      go_wp2
      go_region_with ((go_at_call 45; refine (HC.out _ HBR.out.drew).mono ?_; rintro e w5 ⟨rfl, hb5⟩))
      all_goals
        go_wp2
        go_ret
        exact ⟨rfl, HB.out.drew.trans (hb5.mono HB.out.size)⟩
end Go.Proofs.YthdlhfgeminoiaaDoor
