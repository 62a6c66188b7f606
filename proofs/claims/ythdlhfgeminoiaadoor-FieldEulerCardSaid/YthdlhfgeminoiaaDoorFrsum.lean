/-
  The walk over parterreref1.Sum. Conditions: the numbers fit.
-/
import Derived.Test.YthdlhfgeminoiaaDoorFrnum
namespace Go.Proofs.YthdlhfgeminoiaaDoor
set_option linter.unusedVariables false
open Go.RowKit

/-- Sums of digits. -/
def adM (m P : Nat) (a b : List Nat) (j : Nat) : List Nat := (List.range m).map fun i => if i < j then (a.getD i 0 + b.getD i 0) % P else a.getD i 0
theorem adM_len (m P : Nat) (a b : List Nat) (j : Nat) : (adM m P a b j).length = m := by simp [adM]
theorem adM_get {m P : Nat} {a b : List Nat} {j i : Nat} (h : i < m) : (adM m P a b j).getD i 0 = if i < j then (a.getD i 0 + b.getD i 0) % P else a.getD i 0 := by
  rw [List.getD_eq_getElem?_getD, adM, List.getElem?_map, List.getElem?_range h]
  rfl
theorem adM_zero {m P : Nat} {a b : List Nat} (h : a.length = m) : adM m P a b 0 = a := by
  apply List.ext_getElem
  · rw [adM_len, h]
  · intro i h1 h2
    have := adM_get (m := m) (P := P) (a := a) (b := b) (j := 0) (i := i) (by omega)
    rw [if_neg (by omega), List.getD_eq_getElem?_getD, List.getD_eq_getElem?_getD, List.getElem?_eq_getElem h1, List.getElem?_eq_getElem h2] at this
    exact this
theorem adM_succ {m P : Nat} {a b : List Nat} {j : Nat} (hj : j < m) : adM m P a b (j + 1) = (adM m P a b j).set j ((a.getD j 0 + b.getD j 0) % P) := by
  apply List.ext_getElem
  · simp [adM_len]
  · intro i h1 h2
    rw [adM_len] at h1
    simp only [adM, List.getElem_map, List.getElem_range, List.getElem_set]
    by_cases e : j = i
    · subst e; simp
    · by_cases e2 : i < j
      · rw [if_pos (by omega), if_neg e, if_pos e2]
      · rw [if_neg (by omega), if_neg e, if_neg e2]
theorem adM_lt {m P : Nat} {a b : List Nat} (hP : 1 ≤ P) (ha : ∀ j, a.getD j 0 < P) (n : Nat) : ∀ j, (adM m P a b n).getD j 0 < P := by
  intro j
  by_cases h : j < m
  · rw [adM_get h]
    split
    · exact Nat.mod_lt _ (by omega)
    · exact ha j
  · rw [List.getD_eq_getElem?_getD, List.getElem?_eq_none (by rw [adM_len]; omega)]
    exact hP
def sumF (P K x y : Nat) : Nat := numL P (adM K P (dgL P x K) (dgL P y K) K)
theorem sum_add {P K x y : Nat} (hK : K ≤ 6) : sumF P K x y = addF P K x y := by
  unfold sumF addF
  congr 1
  apply List.ext_getElem
  · simp [adM_len, adL_len]; omega
  · intro i h1 h2
    rw [adM_len] at h1
    simp only [List.getElem_take, adM, adL, List.getElem_map, List.getElem_range, dgL]
    rw [if_pos h1, if_pos (by omega)]
    simp only [List.getD_eq_getElem?_getD, List.getElem?_map]
    rw [List.getElem?_range h1, List.getElem?_range (by omega)]
theorem dgL_le {P : Nat} (hP : 2 ≤ P) (n m : Nat) : ∀ j, (dgL P n m).getD j 0 < P := dgL_lt hP m

set_option maxHeartbeats 1000000 in
set_option maxRecDepth 100000 in
theorem Sum_ok (P K x y : Nat) (u : Value) (w : World) (hu : ∃ a n c, u = .slice a n c) (hP : 2 ≤ P) (hP2 : P ≤ 64) (hK : 1 ≤ K) (hK6 : K ≤ 6) (hq : P ^ K ≤ 64) (hx : x < 64) (hy : y < 64) :
    Calls Tryd.prog 18 #[fldV P K u, .int .i64 x, .int .i64 y] w fun e w' => e = .returned (.int .i64 (sumF P K x y)) ∧ Below w.heap.size w w' := by
  obtain ⟨xs, nn, c, rfl⟩ := hu
  have HD1 := hid (fun w1 => Digits_ok P x K w1 (by omega) (by omega) (by omega) (by omega))
  have HD2 := hid (fun w1 => Digits_ok P y K w1 (by omega) (by omega) (by omega) (by omega))
  have hd1 := dgL_le hP x K
  have hd2 := dgL_le hP y K
  have hl1 := dgL_len P x K
  have hl2 := dgL_len P y K
  have HS := hid (fun j (h : j < K) => adM_succ (m := K) (P := P) (a := dgL P x K) (b := dgL P y K) h)
  have HG := hid (fun j (h : j < K) => (adM_get (m := K) (P := P) (a := dgL P x K) (b := dgL P y K) (j := j) (i := j) h).trans (if_neg (by omega)))
  have HL := hid (adM_len K P (dgL P x K) (dgL P y K))
  have H0 := hid (adM_zero (m := K) (P := P) (a := dgL P x K) (b := dgL P y K) hl1)
  have HLT := hid (adM_lt (m := K) (P := P) (a := dgL P x K) (b := dgL P y K) (by omega) hd1 K)
  have HQ : Hid (sumF P K x y = numL P (adM K P (dgL P x K) (dgL P y K) K)) := hid rfl
  have hR : Arr (w.alloc (.cells #[.int .i64 (P : Int), .int .i64 (K : Int), .slice xs nn c] 24)) w.heap.size 24 [.int .i64 (P : Int), .int .i64 (K : Int), .slice xs nn c] := Arr.new _ _ _
  have hb := ((Below.refl w.heap.size w).alloc (Nat.le_refl _) (.cells #[.int .i64 (P : Int), .int .i64 (K : Int), .slice xs nn c] 24))
  have HW := hid (And.intro hR hb)
  have HL2 := hid hl2
  have HLT1 := hid hd1
  have HLT2 := hid hd2
  clear hR hb hd1 hd2 hl1 hl2
  obtain ⟨D1, hD1⟩ : ∃ D1, D1 = dgL P x K := ⟨_, rfl⟩
  obtain ⟨D2, hD2⟩ : ∃ D2, D2 = dgL P y K := ⟨_, rfl⟩
  rw [← hD1] at HD1 HS HG HL H0 HLT HQ HLT1
  rw [← hD2] at HD2 HS HG HL H0 HLT HQ HL2 HLT2
  have HL1 : Hid (D1.length = K) := hid (by rw [hD1, dgL_len])
  have HDN1 : Hid (∀ j, (nZ D1).getD j 0 = ((D1.getD j 0 : Nat) : Int)) := hid (fun j => nZ_getD _ _)
  have HDN2 : Hid (∀ j, (nZ D2).getD j 0 = ((D2.getD j 0 : Nat) : Int)) := hid (fun j => nZ_getD _ _)
  clear hD1 hD2
  unfold fldV
  go_enter Tryd.func18, Tryd.ntmps18
  go_wp2_with fail
  refine (HD1.out _).mono ?_
  rintro _ w2 ⟨⟨u1, rfl, ho1⟩, hb2⟩
  have ho1' : OI (w.heap.size + 1) w2 u1 (nZ D1) := by have := ho1; rw [World.size_alloc] at this; exact this
  have hB2 := HW.out.2.trans (hb2.mono HW.out.2.size)
  have hR2 := HW.out.1.below hb2
  have H2 := hid (And.intro ho1' (And.intro hR2 hB2))
  have k0 := hR2.cell 0
  have k1 := hR2.cell 1
  simp only [List.getElem?_cons_zero, List.getElem?_cons_succ] at k0 k1
  clear ho1 ho1' hb2 hR2 hB2 HW HD1
  go_wp2_with fail
  refine (HD2.out _).mono ?_
  rintro _ w3 ⟨⟨u2, rfl, ho2⟩, hb3⟩
  have ho2' : OI w2.heap.size w3 u2 (nZ D2) := ho2
  obtain ⟨g1, c1, e1, hg1, hg1'⟩ := H2.out.1.form (by rw [nZ_len, HL1.out]; omega)
  obtain ⟨g2, c2, e2, hg2, hg2'⟩ := ho2'.form (by rw [nZ_len, HL2.out]; omega)
  rw [nZ_len, HL1.out] at e1
  rw [nZ_len, HL2.out] at e2
  subst e1 e2
  have H3 := hid (And.intro (H2.out.1.below hb3) (And.intro (ho2'.mono (show w.heap.size + 1 ≤ _ by have := H2.out.2.2.size; omega)) (And.intro (H2.out.2.1.below hb3) (H2.out.2.2.trans (hb3.mono H2.out.2.2.size)))))
  have hg12 : g1 < g2 := by omega
  clear k0 k1 ho2 ho2' hb3 H2 HD2
  go_wp2
  go_loopw [9] (fun i wr => ∃ j : Nat, j ≤ K ∧ i = .int .i64 j ∧ OI (w.heap.size + 1) wr (.slice (some ⟨g1, 0, none⟩) K c1) (nZ (adM K P D1 D2 j)) ∧ OI (w.heap.size + 1) wr (.slice (some ⟨g2, 0, none⟩) K c2) (nZ D2) ∧ Arr wr w.heap.size 24 [.int .i64 (P : Int), .int .i64 (K : Int), .slice xs nn c] ∧ Below w.heap.size w wr) (fun i _ => K - (intOf i).toNat)
  case atStart => exact ⟨0, by omega, rfl, by rw [H0.out]; exact H3.out.1, H3.out.2.1, H3.out.2.2.1, H3.out.2.2.2⟩
  case round =>
    clear H3
    obtain ⟨j, hj, rfl, ho1, ho2, hR, hb⟩ := hrel
    have hlI := HL.out j
    have k0 := hR.cell 0
    simp only [List.getElem?_cons_zero] at k0
    by_cases hjl : j < K
    · have hs := HS.out j hjl
      have hce := ho1.cell j (by rw [nZ_len]; omega)
      rw [nZ_getD, HG.out j hjl] at hce
      have hfz := ho1.frozen j
      have hcd := ho2.cell j (by rw [nZ_len, HL2.out]; omega)
      rw [HDN2.out] at hcd
      have hst2 := OI.stored (w := wr.drew) ho1 j (((D1.getD j 0 + D2.getD j 0) % P : Nat) : Int)
      rw [nZ_set, ← hs] at hst2
      have hq1 := HLT1.out j
      have hq2 := HLT2.out j
      have hgl1 := (ho1.lt g1 rfl).1
      have HX := hid (And.intro hst2.1 (And.intro (OI.kept (w := wr.drew) ho2 hst2.2 (.inr (by simp only [Value.ownBlock]; intro e; have := Option.some.inj e; omega))) (And.intro (Arr.kept (w := wr.drew) hR hst2.2 (fun e => by have := Option.some.inj e; omega)) ((hb.drew).grown hst2.2 hb.size (fun k h => by cases h; omega)))))
      have n3 : ((D1.getD j 0 : Nat) : Int) + ((D2.getD j 0 : Nat) : Int) = ((D1.getD j 0 + D2.getD j 0 : Nat) : Int) := by omega
      have n4 : ((D1.getD j 0 + D2.getD j 0 : Nat) : Int).tmod (P : Int) = (((D1.getD j 0 + D2.getD j 0) % P : Nat) : Int) := (Int.ofNat_tmod _ _).symm
      have hjK : (j : Int) < (K : Int) := by omega
      have hcd : wr.drew.cell? ⟨g2, j, none⟩ = _ := hcd
      have hce : wr.drew.cell? ⟨g1, j, none⟩ = _ := hce
      have hfz : wr.drew.frozen? ⟨g1, j, none⟩ = false := hfz
      have k0 : wr.drew.cell? ⟨w.heap.size, 0, none⟩ = _ := k0
      clear ho1 ho2 hR hb hst2 hs hlI
      generalize D1.getD j 0 = av at *
      generalize D2.getD j 0 = dvv at *
      have hsum : av + dvv ≤ 128 := by omega
      generalize hsm : av + dvv = sm at *
      clear hsm
      generalize sm % P = r at *
      go_wp2
      go_region
      go_wp2
      go_roundw
      case rel => exact ⟨j + 1, by omega, by go_num, HX.out⟩
      case measure => simp [intOf] <;> omega
    · obtain rfl : K = j := by omega
      have HB := hid hb
      have HC := hid (Number_ok P _ (adM K P D1 D2 K) wr (ho1.sl (by rw [nZ_len, hlI]; omega)) hP hP2 (by rw [hlI]; omega) (by rw [hlI]; exact hq) HLT.out)
      rw [← HQ.out] at HC
      clear ho1 ho2 hR hb hlI
      go_wp2_with fail
      refine HC.out.mono ?_
      rintro _ w5 ⟨rfl, hb5⟩
      have HB5 := hid (HB.out.trans (hb5.mono HB.out.size))
      go_wp2
      go_ret
      exact ⟨rfl, HB5.out⟩
end Go.Proofs.YthdlhfgeminoiaaDoor
