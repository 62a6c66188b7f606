/-
  The walks over parterreref1.Number, Size and In. Conditions: the numbers fit; the slice can be read.
-/
import Derived.Test.YthdlhfgeminoiaaDoorFok
namespace Go.Proofs.YthdlhfgeminoiaaDoor
set_option linter.unusedVariables false
open Go.RowKit

set_option maxHeartbeats 1000000 in
set_option maxRecDepth 100000 in
theorem Number_ok (P : Nat) (v : Value) (l : List Nat) (w : World) (hv : Sl w v (nZ l)) (hP : 2 ≤ P) (hP2 : P ≤ 64) (hl : l.length ≤ 20) (hq : P ^ l.length ≤ 64) (hal : ∀ j, l.getD j 0 < P) :
    Calls Tryd.prog 45 #[v, .int .i64 P] w fun e w' => e = .returned (.int .i64 (numL P l)) ∧ Below w.heap.size w w' := by
  have HD := hid (fun i (hi : i < l.length) => num_drop (P := P) (l := l) (i := i) hi)
  have HE : Hid (numL P (l.drop l.length) = 0) := hid (by rw [List.drop_eq_nil_of_le (by omega)]; rfl)
  have H0 : Hid (numL P (l.drop 0) = numL P l) := hid rfl
  have HL := hid hal
  have HBD : Hid (∀ i, i ≤ l.length → numL P (l.drop i) ≤ 64) := hid (fun i hi => by
    have h1 := num_lt (l.drop i) (getD_drop_lt hal i)
    have h2 : P ^ (l.drop i).length ≤ P ^ l.length := Nat.pow_le_pow_right (by omega) (by rw [List.length_drop]; omega)
    omega)
  obtain ⟨f, hf⟩ : ∃ f : Nat → Nat, f = fun i => numL P (l.drop i) := ⟨_, rfl⟩
  have HF : Hid (∀ i, numL P (l.drop i) = f i) := hid (fun i => by rw [hf])
  obtain ⟨a, c, N, rfl, hN, hl1, hl2⟩ := hv.open
  have hNl : N = l.length := by rw [← hN.out, nZ_len]
  rw [← hNl] at HD HE HBD hl
  have HDN : Hid (∀ j, (nZ l)[j]?.getD 0 = ((l.getD j 0 : Nat) : Int)) := hid (fun j => by rw [← nZ_getD, List.getD_eq_getElem?_getD])
  have HBB := hid (Below.refl w.heap.size w)
  have HL2 := hid hl2
  generalize numL P l = R at *
  clear hf hq hNl hv hal hl2
  go_enter Tryd.func45, Tryd.ntmps45
  go_wp2
  go_loopw [5, 6] (fun m i wr => ∃ j : Nat, j ≤ N ∧ i = .int .i64 ((j : Int) - 1) ∧ m = .int .i64 (f j : Nat) ∧ Below w.heap.size w wr) (fun _ i _ => (intOf i + 1).toNat)
  case atStart => exact ⟨N, Nat.le_refl _, rfl, by rw [← HF.out, HE.out]; rfl, HBB.out⟩
  case round =>
    obtain ⟨j, hj, rfl, rfl, hb⟩ := hrel
    have HW := hid hb
    by_cases hpos : 1 ≤ j
    · have hge : (0 : Int) ≤ (j : Int) - 1 := by omega
      have hd := HD.out (j - 1) (by omega)
      rw [show j - 1 + 1 = j by omega, HF.out, HF.out] at hd
      obtain ⟨b, off, rfl, hbl, hc⟩ := HL2.out (by omega)
      have hce := (hb.cell (p := ⟨b, off + (j - 1), none⟩) hbl).trans (hc (j - 1) (by omega))
      rw [HDN.out] at hce
      have hx := HL.out (j - 1)
      have hbd := HBD.out j hj
      rw [HF.out] at hbd
      have hbd2 := HBD.out (j - 1) (by omega)
      rw [HF.out] at hbd2
      have n0 : (j : Int) - 1 = ((j - 1 : Nat) : Int) := by omega
      have n1 : (f j : Int) * (P : Int) = ((P * f j : Nat) : Int) := by rw [Int.natCast_mul, Int.mul_comm]
      have hm : P * f j ≤ 4096 := Nat.mul_le_mul hP2 hbd
      have n2 : ((P * f j : Nat) : Int) + ((l.getD (j - 1) 0 : Nat) : Int) = ((f (j - 1) : Nat) : Int) := by rw [hd]; omega
      have hjN : ((j - 1 : Nat) : Int) < (N : Int) := by omega
      clear hb hd hc
      rw [n0]
      obtain ⟨i, hi⟩ : ∃ i, i = j - 1 := ⟨_, rfl⟩
      rw [← hi] at n0 n2 hjN hx hbd2 hce ⊢
      have hij : j = i + 1 := by omega
      clear hi
      subst hij
      generalize P * f (i + 1) = pf at *
      generalize f (i + 1) = y at *
      obtain ⟨z, hz⟩ : ∃ z, z = f i := ⟨_, rfl⟩
      rw [← hz] at n2 hbd2
      have HZ := hid hz
      clear hz
      generalize l.getD i 0 = av at *
      go_wp2
      go_roundw
      case rel => exact ⟨i, by omega, by go_num, by rw [HZ.out], HW.out⟩
      case measure => simp [intOf] <;> omega
    · obtain rfl : j = 0 := by omega
      have HR : Hid (f 0 = R) := hid (by rw [← HF.out]; exact H0.out)
      clear hb
      go_wp2
      go_ret
      exact ⟨by rw [← HR.out]; rfl, HW.out⟩

set_option maxHeartbeats 1000000 in
set_option maxRecDepth 100000 in
theorem Size_any (p k : Int) (u : Value) (low : List Int) (w : World) (ip : I64 p) (ik : I64 k) (hu : Sl w u low) :
    Calls Tryd.prog 44 #[fldV p k u] w fun e w' => e = .returned (.int .i64 (ordF p k)) ∧ Below w.heap.size w w' := by
  have HO := hid (fun w1 => OrderOf_any p k w1 ip ik)
  obtain ⟨a, c, e1⟩ := hu.len
  subst e1
  have HB := hid ((Below.refl w.heap.size w).alloc (Nat.le_refl _) (.cells #[.int .i64 p, .int .i64 k, .slice a low.length c] 24))
  generalize low.length = L at *
  clear hu
  unfold fldV
  go_enter Tryd.func44, Tryd.ntmps44
  go_wp2_with fail
  refine (HO.out _).mono ?_
  rintro e w2 ⟨rfl, rfl⟩
  go_wp2
  go_ret
  exact ⟨rfl, HB.out⟩

set_option maxHeartbeats 1000000 in
set_option maxRecDepth 100000 in
theorem In_any (p k x : Int) (u : Value) (low : List Int) (w : World) (ip : I64 p) (ik : I64 k) (ix : I64 x) (hu : Sl w u low) :
    Calls Tryd.prog 17 #[fldV p k u, .int .i64 x] w fun e w' => e = .returned (.bool (!(ofF (ordF p k) x))) ∧ Below w.heap.size w w' := by
  have HO := hid (fun (w1 : World) (hb : Below w.heap.size w w1) => Size_any p k u low w1 ip ik (hu.below hb))
  obtain ⟨a, c, e1⟩ := hu.len
  subst e1
  have HB := hid ((Below.refl w.heap.size w).alloc (Nat.le_refl _) (.cells #[.int .i64 p, .int .i64 k, .slice a low.length c] 24))
  have h64 : ordF p k ≤ 64 := by unfold ordF; split <;> omega
  generalize low.length = L at *
  clear hu
  unfold fldV at *
  unfold ofF
  generalize ordF p k = Q at *
  go_enter Tryd.func17, Tryd.ntmps17
  go_wp2_with fail
  refine (HO.out _ HB.out).mono ?_
  rintro e w2 ⟨rfl, hb2⟩
  have HB2 := hid (HB.out.trans (hb2.mono HB.out.size))
  by_cases h0 : x < 0
  · have hn : ¬ (0 : Int) ≤ x := by omega
    go_wp2
    go_ret
    exact ⟨by simp, HB2.out⟩
  · have hn : (0 : Int) ≤ x := by omega
    by_cases h1 : x < (Q : Int)
    · go_wp2
      go_ret
      exact ⟨by simp [h0, h1], HB2.out⟩
    · go_wp2
      go_ret
      exact ⟨by simp [h1], HB2.out⟩
end Go.Proofs.YthdlhfgeminoiaaDoor
