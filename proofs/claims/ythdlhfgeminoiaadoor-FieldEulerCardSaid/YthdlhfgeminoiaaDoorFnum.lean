/-
  The walk over field.room.number. Condition: the numbers fit.
-/
import Derived.Test.YthdlhfgeminoiaaDoorFwith
namespace Go.Proofs.YthdlhfgeminoiaaDoor
set_option linter.unusedVariables false
open Go.RowKit

theorem numL_le {P : Nat} (hP : 1 ≤ P) : ∀ (l : List Nat), (∀ j, l.getD j 0 < P) → numL P l < P ^ l.length := fun l h => num_lt l h
theorem getD_take_lt {P : Nat} {l : List Nat} (h : ∀ j, l.getD j 0 < P) (k : Nat) : ∀ j, (l.take k).getD j 0 < P := by
  intro j
  have h0 := h 0
  rw [List.getD_eq_getElem?_getD, List.getElem?_take]
  split
  · rw [← List.getD_eq_getElem?_getD]; exact h j
  · simp; omega
theorem getD_drop_lt {P : Nat} {l : List Nat} (h : ∀ j, l.getD j 0 < P) (k : Nat) : ∀ j, (l.drop k).getD j 0 < P := by
  intro j
  rw [List.getD_eq_getElem?_getD, List.getElem?_drop, ← List.getD_eq_getElem?_getD]
  exact h _
theorem num_drop {P : Nat} {l : List Nat} {i : Nat} (hi : i < l.length) : numL P (l.drop i) = l.getD i 0 + P * numL P (l.drop (i + 1)) := by
  rw [List.drop_eq_getElem_cons hi, numL, List.getD_eq_getElem?_getD, List.getElem?_eq_getElem hi]
  rfl

set_option maxHeartbeats 1000000 in
set_option maxRecDepth 100000 in
theorem number_ok (P K Q : Nat) (u : Value) (a : List Nat) (w : World) (hu : ∃ x n c, u = .slice x n c) (hP : 2 ≤ P) (hP2 : P ≤ 64) (hK : 1 ≤ K) (hK6 : K ≤ 6) (hq : P ^ K ≤ 64) (ha : a.length = 7) (hal : ∀ j, a.getD j 0 < P) :
    Calls Tryd.prog 53 #[rmV P K u Q, .agg (pv a).toArray] w fun e w' => e = .returned (.int .i64 (numL P (a.take K))) ∧ Below w.heap.size w w' := by
  obtain ⟨x, n, c, rfl⟩ := hu
  have hR : Arr ((w.alloc (.cells #[.int .i64 (P : Int), .int .i64 (K : Int), .slice x n c, .int .i64 (Q : Int)] 57)).alloc (.cells (pv a).toArray 50)) w.heap.size 57 [.int .i64 (P : Int), .int .i64 (K : Int), .slice x n c, .int .i64 (Q : Int)] := (Arr.new w _ [.int .i64 (P : Int), .int .i64 (K : Int), .slice x n c, .int .i64 (Q : Int)]).alloc _
  have hA : Arr ((w.alloc (.cells #[.int .i64 (P : Int), .int .i64 (K : Int), .slice x n c, .int .i64 (Q : Int)] 57)).alloc (.cells (pv a).toArray 50)) (w.heap.size + 1) 50 (pv a) := Arr.at1
  have hb := ((Below.refl w.heap.size w).alloc (Nat.le_refl _) (.cells #[.int .i64 (P : Int), .int .i64 (K : Int), .slice x n c, .int .i64 (Q : Int)] 57)).alloc (by simp) (.cells (pv a).toArray 50)
  have HS := hid (And.intro hR (And.intro hA hb))
  have hlK : (a.take K).length = K := by rw [List.length_take, ha]; omega
  have HD := hid (fun i (hi : i < K) => num_drop (P := P) (l := a.take K) (i := i) (by omega))
  have HG : Hid (∀ i, i < K → (a.take K).getD i 0 = a.getD i 0) := hid (fun i hi => by rw [List.getD_eq_getElem?_getD, List.getElem?_take, if_pos hi, ← List.getD_eq_getElem?_getD])
  have HE : Hid (numL P ((a.take K).drop K) = 0) := hid (by rw [List.drop_eq_nil_of_le (by omega)]; rfl)
  have H0 : Hid (numL P ((a.take K).drop 0) = numL P (a.take K)) := hid rfl
  have HL := hid hal
  have HBD : Hid (∀ i, i ≤ K → numL P ((a.take K).drop i) ≤ 64) := hid (fun i hi => by
    have h1 := num_lt ((a.take K).drop i) (getD_drop_lt (getD_take_lt hal K) i)
    have h2 : P ^ ((a.take K).drop i).length ≤ P ^ K := Nat.pow_le_pow_right (by omega) (by rw [List.length_drop]; omega)
    omega)
  obtain ⟨f, hf⟩ : ∃ f : Nat → Nat, f = fun i => numL P ((a.take K).drop i) := ⟨_, rfl⟩
  have HF : Hid (∀ i, numL P ((a.take K).drop i) = f i) := hid (fun i => by rw [hf])
  generalize numL P (a.take K) = R at *
  clear hf hR hA hb hlK hal hq
  unfold rmV
  go_enter Tryd.func53, Tryd.ntmps53
  go_wp2
  generalize (w.alloc (.cells #[.int .i64 (P : Int), .int .i64 (K : Int), .slice x n c, .int .i64 (Q : Int)] 57)).alloc (.cells (pv a).toArray 50) = w0 at *
  go_loopw [5, 6] (fun m i wr => ∃ j : Nat, j ≤ K ∧ i = .int .i64 ((j : Int) - 1) ∧ m = .int .i64 (f j : Nat) ∧ Arr wr w.heap.size 57 [.int .i64 (P : Int), .int .i64 (K : Int), .slice x n c, .int .i64 (Q : Int)] ∧ Arr wr (w.heap.size + 1) 50 (pv a) ∧ Below w.heap.size w wr) (fun _ i _ => (intOf i + 1).toNat)
  case atStart => exact ⟨K, Nat.le_refl _, rfl, by rw [← HF.out, HE.out]; rfl, HS.out.1, HS.out.2.1, HS.out.2.2⟩
  case round =>
    clear HS
    obtain ⟨j, hj, rfl, rfl, hR, hA, hb⟩ := hrel
    have k0 := hR.cell 0
    simp only [List.getElem?_cons_zero] at k0
    have HW := hid (And.intro hR (And.intro hA hb))
    by_cases hpos : 1 ≤ j
    · have hge : (0 : Int) ≤ (j : Int) - 1 := by omega
      have hd := HD.out (j - 1) (by omega)
      rw [show j - 1 + 1 = j by omega, HG.out (j - 1) (by omega), HF.out, HF.out] at hd
      have hce := hA.cell (j - 1)
      rw [pv_get (by omega)] at hce
      have hx := HL.out (j - 1)
      have hbd := HBD.out j hj
      rw [HF.out] at hbd
      have hbd2 := HBD.out (j - 1) (by omega)
      rw [HF.out] at hbd2
      have n0 : (j : Int) - 1 = ((j - 1 : Nat) : Int) := by omega
      have n1 : (f j : Int) * (P : Int) = ((P * f j : Nat) : Int) := by rw [Int.natCast_mul, Int.mul_comm]
      have hm : P * f j ≤ 4096 := Nat.mul_le_mul hP2 hbd
      have n2 : ((P * f j : Nat) : Int) + ((a.getD (j - 1) 0 : Nat) : Int) = ((f (j - 1) : Nat) : Int) := by rw [hd]; omega
      have hj7 : ((j - 1 : Nat) : Int) < 7 := by omega
      clear hR hA hb hd
      rw [n0]
      obtain ⟨i, hi⟩ : ∃ i, i = j - 1 := ⟨_, rfl⟩
      rw [← hi] at n0 n2 hj7 hx hbd2 hce ⊢
      have hij : j = i + 1 := by omega
      clear hi
      subst hij
      generalize P * f (i + 1) = pf at *
      generalize f (i + 1) = y at *
      obtain ⟨z, hz⟩ : ∃ z, z = f i := ⟨_, rfl⟩
      rw [← hz] at n2 hbd2
      have HZ := hid hz
      clear hz
      generalize a.getD i 0 = av at *
      go_wp2
      go_quiet (fail)
      go_wp2
      go_roundw
      case rel => exact ⟨i, by omega, by go_num, by rw [HZ.out], HW.out.1, HW.out.2.1, below_drewN HW.out.2.2 _⟩
      case measure => simp [intOf] <;> omega
    · obtain rfl : j = 0 := by omega
      have HR : Hid (f 0 = R) := hid (by rw [← HF.out]; exact H0.out)
      clear hR hA hb
      go_wp2
      go_ret
      exact ⟨by rw [← HR.out]; rfl, HW.out.2.2⟩
end Go.Proofs.YthdlhfgeminoiaaDoor
