/-
  Each field has an element whose powers are all but 0. No program in sight.
-/
import Derived.Test.YthdlhfgeminoiaaDoorFtab7
namespace Go.Proofs.YthdlhfgeminoiaaDoor
set_option linter.unusedVariables false
open Go.RowKit

/-- The powers of a generating element, and their logarithms. -/
structure FX (P K : Nat) (low : List Nat) (E L : Nat → Nat) : Prop where
  pos : ∀ i, 1 ≤ E i
  lt : ∀ i, E i < P ^ K
  one : E 0 = 1
  per : ∀ i, E (i + (P ^ K - 1)) = E i
  mul : ∀ i j, mulF P K low (E i) (E j) = E (i + j)
  eL : ∀ x, 1 ≤ x → x < P ^ K → E (L x) = x
  lL : ∀ x, 1 ≤ x → x < P ^ K → L x < P ^ K - 1
  lE : ∀ i, i < P ^ K - 1 → L (E i) = i
  mul1 : ∀ x, x < P ^ K → mulF P K low x 1 = x
structure FA (P K : Nat) (low : List Nat) (g : Nat) : Prop where
  m1 : ∀ i, i < K → mulF P K low (P ^ i) 1 = P ^ i
  tm : ∀ i j, i < K → j < K → timF P K low (P ^ i) (P ^ j) = mulF P K low (P ^ i) (P ^ j)
  ass : ∀ i j, i < K → j < K → mulF P K low (mulF P K low (P ^ i) (P ^ j)) g = mulF P K low (P ^ i) (mulF P K low (P ^ j) g)
theorem FA.of {P K g : Nat} {low : List Nat} (h : chA P K low g = true) : FA P K low g := by
  have h1 := fun i (hi : i < K) => List.all_eq_true.1 h i (List.mem_range.2 hi)
  simp only [Bool.and_eq_true, beq_iff_eq] at h1
  have h2 := fun i j (hi : i < K) (hj : j < K) => List.all_eq_true.1 (h1 i hi).2 j (List.mem_range.2 hj)
  simp only [Bool.and_eq_true, beq_iff_eq] at h2
  exact ⟨fun i hi => (h1 i hi).1, fun i j hi hj => (h2 i j hi hj).1, fun i j hi hj => (h2 i j hi hj).2⟩
theorem FX.of {P K e l : Nat} {low : List Nat} (hP : 2 ≤ P) (hP2 : P ≤ 64) (hK : 1 ≤ K) (hK6 : K ≤ 6) (hq : P ^ K ≤ 64) (hA : FA P K low (eT e (1 % (P ^ K - 1)))) (hB : chB P K low e l = true) : FX P K low (fun i => eT e (i % (P ^ K - 1))) (eT l) := by
  have hq2 : 2 ≤ P ^ K := Nat.le_trans hP (by have := Nat.pow_le_pow_right (n := P) (by omega) hK; rwa [Nat.pow_one] at this)
  have hm : 1 ≤ P ^ K - 1 := by omega
  simp only [chB, Bool.and_eq_true, beq_iff_eq] at hB
  obtain ⟨⟨h0, hB1⟩, hB2⟩ := hB
  have h1 := fun i (hi : i < P ^ K - 1) => List.all_eq_true.1 hB1 i (List.mem_range.2 hi)
  simp only [Bool.and_eq_true, beq_iff_eq] at h1
  have h2 := fun x (hx : x < P ^ K) (hx0 : x ≠ 0) => by
    have := List.all_eq_true.1 hB2 x (List.mem_range.2 hx)
    rw [show (x == 0) = false from beq_eq_false_iff_ne.2 hx0, Bool.false_or] at this
    simpa only [Bool.and_eq_true, beq_iff_eq] using this
  have hmod : ∀ i, i % (P ^ K - 1) < P ^ K - 1 := fun i => Nat.mod_lt _ hm
  have hlt : ∀ i, eT e (i % (P ^ K - 1)) < P ^ K := fun i => Nat.le_of_ble_eq_true (h1 _ (hmod i)).2
  have m1 : ∀ x, x < P ^ K → mulF P K low x 1 = x := by
    refine lin_ext hP hP2 hK hK6 hq (f := fun x => mulF P K low x 1) (g := fun x => x) (fun x y hx hy => mulF_add1 hP hK6 low 1 hx hy) (fun x y _ _ => rfl) (mulF_lt hP hK6 _ _ _) (by omega) (fun i hi => hA.m1 i hi)
  generalize hg : eT e (1 % (P ^ K - 1)) = g at *
  have hgl : g < P ^ K := by rw [← hg]; exact hlt 1
  have ass : ∀ x y, x < P ^ K → y < P ^ K → mulF P K low (mulF P K low x y) g = mulF P K low x (mulF P K low y g) := fun x y hx hy => by
    refine bil_ext hP hP2 hK hK6 hq (f := fun x y => mulF P K low (mulF P K low x y) g) (g := fun x y => mulF P K low x (mulF P K low y g)) ?_ ?_ ?_ ?_ (fun _ _ => mulF_lt hP hK6 _ _ _) (fun _ _ => mulF_lt hP hK6 _ _ _) (fun i j hi hj => hA.ass i j hi hj) hx hy
    · intro a b c ha hb
      rw [mulF_add1 hP hK6 low c ha hb, mulF_add1 hP hK6 low g (mulF_lt hP hK6 _ _ _) (mulF_lt hP hK6 _ _ _)]
    · intro a b c ha hb
      exact mulF_add1 hP hK6 low _ ha hb
    · intro a b c ha hb
      rw [mulF_add2 hP hK6 low c ha hb, mulF_add1 hP hK6 low g (mulF_lt hP hK6 _ _ _) (mulF_lt hP hK6 _ _ _)]
    · intro a b c ha hb
      rw [mulF_add1 hP hK6 low g ha hb, mulF_add2 hP hK6 low c (mulF_lt hP hK6 _ _ _) (mulF_lt hP hK6 _ _ _)]
  have hnext : ∀ i, mulF P K low (eT e (i % (P ^ K - 1))) g = eT e ((i + 1) % (P ^ K - 1)) := fun i => by
    rw [(h1 _ (hmod i)).1.1.1, Nat.mod_add_mod]
  refine ⟨fun i => Nat.le_of_ble_eq_true (h1 _ (hmod i)).1.2, hlt, by rw [Nat.zero_mod]; exact h0, fun i => by simp only [Nat.add_mod_right], ?_, fun x hx1 hx => ?_, fun x hx1 hx => Nat.le_of_ble_eq_true (h2 x hx (by omega)).2, fun i hi => by rw [Nat.mod_eq_of_lt hi]; exact (h1 i hi).1.1.2, m1⟩
  · intro i j
    induction j with
    | zero => rw [Nat.zero_mod, h0, m1 _ (hlt i), Nat.add_zero]
    | succ j ih => rw [← hnext j, ← ass _ _ (hlt i) (hlt j), ih, hnext (i + j), Nat.add_assoc]
  · rw [Nat.mod_eq_of_lt (Nat.le_of_ble_eq_true (h2 x hx (by omega)).2)]
    exact (h2 x hx (by omega)).1
theorem tim_of {P K : Nat} {low : List Nat} (hP : 2 ≤ P) (hP2 : P ≤ 64) (hK : 1 ≤ K) (hK6 : K ≤ 6) (hq : P ^ K ≤ 64) (h : ∀ i j, i < K → j < K → timF P K low (P ^ i) (P ^ j) = mulF P K low (P ^ i) (P ^ j)) {x y : Nat} (hx : x < P ^ K) (hy : y < P ^ K) : timF P K low x y = mulF P K low x y :=
  bil_ext hP hP2 hK hK6 hq (fun a b c ha hb => timF_add1 hP hK6 low c ha hb) (fun a b c ha hb => mulF_add1 hP hK6 low c ha hb) (fun a b c ha hb => timF_add2 hP hK6 low c ha hb) (fun a b c ha hb => mulF_add2 hP hK6 low c ha hb) (fun _ _ => timF_lt hP hK6 _ _ _) (fun _ _ => mulF_lt hP hK6 _ _ _) h hx hy
theorem row_of {f : List (Nat × Nat × Nat × List Nat × Nat × Nat)} {P K n : Nat} (hf : f.all chT = true) (h : inT f P K n = true) : ∃ e l, FA P K (dgL P n K) (eT e (1 % (P ^ K - 1))) ∧ chB P K (dgL P n K) e l = true := by
  obtain ⟨⟨P', K', n', low, e, l⟩, hm, hb⟩ := List.any_eq_true.1 h
  simp only [Bool.and_eq_true, beq_iff_eq] at hb
  obtain ⟨⟨rfl, rfl⟩, rfl⟩ := hb
  have := List.all_eq_true.1 hf _ hm
  simp only [chT, Bool.and_eq_true, beq_iff_eq] at this
  obtain ⟨⟨rfl, hA⟩, hB⟩ := this
  exact ⟨e, l, FA.of hA, hB⟩
theorem all_in {f : List (Nat × Nat × Nat × List Nat × Nat × Nat)} {P K n : Nat} (h : FOk P K n) (hP : P < 9) (ha : (List.range 9).all (allT f K) = true) : inT f P K n = true := by
  have h1 := List.all_eq_true.1 ha P (List.mem_range.2 hP)
  have hpr : primeB P = true := by rw [pr_same P (by omega)]; exact decide_eq_true h.pr
  have hlt : Nat.blt (P ^ K) 65 = true := Nat.ble_eq_true_of_le (by have := h.q64; omega)
  simp only [allT, hpr, hlt, Bool.and_self, Bool.not_true, Bool.false_or] at h1
  have h2 := List.all_eq_true.1 h1 n (List.mem_range.2 h.nq)
  rw [h.ir] at h2
  simpa using h2
/-- What each field has. -/
theorem FOk.fx {P K n : Nat} (h : FOk P K n) : (∃ E L, FX P K (dgL P n K) E L) ∧ ∀ x y, x < P ^ K → y < P ^ K → timF P K (dgL P n K) x y = mulF P K (dgL P n K) x y := by
  have hP := h.p2
  have hP2 : P ≤ 64 := by have := h.p61; omega
  have hK := h.k1
  have hK6 := h.k6
  have hq := h.q64
  by_cases hk : K = 1
  · subst hk
    have hr : inT fT1 P 1 0 = true := List.all_eq_true.1 allT1 (P : Int) h.pr
    obtain ⟨e, l, hA, hB⟩ := row_of chT1 hr
    have hfx := FX.of hP hP2 hK hK6 hq hA hB
    have hsame : ∀ x y, mulF P 1 (dgL P n 1) x y = mulF P 1 (dgL P 0 1) x y := fun x y => rfl
    refine ⟨⟨_, _, hfx.pos, hfx.lt, hfx.one, hfx.per, hfx.mul, hfx.eL, hfx.lL, hfx.lE, hfx.mul1⟩, fun x y hx hy => tim_of hP hP2 hK hK6 hq (fun i j hi hj => ?_) hx hy⟩
    obtain rfl : i = 0 := by omega
    obtain rfl : j = 0 := by omega
    have h1 := List.all_eq_true.1 (List.all_eq_true.1 tim1 (P : Int) h.pr) n (List.mem_range.2 (by have := h.nq; simpa using this))
    have h2 : timF P 1 (dgL P n 1) 1 1 = 1 := by simpa using h1
    have h3 := hA.m1 0 (by omega)
    rw [Nat.pow_zero] at h3 ⊢
    rw [h2, hsame, h3]
  · have hP9 := pow_small (by omega) hq
    have hr : ∃ e l, FA P K (dgL P n K) (eT e (1 % (P ^ K - 1))) ∧ chB P K (dgL P n K) e l = true := by
      have : K = 2 ∨ K = 3 ∨ K = 4 ∨ K = 5 ∨ K = 6 := by omega
      rcases this with rfl | rfl | rfl | rfl | rfl
      · exact row_of chT2 (all_in h hP9 allT2)
      · exact row_of chT3 (all_in h hP9 allT3)
      · exact row_of chT4 (all_in h hP9 allT4)
      · exact row_of chT5 (all_in h hP9 allT5)
      · exact row_of chT6 (all_in h hP9 allT6)
    obtain ⟨e, l, hA, hB⟩ := hr
    exact ⟨⟨_, _, FX.of hP hP2 hK hK6 hq hA hB⟩, fun x y hx hy => tim_of hP hP2 hK hK6 hq hA.tm hx hy⟩
end Go.Proofs.YthdlhfgeminoiaaDoor
