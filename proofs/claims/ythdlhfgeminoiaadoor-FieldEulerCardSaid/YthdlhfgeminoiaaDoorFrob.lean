/-
  To the power of the prime sums add (Frobenius); traces add; squares (Euler). No program in sight.
-/
import Derived.Test.YthdlhfgeminoiaaDoorFtab9
import Derived.Test.YthdlhfgeminoiaaDoorFfact
namespace Go.Proofs.YthdlhfgeminoiaaDoor
set_option linter.unusedVariables false
open Go.RowKit

/-- What the tables say besides. -/
structure FY (P K : Nat) (low : List Nat) : Prop where
  frob : ∀ x i, x < P ^ K → i < K → mpF P K low (addF P K x (P ^ i)) P = addF P K (mpF P K low x P) (mpF P K low (P ^ i) P)
  tlt : ∀ i, i < K → trS P K low (P ^ i) K < P
  tcnt : ∀ u, u < P → ((List.range (P ^ K)).filter fun x => trS P K low x K == u).length = P ^ K / P
  sq : ∃ s : Nat → Bool, (∀ x, s x = true ↔ 1 ≤ x ∧ x < P ^ K ∧ (P ^ K % 2 = 0 ∨ ∃ i, x = mpF P K low x (P ^ K) ∧ ∃ E L, FX P K low E L ∧ x = E (2 * i))) ∧ ((List.range 64).filter s).length = if P ^ K % 2 = 0 then P ^ K - 1 else (P ^ K - 1) / 2
theorem row_of2 {f : List (Nat × Nat × Nat × List Nat × Nat × Nat)} {P K n : Nat} (hf : f.all chT = true) (hg : f.all chU = true) (h : inT f P K n = true) : ∃ e l, FA P K (dgL P n K) (eT e (1 % (P ^ K - 1))) ∧ chB P K (dgL P n K) e l = true ∧ chC P K e l = true ∧ chD P K e l = true ∧ chE P K l = true := by
  obtain ⟨⟨P', K', n', low, e, l⟩, hm, hb⟩ := List.any_eq_true.1 h
  simp only [Bool.and_eq_true, beq_iff_eq] at hb
  obtain ⟨⟨rfl, rfl⟩, rfl⟩ := hb
  have h1 := List.all_eq_true.1 hf _ hm
  have h2 := List.all_eq_true.1 hg _ hm
  simp only [chT, Bool.and_eq_true, beq_iff_eq] at h1
  simp only [chU, Bool.and_eq_true] at h2
  obtain ⟨⟨rfl, hA⟩, hB⟩ := h1
  exact ⟨e, l, FA.of hA, hB, h2.1.1, h2.1.2, h2.2⟩
theorem FY.of {P K e l : Nat} {low : List Nat} (B : FB P K) (X : FX P K low (fun i => eT e (i % (P ^ K - 1))) (eT l)) (hC : chC P K e l = true) (hD : chD P K e l = true) (hE : chE P K l = true) : FY P K low := by
  have hfr : ∀ x, x < P ^ K → frT P K e l x = mpF P K low x P := fun x hx => by
    have hp := B.p2
    unfold frT
    by_cases h0 : x = 0
    · subst h0
      rw [mp0 B P (by omega)]
      rfl
    · rw [show (x == 0) = false from beq_eq_false_iff_ne.2 h0]
      have h1 := X.mpE (eT l x) P
      rw [X.eL x (by omega) hx] at h1
      exact h1.symm
  have hta : ∀ x, x < P ^ K → ∀ i, trTa P K e l x i = trA P K low x i := fun x hx i => by
    induction i with
    | zero => rfl
    | succ i ih => rw [trTa, trA, ih, hfr _ (trA_lt B low hx i)]
  have hts : ∀ x, x < P ^ K → ∀ i, trTs P K e l x i = trS P K low x i := fun x hx i => by
    induction i with
    | zero => rfl
    | succ i ih => rw [trTs, trS, ih, hta x hx]
  simp only [chD, Bool.and_eq_true] at hD
  refine ⟨fun x i hx hi => ?_, fun i hi => ?_, fun u hu => ?_, ?_⟩
  · have h1 := List.all_eq_true.1 (List.all_eq_true.1 hC x (List.mem_range.2 hx)) i (List.mem_range.2 hi)
    rw [beq_iff_eq] at h1
    rw [← hfr x hx, ← hfr _ (pow_in B.p2 hi), ← hfr _ (addF_lt B.p2 B.k6 _ _)]
    exact h1
  · rw [← hts _ (pow_in B.p2 hi)]
    exact Nat.le_of_ble_eq_true (List.all_eq_true.1 hD.1 i (List.mem_range.2 hi))
  · have h1 := List.all_eq_true.1 hD.2 u (List.mem_range.2 hu)
    rw [beq_iff_eq] at h1
    rw [← h1]
    congr 1
    apply List.filter_congr
    intro x hx
    rw [hts x (List.mem_range.1 hx)]
  · refine ⟨sqT P K l, fun x => ?_, ?_⟩
    · unfold sqT
      simp only [Bool.and_eq_true, Bool.or_eq_true, bne_iff_ne, beq_iff_eq]
      constructor
      · rintro ⟨⟨h1, h2⟩, h3⟩
        have h2 : x < P ^ K := Nat.le_of_ble_eq_true h2
        refine ⟨by omega, h2, ?_⟩
        rcases h3 with h3 | h3
        · exact .inl h3
        · refine .inr ⟨eT l x / 2, (X.fermat B h2).symm, _, _, X, ?_⟩
          have := X.eL x (by omega) h2
          rw [show 2 * (eT l x / 2) = eT l x by omega]
          exact this.symm
      · rintro ⟨h1, h2, h3⟩
        refine ⟨⟨by omega, Nat.ble_eq_true_of_le h2⟩, ?_⟩
        rcases h3 with h3 | ⟨i, _, E, L, X', hx⟩
        · exact .inl h3
        · by_cases hev : P ^ K % 2 = 0
          · exact .inl hev
          · right
            -- x is the square of E i
            have hb : mulF P K low (E i) (E i) = x := by rw [X'.mul, hx]; congr 1; omega
            have hy := X'.lt i
            have hy1 := X'.pos i
            have h4 := X.eL (E i) hy1 hy
            have h5 := X.mul (eT l (E i)) (eT l (E i))
            rw [h4, hb, ← X.Emod] at h5
            have h6 : eT l x = (eT l (E i) + eT l (E i)) % (P ^ K - 1) := by
              rw [h5]
              exact X.lE _ (Nat.mod_lt _ (by have := B.q2; have := B.p2; omega))
            rw [h6]
            have h7 : (P ^ K - 1) % 2 = 0 := by omega
            obtain ⟨m, hm⟩ : ∃ m, P ^ K - 1 = 2 * m := ⟨(P ^ K - 1) / 2, by omega⟩
            rw [hm, ← Nat.two_mul, Nat.mul_mod_mul_left]
            omega
    · simp only [chE, beq_iff_eq] at hE
      rw [hE]
theorem FOk.fy {P K n : Nat} (h : FOk P K n) : FY P K (dgL P n K) := by
  by_cases hk : K = 1
  · subst hk
    have hr : inT fT1 P 1 0 = true := List.all_eq_true.1 allT1 (P : Int) h.pr
    obtain ⟨e, l, hA, hB, hC, hD, hE⟩ := row_of2 chT1 chU1 hr
    have hfx := FX.of h.p2 h.fb.p64 h.k1 h.k6 h.q64 hA hB
    have hsame : mulF P 1 (dgL P 0 1) = mulF P 1 (dgL P n 1) := rfl
    refine FY.of h.fb ⟨hfx.pos, hfx.lt, hfx.one, hfx.per, hfx.mul, hfx.eL, hfx.lL, hfx.lE, hfx.mul1⟩ hC hD hE
  · have hP9 := pow_small (by have := h.k1; omega) h.q64
    have hr : ∃ e l, FA P K (dgL P n K) (eT e (1 % (P ^ K - 1))) ∧ chB P K (dgL P n K) e l = true ∧ chC P K e l = true ∧ chD P K e l = true ∧ chE P K l = true := by
      have : K = 2 ∨ K = 3 ∨ K = 4 ∨ K = 5 ∨ K = 6 := by have := h.k1; have := h.k6; omega
      rcases this with rfl | rfl | rfl | rfl | rfl
      · exact row_of2 chT2 chU2 (all_in h hP9 allT2)
      · exact row_of2 chT3 chU3 (all_in h hP9 allT3)
      · exact row_of2 chT4 chU4 (all_in h hP9 allT4)
      · exact row_of2 chT5 chU5 (all_in h hP9 allT5)
      · exact row_of2 chT6 chU6 (all_in h hP9 allT6)
    obtain ⟨e, l, hA, hB, hC, hD, hE⟩ := hr
    exact FY.of h.fb (FX.of h.p2 h.fb.p64 h.k1 h.k6 h.q64 hA hB) hC hD hE
section
variable {P K : Nat} {low : List Nat} (B : FB P K) (Y : FY P K low)
include B Y
/-- Frobenius. -/
theorem FY.frob2 {x : Nat} (hx : x < P ^ K) : ∀ y, y < P ^ K → mpF P K low (addF P K x y) P = addF P K (mpF P K low x P) (mpF P K low y P) := by
  have hp := B.p2
  refine gen_ind B.p2 B.p64 B.k1 B.k6 B.q64 (fun y => mpF P K low (addF P K x y) P = addF P K (mpF P K low x P) (mpF P K low y P)) ?_ ?_
  · rw [addF_zero B.p2 B.k6 hx, mp0 B P (by omega), addF_zero B.p2 B.k6 (mp_lt B _ _)]
  · intro y i hy hi ih
    have hpi := pow_in B.p2 hi
    rw [← addF_assoc B.p2 B.k6 hx hy hpi, Y.frob _ i (addF_lt B.p2 B.k6 _ _) hi, ih, addF_assoc B.p2 B.k6 (mp_lt B _ _) (mp_lt B _ _) (mp_lt B _ _), ← Y.frob y i hy hi]
theorem FY.trA_add {x y : Nat} (hx : x < P ^ K) (hy : y < P ^ K) (i : Nat) : trA P K low (addF P K x y) i = addF P K (trA P K low x i) (trA P K low y i) := by
  induction i with
  | zero => rfl
  | succ i ih => rw [trA, ih, Y.frob2 B (trA_lt B low hx i) _ (trA_lt B low hy i)]; rfl
theorem FY.trS_add {x y : Nat} (hx : x < P ^ K) (hy : y < P ^ K) (i : Nat) : trS P K low (addF P K x y) i = addF P K (trS P K low x i) (trS P K low y i) := by
  induction i with
  | zero => show 0 = addF P K 0 0; rw [addF_zero B.p2 B.k6 (by have := B.q2; have := B.p2; omega)]
  | succ i ih =>
    have a1 := trA_lt B low hx i
    have a2 := trA_lt B low hy i
    have s1 := trS_lt B low x i
    have s2 := trS_lt B low y i
    rw [trS, ih, Y.trA_add B hx hy, trS, trS, addF_assoc B.p2 B.k6 s1 s2 (addF_lt B.p2 B.k6 _ _), addF_assoc B.p2 B.k6 s1 a1 (addF_lt B.p2 B.k6 _ _)]
    congr 1
    rw [← addF_assoc B.p2 B.k6 s2 a1 a2, addF_comm B.p2 B.k6 s2 a1, addF_assoc B.p2 B.k6 a1 s2 a2]
omit Y in
theorem addF_small {u v : Nat} (hu : u < P) (hv : v < P) : addF P K u v = (u + v) % P := by
  have hq := B.q2
  have hp := B.p2
  have hm : (u + v) % P < P := Nat.mod_lt _ (by omega)
  refine dg_ext (by omega) (addF_lt B.p2 B.k6 _ _) (show (u + v) % P < P ^ K by omega) fun j => ?_
  rw [dg_addF B.p2 B.k6 (by omega) (by omega)]
  cases j with
  | zero =>
    unfold dg
    rw [Nat.pow_zero, Nat.div_one, Nat.div_one, Nat.div_one, Nat.mod_mod, ← Nat.add_mod]
  | succ j =>
    have h1 : ∀ x, x < P → dg P x (j + 1) = 0 := fun x hx => dg_high (K := 1) (by omega) (by rw [Nat.pow_one]; exact hx) (by omega)
    rw [h1 u hu, h1 v hv, h1 _ hm]
    rfl
theorem FY.tr_lt : ∀ x, x < P ^ K → trS P K low x K < P := by
  have hp := B.p2
  refine gen_ind B.p2 B.p64 B.k1 B.k6 B.q64 (fun x => trS P K low x K < P) ?_ ?_
  · have h0 : 0 < P ^ K := by have := B.q2; omega
    have h1 := addF_self_zero (f := fun x => trS P K low x K) B.p2 B.k6 (fun x y hx hy => Y.trS_add B hx hy K) (trS_lt B low 0 K)
    show trS P K low 0 K < P
    have h2 : trS P K low 0 K = 0 := h1
    omega
  · intro x i hx hi ih
    rw [Y.trS_add B hx (pow_in B.p2 hi), addF_small B ih (Y.tlt i hi)]
    exact Nat.mod_lt _ (by omega)
/-- Traces add. -/
theorem FY.tr_add {x y : Nat} (hx : x < P ^ K) (hy : y < P ^ K) : trS P K low (addF P K x y) K = (trS P K low x K + trS P K low y K) % P := by
  rw [Y.trS_add B hx hy, addF_small B (Y.tr_lt B x hx) (Y.tr_lt B y hy)]
end
end Go.Proofs.YthdlhfgeminoiaaDoor
