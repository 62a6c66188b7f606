/-
  The sums of a field: a group that its powers of the base make. Products share out. No program in sight.
-/
import Derived.Test.YthdlhfgeminoiaaDoorFlin
namespace Go.Proofs.YthdlhfgeminoiaaDoor
set_option linter.unusedVariables false
open Go.RowKit

theorem dg_high {P x K j : Nat} (hP : 1 ≤ P) (hx : x < P ^ K) (hj : K ≤ j) : dg P x j = 0 := by
  unfold dg
  rw [Nat.div_eq_of_lt (Nat.lt_of_lt_of_le hx (Nat.pow_le_pow_right hP hj)), Nat.zero_mod]
theorem dgL_get {P x m : Nat} (j : Nat) : (dgL P x m).getD j 0 = if j < m then dg P x j else 0 := by
  rw [List.getD_eq_getElem?_getD, dgL, List.getElem?_map]
  by_cases h : j < m
  · rw [List.getElem?_range h, if_pos h]; rfl
  · rw [List.getElem?_eq_none (by simpa using h), if_neg h]; rfl
theorem dgL_get' {P x K m : Nat} (hP : 1 ≤ P) (hx : x < P ^ K) (hm : K ≤ m) (j : Nat) : (dgL P x m).getD j 0 = dg P x j := by
  rw [dgL_get]
  split
  · rfl
  · rw [dg_high hP hx (by omega)]
theorem num_dgL {P : Nat} (hP : 1 ≤ P) : ∀ m n, n < P ^ m → numL P (dgL P n m) = n
  | 0, n, h => by simp at h; subst h; rfl
  | m + 1, n, h => by
    have e : dgL P n (m + 1) = dg P n 0 :: dgL P (n / P) m := by
      rw [dgL, List.range_succ_eq_map, List.map_cons, List.map_map, dgL]
      congr 1
      apply List.map_congr_left
      intro i hi
      show dg P n (i + 1) = dg P (n / P) i
      unfold dg
      rw [Nat.pow_succ, Nat.mul_comm, Nat.div_div_eq_div_mul]
    rw [e, numL, num_dgL hP m (n / P) (Nat.div_lt_of_lt_mul (by rw [Nat.pow_succ, Nat.mul_comm] at h; exact h))]
    unfold dg
    rw [Nat.pow_zero, Nat.div_one]
    exact Nat.mod_add_div n P
theorem dg_ext {P K x y : Nat} (hP : 1 ≤ P) (hx : x < P ^ K) (hy : y < P ^ K) (h : ∀ j, dg P x j = dg P y j) : x = y := by
  rw [← num_dgL hP K x hx, ← num_dgL hP K y hy]
  congr 1
  unfold dgL
  apply List.map_congr_left
  intro j _
  exact h j
theorem dg_lt {P : Nat} (hP : 1 ≤ P) (x j : Nat) : dg P x j < P := Nat.mod_lt _ (by omega)
section
variable {P K : Nat} (hP : 2 ≤ P) (hK6 : K ≤ 6)
include hP hK6
theorem add_ent (x y : Nat) : ((adL P (dgL P x 7) (dgL P y 7) 7).take K).length = K ∧ ∀ j, ((adL P (dgL P x 7) (dgL P y 7) 7).take K).getD j 0 < P := by
  refine ⟨by rw [List.length_take, adL_len]; omega, getD_take_lt (adL_lt (by omega) (dgL_lt hP 7) _) K⟩
theorem addF_lt (x y : Nat) : addF P K x y < P ^ K := by
  obtain ⟨h1, h2⟩ := add_ent hP hK6 x y
  have := num_lt _ h2
  rw [h1] at this
  exact this
theorem dg_addF {x y : Nat} (hx : x < P ^ K) (hy : y < P ^ K) (j : Nat) : dg P (addF P K x y) j = (dg P x j + dg P y j) % P := by
  obtain ⟨h1, h2⟩ := add_ent hP hK6 x y
  unfold addF
  rw [dg_num _ h2]
  by_cases h : j < K
  · rw [List.getD_eq_getElem?_getD, List.getElem?_take, if_pos h, ← List.getD_eq_getElem?_getD, adL_get (by omega), if_pos (by omega), dgL_get, dgL_get, if_pos (by omega), if_pos (by omega)]
  · rw [List.getD_eq_getElem?_getD, List.getElem?_take, if_neg h, dg_high (by omega) hx (by omega), dg_high (by omega) hy (by omega)]
    simp
theorem addF_comm {x y : Nat} (hx : x < P ^ K) (hy : y < P ^ K) : addF P K x y = addF P K y x :=
  dg_ext (by omega) (addF_lt hP hK6 _ _) (addF_lt hP hK6 _ _) fun j => by rw [dg_addF hP hK6 hx hy, dg_addF hP hK6 hy hx, Nat.add_comm]
theorem addF_assoc {x y z : Nat} (hx : x < P ^ K) (hy : y < P ^ K) (hz : z < P ^ K) : addF P K (addF P K x y) z = addF P K x (addF P K y z) :=
  dg_ext (by omega) (addF_lt hP hK6 _ _) (addF_lt hP hK6 _ _) fun j => by
    rw [dg_addF hP hK6 (addF_lt hP hK6 _ _) hz, dg_addF hP hK6 hx hy, dg_addF hP hK6 hx (addF_lt hP hK6 _ _), dg_addF hP hK6 hy hz]
    rw [Nat.mod_add_mod, Nat.add_mod_mod, Nat.add_assoc]
theorem addF_zero {x : Nat} (hx : x < P ^ K) : addF P K x 0 = x :=
  dg_ext (by omega) (addF_lt hP hK6 _ _) hx fun j => by
    rw [dg_addF hP hK6 hx (by omega), dg_zero, Nat.add_zero, Nat.mod_eq_of_lt (dg_lt (by omega) _ _)]
/-- A sum of digits is the number's sum. -/
theorem num_Sm {a b c : List Nat} (h : Sm P a b c) (ha : a.length = K) (hb : b.length = K) (hc : c.length = K) (hal : ∀ j, a.getD j 0 < P) (hbl : ∀ j, b.getD j 0 < P) (hcl : ∀ j, c.getD j 0 < P) : addF P K (numL P a) (numL P b) = numL P c := by
  have l1 := num_lt _ hal
  have l2 := num_lt _ hbl
  have l3 := num_lt _ hcl
  rw [ha] at l1
  rw [hb] at l2
  rw [hc] at l3
  refine dg_ext (by omega) (addF_lt hP hK6 _ _) l3 fun j => ?_
  rw [dg_addF hP hK6 l1 l2, dg_num _ hal, dg_num _ hbl, dg_num _ hcl, h j]
theorem Sm.dig {x y m : Nat} (hx : x < P ^ K) (hy : y < P ^ K) (hm : K ≤ m) : Sm P (dgL P x m) (dgL P y m) (dgL P (addF P K x y) m) := by
  intro j
  rw [dgL_get' (by omega) hx hm, dgL_get' (by omega) hy hm, dgL_get' (by omega) (addF_lt hP hK6 _ _) hm, dg_addF hP hK6 hx hy]
omit hP hK6 in
theorem Sm.tak {a b c : List Nat} (h : Sm P a b c) (k : Nat) : Sm P (a.take k) (b.take k) (c.take k) := by
  intro j
  have e : ∀ l : List Nat, (l.take k).getD j 0 = if j < k then l.getD j 0 else 0 := fun l => by
    rw [List.getD_eq_getElem?_getD, List.getElem?_take]
    split
    · rw [← List.getD_eq_getElem?_getD]
    · rfl
  rw [e, e, e]
  split
  · exact h j
  · simp
theorem mulF_lt (low : List Nat) (x y : Nat) : mulF P K low x y < P ^ K := by
  have := num_lt _ (getD_take_lt (mlO_lt (P := P) (K := K) low (dgL P x 7) (dgL P y 7) (by omega) K) K)
  rw [List.length_take, mlO_len, show min K 7 = K by omega] at this
  exact this
theorem mulF_add1 (low : List Nat) {x y : Nat} (z : Nat) (hx : x < P ^ K) (hy : y < P ^ K) : mulF P K low (addF P K x y) z = addF P K (mulF P K low x z) (mulF P K low y z) := by
  have h := Sm.mlO1 (low := low) (K := K) (dgL P z 7) (Sm.dig hP hK6 hx hy (show K ≤ 7 by omega)) hK6 (by omega) (dgL_lt hP 7) (dgL_lt hP 7) K
  exact (num_Sm hP hK6 (h.tak K) (by rw [List.length_take, mlO_len]; omega) (by rw [List.length_take, mlO_len]; omega) (by rw [List.length_take, mlO_len]; omega) (getD_take_lt (mlO_lt _ _ _ (by omega) _) _) (getD_take_lt (mlO_lt _ _ _ (by omega) _) _) (getD_take_lt (mlO_lt _ _ _ (by omega) _) _)).symm
theorem mulF_add2 (low : List Nat) {x y : Nat} (z : Nat) (hx : x < P ^ K) (hy : y < P ^ K) : mulF P K low z (addF P K x y) = addF P K (mulF P K low z x) (mulF P K low z y) := by
  have h := Sm.mlO2 (low := low) (K := K) (dgL P z 7) (Sm.dig hP hK6 hx hy (show K ≤ 7 by omega)) K
  exact (num_Sm hP hK6 (h.tak K) (by rw [List.length_take, mlO_len]; omega) (by rw [List.length_take, mlO_len]; omega) (by rw [List.length_take, mlO_len]; omega) (getD_take_lt (mlO_lt _ _ _ (by omega) _) _) (getD_take_lt (mlO_lt _ _ _ (by omega) _) _) (getD_take_lt (mlO_lt _ _ _ (by omega) _) _)).symm
theorem timF_lt (low : List Nat) (x y : Nat) : timF P K low x y < P ^ K := by
  have h0 : 1 ≤ P := by omega
  have h1 : ∀ j, ((rdO P K (2 * K - 1) low (pdO P K (dgL P x K) (dgL P y K) K) K).take K).getD j 0 < P := getD_take_lt (rdO_lt (pdO_lt _ _ h0 _) _) _
  have := num_lt _ h1
  rw [List.length_take, rdO_len, pdO_len, show min K (2 * K) = K by omega] at this
  exact this
theorem timF_add1 (low : List Nat) {x y : Nat} (z : Nat) (hx : x < P ^ K) (hy : y < P ^ K) : timF P K low (addF P K x y) z = addF P K (timF P K low x z) (timF P K low y z) := by
  have h := Sm.ofO1 (K := K) (dgL P z K) (Sm.dig hP hK6 hx hy (Nat.le_refl K)) K
  have h2 := Sm.orO (n := K) (k := 2 * K - 1) (d := low) (show 1 ≤ P by omega) h (by rw [pdO_len, pdO_len]) (by rw [pdO_len, pdO_len]) K
  exact (num_Sm hP hK6 (h2.tak K) (by rw [List.length_take, rdO_len, pdO_len]; omega) (by rw [List.length_take, rdO_len, pdO_len]; omega) (by rw [List.length_take, rdO_len, pdO_len]; omega) (getD_take_lt (rdO_lt (pdO_lt _ _ (by omega) _) _) _) (getD_take_lt (rdO_lt (pdO_lt _ _ (by omega) _) _) _) (getD_take_lt (rdO_lt (pdO_lt _ _ (by omega) _) _) _)).symm
theorem timF_add2 (low : List Nat) {x y : Nat} (z : Nat) (hx : x < P ^ K) (hy : y < P ^ K) : timF P K low z (addF P K x y) = addF P K (timF P K low z x) (timF P K low z y) := by
  have h := Sm.ofO2 (K := K) (dgL P z K) (Sm.dig hP hK6 hx hy (Nat.le_refl K)) K
  have h2 := Sm.orO (n := K) (k := 2 * K - 1) (d := low) (show 1 ≤ P by omega) h (by rw [pdO_len, pdO_len]) (by rw [pdO_len, pdO_len]) K
  exact (num_Sm hP hK6 (h2.tak K) (by rw [List.length_take, rdO_len, pdO_len]; omega) (by rw [List.length_take, rdO_len, pdO_len]; omega) (by rw [List.length_take, rdO_len, pdO_len]; omega) (getD_take_lt (rdO_lt (pdO_lt _ _ (by omega) _) _) _) (getD_take_lt (rdO_lt (pdO_lt _ _ (by omega) _) _) _) (getD_take_lt (rdO_lt (pdO_lt _ _ (by omega) _) _) _)).symm
theorem addF_self_zero {f : Nat → Nat} (hf : ∀ x y, x < P ^ K → y < P ^ K → f (addF P K x y) = addF P K (f x) (f y)) (hl : f 0 < P ^ K) : f 0 = 0 := by
  have h0 : 0 < P ^ K := Nat.pow_pos (by omega)
  have h := hf 0 0 h0 h0
  rw [addF_zero hP hK6 h0] at h
  refine dg_ext (by omega) hl h0 fun j => ?_
  have e : dg P (f 0) j = dg P (addF P K (f 0) (f 0)) j := congrArg (fun t => dg P t j) h
  rw [dg_addF hP hK6 hl hl] at e
  rw [dg_zero]
  have hlt := dg_lt (P := P) (by omega) (f 0) j
  generalize dg P (f 0) j = d at *
  by_cases hd : d + d < P
  · rw [Nat.mod_eq_of_lt hd] at e; omega
  · rw [Nat.mod_eq_sub_mod (by omega), Nat.mod_eq_of_lt (by omega)] at e; omega
end
/-- Each number is a smaller one and a power of the base. -/
def genB (P K : Nat) : Bool := (List.range (P ^ K)).all fun x => x == 0 || (List.range K).any fun i => Nat.ble (P ^ i) x && addF P K (x - P ^ i) (P ^ i) == x
theorem gen_all : ∀ K, K < 7 → ∀ P, P < 65 → (!(Nat.ble 1 K && Nat.ble 2 P && Nat.ble (P ^ K) 64) || genB P K) = true := by decide +kernel
theorem gen_ind {P K : Nat} (hP : 2 ≤ P) (hP2 : P ≤ 64) (hK : 1 ≤ K) (hK6 : K ≤ 6) (hq : P ^ K ≤ 64) (p : Nat → Prop) (h0 : p 0) (hs : ∀ x i, x < P ^ K → i < K → p x → p (addF P K x (P ^ i))) : ∀ x, x < P ^ K → p x := by
  intro x
  induction x using Nat.strongRecOn with
  | _ x ih =>
    intro hx
    by_cases h : x = 0
    · rw [h]; exact h0
    · have hg := gen_all K (by omega) P (by omega)
      rw [show Nat.ble 1 K = true from Nat.ble_eq_true_of_le hK, show Nat.ble 2 P = true from Nat.ble_eq_true_of_le hP, show Nat.ble (P ^ K) 64 = true from Nat.ble_eq_true_of_le hq] at hg
      simp only [Bool.and_self, Bool.not_true, Bool.false_or] at hg
      have := List.all_eq_true.1 hg x (List.mem_range.2 hx)
      rw [show (x == 0) = false from beq_eq_false_iff_ne.2 h, Bool.false_or] at this
      obtain ⟨i, hi, hb⟩ := List.any_eq_true.1 this
      rw [Bool.and_eq_true, beq_iff_eq, Nat.ble_eq] at hb
      have hpos : 0 < P ^ i := Nat.pow_pos (by omega)
      have := hs (x - P ^ i) i (by omega) (List.mem_range.1 hi) (ih (x - P ^ i) (by omega) (by omega))
      rw [hb.2] at this
      exact this
theorem pow_in {P K i : Nat} (hP : 2 ≤ P) (hi : i < K) : P ^ i < P ^ K := Nat.pow_lt_pow_right (by omega) hi
/-- Two that add alike and are alike at the powers are alike. -/
theorem lin_ext {P K : Nat} (hP : 2 ≤ P) (hP2 : P ≤ 64) (hK : 1 ≤ K) (hK6 : K ≤ 6) (hq : P ^ K ≤ 64) {f g : Nat → Nat} (hf : ∀ x y, x < P ^ K → y < P ^ K → f (addF P K x y) = addF P K (f x) (f y)) (hg : ∀ x y, x < P ^ K → y < P ^ K → g (addF P K x y) = addF P K (g x) (g y)) (hfl : f 0 < P ^ K) (hgl : g 0 < P ^ K) (h : ∀ i, i < K → f (P ^ i) = g (P ^ i)) : ∀ x, x < P ^ K → f x = g x := by
  refine gen_ind hP hP2 hK hK6 hq (fun x => f x = g x) ?_ ?_
  · rw [addF_self_zero hP hK6 hf hfl, addF_self_zero hP hK6 hg hgl]
  · intro x i hx hi hxx
    rw [hf x _ hx (pow_in hP hi), hg x _ hx (pow_in hP hi), hxx, h i hi]
theorem bil_ext {P K : Nat} (hP : 2 ≤ P) (hP2 : P ≤ 64) (hK : 1 ≤ K) (hK6 : K ≤ 6) (hq : P ^ K ≤ 64) {f g : Nat → Nat → Nat} (hf1 : ∀ x y z, x < P ^ K → y < P ^ K → f (addF P K x y) z = addF P K (f x z) (f y z)) (hg1 : ∀ x y z, x < P ^ K → y < P ^ K → g (addF P K x y) z = addF P K (g x z) (g y z)) (hf2 : ∀ x y z, x < P ^ K → y < P ^ K → f z (addF P K x y) = addF P K (f z x) (f z y)) (hg2 : ∀ x y z, x < P ^ K → y < P ^ K → g z (addF P K x y) = addF P K (g z x) (g z y)) (hfl : ∀ x y, f x y < P ^ K) (hgl : ∀ x y, g x y < P ^ K) (h : ∀ i j, i < K → j < K → f (P ^ i) (P ^ j) = g (P ^ i) (P ^ j)) {x y : Nat} (hx : x < P ^ K) (hy : y < P ^ K) : f x y = g x y := by
  refine lin_ext hP hP2 hK hK6 hq (f := fun x => f x y) (g := fun x => g x y) (fun a b ha hb => hf1 a b y ha hb) (fun a b ha hb => hg1 a b y ha hb) (hfl _ _) (hgl _ _) (fun i hi => ?_) x hx
  exact lin_ext hP hP2 hK hK6 hq (f := fun y => f (P ^ i) y) (g := fun y => g (P ^ i) y) (fun a b ha hb => hf2 a b _ ha hb) (fun a b ha hb => hg2 a b _ ha hb) (hfl _ _) (hgl _ _) (fun j hj => h i j hi hj) y hy
end Go.Proofs.YthdlhfgeminoiaaDoor
