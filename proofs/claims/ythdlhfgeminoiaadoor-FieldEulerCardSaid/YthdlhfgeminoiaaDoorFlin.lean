/-
  Digits added: products are sums in both factors. No program in sight.
-/
import Derived.Test.YthdlhfgeminoiaaDoorFtimes
namespace Go.Proofs.YthdlhfgeminoiaaDoor
set_option linter.unusedVariables false
open Go.RowKit

/-- The third is the sum of the two, digit by digit. -/
def Sm (P : Nat) (a b c : List Nat) : Prop := ∀ j, c.getD j 0 = (a.getD j 0 + b.getD j 0) % P
theorem getD_set_if (l : List Nat) (i j x : Nat) : (l.set i x).getD j 0 = if i = j ∧ i < l.length then x else l.getD j 0 := by
  simp only [List.getD_eq_getElem?_getD, List.getElem?_set]
  by_cases h : i = j
  · subst h
    by_cases h2 : i < l.length
    · simp [h2]
    · simp [h2]
  · simp [h]
theorem Sm.set {P : Nat} {a b c : List Nat} (h : Sm P a b c) (h1 : a.length = c.length) (h2 : b.length = c.length) {i x y z : Nat} (hz : z = (x + y) % P) : Sm P (a.set i x) (b.set i y) (c.set i z) := by
  intro j
  rw [getD_set_if, getD_set_if, getD_set_if, h1, h2]
  by_cases hc : i = j ∧ i < c.length
  · rw [if_pos hc, if_pos hc, if_pos hc, hz]
  · rw [if_neg hc, if_neg hc, if_neg hc, h j]
theorem mod_eq_of {P a b : Nat} (h : ∃ m n, a + P * m = b + P * n) : a % P = b % P := by
  obtain ⟨m, n, e⟩ := h
  rw [← Nat.add_mul_mod_self_left a P m, e, Nat.add_mul_mod_self_left]
theorem mod_wit (P x : Nat) : ∃ m, x % P + P * m = x := ⟨x / P, by rw [Nat.add_comm]; exact Nat.div_add_mod x P⟩
/-- A sum with a multiple. -/
theorem mod_lin {P a a' a'' u u' u'' : Nat} (ha : a'' = (a + a') % P) (hu : u'' % P = (u + u') % P) : (a'' + u'') % P = ((a + u) % P + (a' + u') % P) % P := by
  rw [← Nat.add_mod, ha, Nat.add_mod, hu, Nat.mod_mod, ← Nat.add_mod]
  congr 1
  omega
theorem mod_mulr {P x x' x'' y : Nat} (h : x'' = (x + x') % P) : (x'' * y) % P = (x * y + x' * y) % P := by
  rw [h, ← Nat.add_mul, Nat.mul_mod, Nat.mod_mod, ← Nat.mul_mod]
theorem mod_mull {P x y y' y'' : Nat} (h : y'' = (y + y') % P) : (x * y'') % P = (x * y + x * y') % P := by
  rw [h, ← Nat.mul_add, Nat.mul_mod, Nat.mod_mod, ← Nat.mul_mod]
/-- Opposites add. -/
theorem mod_opp {P t t' : Nat} (ht : t < P) (ht' : t' < P) : (P - (t + t') % P) % P = ((P - t) + (P - t')) % P := by
  by_cases h : t + t' < P
  · rw [Nat.mod_eq_of_lt h]
    exact mod_eq_of ⟨1, 0, by omega⟩
  · have : (t + t') % P = t + t' - P := by rw [Nat.mod_eq_sub_mod (by omega), Nat.mod_eq_of_lt (by omega)]
    rw [this]
    exact mod_eq_of ⟨0, 0, by omega⟩
theorem getD_shT {P K : Nat} {low a : List Nat} (hK : K ≤ 6) (j : Nat) : (shT P K low a K).getD j 0 = if j < K then shD P (a.getD (K - 1) 0) (if 0 < j then a.getD (j - 1) 0 else 0) (low.getD j 0) else 0 := by
  by_cases h : j < 7
  · exact shT_get h
  · rw [if_neg (by omega), List.getD_eq_getElem?_getD, List.getElem?_eq_none (by rw [shT_len]; omega)]
    rfl
theorem Sm.shT {P K : Nat} {low a b c : List Nat} (h : Sm P a b c) (hK : K ≤ 6) (ha : ∀ j, a.getD j 0 < P) (hb : ∀ j, b.getD j 0 < P) : Sm P (shT P K low a K) (shT P K low b K) (shT P K low c K) := by
  intro j
  rw [getD_shT hK, getD_shT hK, getD_shT hK]
  by_cases hj : j < K
  · rw [if_pos hj, if_pos hj, if_pos hj]
    unfold shD
    refine mod_lin ?_ ?_
    · split
      · exact h _
      · simp
    · rw [h, ← Nat.add_mul, Nat.mul_mod, mod_opp (ha _) (hb _), ← Nat.mul_mod]
  · rw [if_neg hj, if_neg hj, if_neg hj]; simp
theorem getD_adL {P K : Nat} {a b : List Nat} (ha : a.length = 7) (j : Nat) : (adL P a b K).getD j 0 = if j < K ∧ j < 7 then (a.getD j 0 + b.getD j 0) % P else a.getD j 0 := by
  by_cases h : j < 7
  · rw [adL_get h]
    by_cases hk : j < K
    · rw [if_pos hk, if_pos ⟨hk, h⟩]
    · rw [if_neg hk, if_neg (by omega)]
  · rw [if_neg (by omega), List.getD_eq_getElem?_getD, List.getElem?_eq_none (by rw [adL_len]; omega), List.getD_eq_getElem?_getD, List.getElem?_eq_none (by rw [ha]; omega)]
theorem Sm.mlX {P K : Nat} {low a b c : List Nat} (h : Sm P a b c) (hK : K ≤ 6) (hP : 1 ≤ P) (ha : ∀ j, a.getD j 0 < P) (hb : ∀ j, b.getD j 0 < P) : ∀ i, Sm P (mlX P K low a i) (mlX P K low b i) (mlX P K low c i)
  | 0 => h
  | i + 1 => (Sm.mlX h hK hP ha hb i).shT hK (mlX_lt low hP ha i) (mlX_lt low hP hb i)
theorem Sm.rep (P n : Nat) : Sm P (List.replicate n 0) (List.replicate n 0) (List.replicate n 0) := by
  intro j
  have : (List.replicate n 0).getD j 0 = 0 := by
    rw [List.getD_eq_getElem?_getD, List.getElem?_replicate]; split <;> rfl
  rw [this]; simp
/-- In the first factor. -/
theorem Sm.mlO1 {P K : Nat} {low a b c : List Nat} (y : List Nat) (h : Sm P a b c) (hK : K ≤ 6) (hP : 1 ≤ P) (ha : ∀ j, a.getD j 0 < P) (hb : ∀ j, b.getD j 0 < P) : ∀ i, Sm P (mlO P K low a y i) (mlO P K low b y i) (mlO P K low c y i)
  | 0 => Sm.rep P 7
  | i + 1 => by
    have ih := Sm.mlO1 (low := low) y h hK hP ha hb i
    have hx := Sm.mlX (low := low) h hK hP ha hb i
    intro j
    simp only [mlO]
    rw [getD_adL (mlO_len _ _ _ _ _ _), getD_adL (mlO_len _ _ _ _ _ _), getD_adL (mlO_len _ _ _ _ _ _)]
    split
    · rw [getD_timesL, getD_timesL, getD_timesL]
      exact mod_lin (ih j) (mod_mulr (hx j))
    · exact ih j
/-- In the second. -/
theorem Sm.mlO2 {P K : Nat} {low a b c : List Nat} (x : List Nat) (h : Sm P a b c) : ∀ i, Sm P (mlO P K low x a i) (mlO P K low x b i) (mlO P K low x c i)
  | 0 => Sm.rep P 7
  | i + 1 => by
    have ih := Sm.mlO2 (low := low) (K := K) x h i
    intro j
    simp only [mlO]
    rw [getD_adL (mlO_len _ _ _ _ _ _), getD_adL (mlO_len _ _ _ _ _ _), getD_adL (mlO_len _ _ _ _ _ _)]
    split
    · rw [getD_timesL, getD_timesL, getD_timesL]
      exact mod_lin (ih j) (mod_mull (h i))
    · exact ih j
theorem Sm.ofI {P i t t' t'' : Nat} {b b' b'' o o' o'' : List Nat} (ho : Sm P o o' o'') (h1 : o.length = o''.length) (h2 : o'.length = o''.length) (hb : ∀ j, (t'' * b''.getD j 0) % P = (t * b.getD j 0 + t' * b'.getD j 0) % P) : ∀ j, Sm P (pdI P t i b o j) (pdI P t' i b' o' j) (pdI P t'' i b'' o'' j)
  | 0 => ho
  | j + 1 => by
    have ih := Sm.ofI (i := i) ho h1 h2 hb j
    simp only [pdI]
    exact ih.set (by rw [pdI_len, pdI_len, h1]) (by rw [pdI_len, pdI_len, h2]) (mod_lin (ih _) (hb j))
theorem Sm.ofO1 {P K : Nat} {a a' a'' : List Nat} (b : List Nat) (h : Sm P a a' a'') : ∀ i, Sm P (pdO P K a b i) (pdO P K a' b i) (pdO P K a'' b i)
  | 0 => Sm.rep _ _
  | i + 1 => (Sm.ofO1 b h i).ofI (by rw [pdO_len, pdO_len]) (by rw [pdO_len, pdO_len]) (fun j => mod_mulr (h i)) _
theorem Sm.ofO2 {P K : Nat} {b b' b'' : List Nat} (a : List Nat) (h : Sm P b b' b'') : ∀ i, Sm P (pdO P K a b i) (pdO P K a b' i) (pdO P K a b'' i)
  | 0 => Sm.rep _ _
  | i + 1 => (Sm.ofO2 a h i).ofI (by rw [pdO_len, pdO_len]) (by rw [pdO_len, pdO_len]) (fun j => mod_mull (h j)) _
theorem Sm.orI {P c c' c'' base : Nat} {d a a' a'' : List Nat} (hP : 1 ≤ P) (h : Sm P a a' a'') (h1 : a.length = a''.length) (h2 : a'.length = a''.length) (hc : c'' = (c + c') % P) : ∀ j, Sm P (rdI P c base d a j) (rdI P c' base d a' j) (rdI P c'' base d a'' j)
  | 0 => h
  | j + 1 => by
    have ih := Sm.orI (base := base) (d := d) hP h h1 h2 hc j
    simp only [rdI]
    refine ih.set (by rw [rdI_len, rdI_len, h1]) (by rw [rdI_len, rdI_len, h2]) ?_
    unfold rN
    refine mod_lin (ih _) ?_
    have e : c'' * d.getD j 0 % P = (c * d.getD j 0 % P + c' * d.getD j 0 % P) % P := by rw [mod_mulr hc, Nat.add_mod]
    rw [e]
    exact mod_opp (Nat.mod_lt _ (by omega)) (Nat.mod_lt _ (by omega))
theorem Sm.orO {P n k : Nat} {d a a' a'' : List Nat} (hP : 1 ≤ P) (h : Sm P a a' a'') (h1 : a.length = a''.length) (h2 : a'.length = a''.length) : ∀ s, Sm P (rdO P n k d a s) (rdO P n k d a' s) (rdO P n k d a'' s)
  | 0 => h
  | s + 1 => by
    have ih := Sm.orO (n := n) (k := k) (d := d) hP h h1 h2 s
    simp only [rdO]
    exact Sm.orI hP (ih.set (by rw [rdO_len, rdO_len, h1]) (by rw [rdO_len, rdO_len, h2]) (by simp)) (by rw [List.length_set, List.length_set, rdO_len, rdO_len, h1]) (by rw [List.length_set, List.length_set, rdO_len, rdO_len, h2]) (ih _) _
end Go.Proofs.YthdlhfgeminoiaaDoor
