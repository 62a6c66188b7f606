/-
  How often a permutation goes till nothing is moved: the walks over perm.order, Order and parterreref1.PermOrder. Conditions: the slice can be read; a permutation where it is said.
-/
import Derived.Test.YtgfdddknajeknaaDoorDPinv
import Derived.Test.YtgfdddknajeknaaDoorWints
namespace Go.Proofs.YtgfdddknajeknaaDoor
set_option linter.unusedVariables false
open Go.RowKit

/-- The least common multiple of all. -/
def lcmL (L : List Nat) : Nat := L.foldl Nat.lcm 1
theorem lcmL_snoc (L : List Nat) (x : Nat) : lcmL (L ++ [x]) = Nat.lcm (lcmL L) x := by simp [lcmL]
theorem lcm_fold (x : Nat) : ∀ (L : List Nat) (a : Nat), L.foldl Nat.lcm a ∣ x ↔ a ∣ x ∧ ∀ y ∈ L, y ∣ x
  | [], a => by simp
  | y :: L, a => by
    rw [List.foldl_cons, lcm_fold x L, Nat.lcm_dvd_iff]
    simp only [List.mem_cons, forall_eq_or_imp]
    exact ⟨fun ⟨⟨h1, h2⟩, h3⟩ => ⟨h1, h2, h3⟩, fun ⟨h1, h2, h3⟩ => ⟨⟨h1, h2⟩, h3⟩⟩
theorem lcmL_dvd (L : List Nat) (x : Nat) : lcmL L ∣ x ↔ ∀ y ∈ L, y ∣ x := by
  unfold lcmL
  rw [lcm_fold]
  simp
theorem lcm_pos_fold : ∀ (L : List Nat) (a : Nat), 0 < a → (∀ y ∈ L, 0 < y) → 0 < L.foldl Nat.lcm a
  | [], a, h, _ => h
  | y :: L, a, h, hy => by
    rw [List.foldl_cons]
    exact lcm_pos_fold L _ (Nat.lcm_pos h (hy y (by simp))) (fun z hz => hy z (by simp [hz]))
theorem lcm_bd_fold : ∀ (L : List Nat) (a : Nat), (∀ y ∈ L, 0 < y ∧ y ≤ 12) → 0 < a → L.foldl Nat.lcm a ≤ a * 12 ^ L.length
  | [], a, _, _ => by simp
  | y :: L, a, hy, ha => by
    rw [List.foldl_cons]
    have h1 := hy y (by simp)
    have h2 := lcm_bd_fold L (Nat.lcm a y) (fun z hz => hy z (by simp [hz])) (Nat.lcm_pos ha h1.1)
    have h3 : Nat.lcm a y ≤ a * y := Nat.le_of_dvd (Nat.mul_pos ha h1.1) (Nat.lcm_dvd_mul a y)
    have h4 : a * y ≤ a * 12 := Nat.mul_le_mul_left a h1.2
    refine Nat.le_trans h2 ?_
    rw [List.length_cons, Nat.pow_succ, Nat.mul_comm (12 ^ L.length) 12, ← Nat.mul_assoc]
    exact Nat.mul_le_mul_right _ (Nat.le_trans h3 h4)
/-- The first multiple that the other divides. -/
theorem lcm_first {o len t : Nat} (ho : 0 < o) (hl : 0 < len) (h1 : 1 ≤ t) (hd : len ∣ o * t) (hno : ∀ s, 1 ≤ s → s < t → ¬ len ∣ o * s) : Nat.lcm o len = o * t := by
  obtain ⟨s, hs⟩ := Nat.dvd_lcm_left o len
  have hpos := Nat.lcm_pos ho hl
  have hs1 : 1 ≤ s := by
    rcases Nat.eq_zero_or_pos s with h | h
    · rw [h, Nat.mul_zero] at hs; omega
    · exact h
  have h2 : len ∣ o * s := by rw [← hs]; exact Nat.dvd_lcm_right o len
  have h3 : Nat.lcm o len ∣ o * t := Nat.lcm_dvd (Nat.dvd_mul_right o t) hd
  have h4 : Nat.lcm o len ≤ o * t := Nat.le_of_dvd (Nat.mul_pos ho h1) h3
  rw [hs] at h4
  have h5 : s ≤ t := Nat.le_of_mul_le_mul_left h4 ho
  have h6 : t ≤ s := by
    rcases Nat.lt_or_ge s t with h | h
    · exact absurd h2 (hno s hs1 h)
    · exact h
  rw [hs, show s = t by omega]

/-- The lengths of the cycles. -/
def cycLen (f : Nat → Nat) (N : Nat) : List Nat := (cycL f N N).map List.length
theorem cycLen_mem {f : Nat → Nat} {N : Nat} (P : Pm N f) : ∀ y ∈ cycLen f N, 0 < y ∧ y ≤ N := by
  intro y hy
  simp only [cycLen, cycL, List.mem_map] at hy
  obtain ⟨L, ⟨i, hi, rfl⟩, rfl⟩ := hy
  have h := P.per_spec (List.mem_range.1 (List.mem_filter.1 hi).1)
  rw [orb_len]
  omega
theorem cycLen_len (f : Nat → Nat) (N : Nat) : (cycLen f N).length ≤ N := by
  unfold cycLen cycL
  rw [List.length_map, List.length_map]
  exact Nat.le_trans (List.length_filter_le _ _) (by simp)
def ordN (f : Nat → Nat) (N : Nat) : Nat := lcmL (cycLen f N)
theorem Pm.ord_dvd {f : Nat → Nat} {N : Nat} (P : Pm N f) (x : Nat) : ordN f N ∣ x ↔ ∀ i, i < N → it f x i = i := by
  unfold ordN
  rw [lcmL_dvd]
  constructor
  · intro h i hi
    obtain ⟨a, ha, hj⟩ := P.one_lead hi
    obtain ⟨hl, hr⟩ := (hj a ha).2 rfl
    rw [P.it_back hi, P.per_reach ha hr]
    refine Nat.mod_eq_zero_of_dvd (h _ ?_)
    simp only [cycLen, cycL, List.mem_map]
    exact ⟨_, ⟨a, List.mem_filter.2 ⟨List.mem_range.2 ha, hl⟩, rfl⟩, orb_len _ _ _⟩
  · intro h y hy
    simp only [cycLen, cycL, List.mem_map] at hy
    obtain ⟨L, ⟨i, hi, rfl⟩, rfl⟩ := hy
    have hi' := List.mem_range.1 (List.mem_filter.1 hi).1
    rw [orb_len]
    exact Nat.dvd_of_mod_eq_zero ((P.it_back hi' x).1 (h i hi'))
theorem Pm.ord_pos {f : Nat → Nat} {N : Nat} (P : Pm N f) : 0 < ordN f N := lcm_pos_fold _ 1 (by omega) (fun y hy => (cycLen_mem P y hy).1)
theorem Pm.ord_le {f : Nat → Nat} {N : Nat} (P : Pm N f) (h12 : N ≤ 12) (k : Nat) : 0 < lcmL ((cycLen f N).take k) ∧ lcmL ((cycLen f N).take k) ≤ 8916100448256 := by
  have hm : ∀ y ∈ (cycLen f N).take k, 0 < y ∧ y ≤ 12 := fun y hy => by have := cycLen_mem P y (List.mem_of_mem_take hy); omega
  refine ⟨lcm_pos_fold _ 1 (by omega) (fun y hy => (hm y hy).1), ?_⟩
  have h1 := lcm_bd_fold _ 1 hm (by omega)
  rw [Nat.one_mul] at h1
  have h2 : ((cycLen f N).take k).length ≤ 12 := by
    rw [List.length_take]
    have := cycLen_len f N
    omega
  have h3 : 12 ^ ((cycLen f N).take k).length ≤ 12 ^ 12 := Nat.pow_le_pow_right (by omega) h2
  have h4 : (12 : Nat) ^ 12 = 8916100448256 := by decide
  unfold lcmL
  omega

end Go.Proofs.YtgfdddknajeknaaDoor
