/-
  The tables that SomeOf lays are tournaments; so of up to 5 players: can be just if one is. No program in sight.
-/
import Derived.Test.YthbpdfkaacgpoaaTlanK
import Derived.Test.YthbpdfkaacgpoaaTlan
namespace Go.Proofs.Ythbpdfkaacgpoaa
set_option linter.unusedVariables false
open Go.RowKit

theorem idx_inj {N i j a b : Nat} (hj : j < N) (hb : b < N) (h : i * N + j = a * N + b) : i = a ∧ j = b := by
  have h1 : (i * N + j) / N = i := by rw [Nat.mul_comm, Nat.mul_add_div (by omega), Nat.div_eq_of_lt hj]; omega
  have h2 : (a * N + b) / N = a := by rw [Nat.mul_comm, Nat.mul_add_div (by omega), Nat.div_eq_of_lt hb]; omega
  rw [h, h2] at h1
  subst h1
  omega
theorem gD_set {X : List Int} {i k : Nat} {x : Int} (hi : i < X.length) : gD (X.set i x) k = if k = i then x else gD X k := by
  unfold gD
  rw [List.getD_eq_getElem?_getD, List.getD_eq_getElem?_getD, List.getElem?_set]
  by_cases h : i = k
  · rw [if_pos h, if_pos hi, if_pos h.symm]; rfl
  · rw [if_neg h, if_neg (fun e => h e.symm)]
/-- Pairs that are behind are decided; those ahead are not; nobody beats himself. -/
def HalfT (N : Nat) (X : List Int) (a b : Nat) : Prop :=
  X.length = N * N ∧ (∀ i, i < N → gD X (i * N + i) = 0) ∧ ∀ i j, i < N → j < i → ((i < a ∨ i = a ∧ j < b) → gD X (i * N + j) + gD X (j * N + i) = 1) ∧ (¬ (i < a ∨ i = a ∧ j < b) → gD X (i * N + j) = 0 ∧ gD X (j * N + i) = 0)
theorem half_step {N a b : Nat} {X : List Int} (h : HalfT N X a b) (ha : a < N) (hb : b < a) {k : Nat} (hk : k = a * N + b ∨ k = b * N + a) : HalfT N (X.set k 1) a (b + 1) := by
  obtain ⟨h1, h2, h3⟩ := h
  have hkl : k < X.length := by
    rw [h1]
    rcases hk with e | e
    · rw [e]; exact pos_lt ha (by omega)
    · rw [e]; exact pos_lt (by omega) ha
  refine ⟨by rw [List.length_set, h1], fun i hi => ?_, fun i j hi hj => ?_⟩
  · rw [gD_set hkl, if_neg (fun e => ?_)]
    · exact h2 i hi
    · rcases hk with e2 | e2
      · have := idx_inj hi (by omega) (e.trans e2); omega
      · have := idx_inj hi ha (e.trans e2); omega
  · obtain ⟨g1, g2⟩ := h3 i j hi hj
    rw [gD_set hkl, gD_set hkl]
    by_cases hij : i = a ∧ j = b
    · obtain ⟨rfl, rfl⟩ := hij
      obtain ⟨z1, z2⟩ := g2 (by omega)
      refine ⟨fun _ => ?_, fun hn => absurd (.inr ⟨rfl, by omega⟩) hn⟩
      have hne : i * N + j ≠ j * N + i := fun e => by have := idx_inj (by omega) hi e; omega
      rcases hk with e | e
      · rw [if_pos e.symm, if_neg (fun e2 => hne (e2.trans e).symm), z2]; rfl
      · rw [if_pos e.symm, if_neg (fun e2 => hne (e2.trans e)), z1]; rfl
    · have n1 : i * N + j ≠ k := fun e => by
        rcases hk with e2 | e2
        · have := idx_inj (by omega) (by omega) (e.trans e2); exact hij this
        · have := idx_inj (by omega) ha (e.trans e2); omega
      have n2 : j * N + i ≠ k := fun e => by
        rcases hk with e2 | e2
        · have := idx_inj hi (by omega) (e.trans e2); omega
        · have := idx_inj hi ha (e.trans e2); exact hij ⟨this.2, this.1⟩
      rw [if_neg n1, if_neg n2]
      exact ⟨fun hh => g1 (by omega), fun hh => g2 (by omega)⟩
theorem celR_half {N code a : Nat} {X : List Int} (ha : a < N) (h : HalfT N X a 0) : ∀ b, b ≤ a → HalfT N (celR N code a X b) a b
  | 0, _ => h
  | b + 1, hb => by
    have ih := celR_half (code := code) ha h b (by omega)
    rw [celR]
    split
    · exact half_step ih ha (by omega) (.inl rfl)
    · exact half_step ih ha (by omega) (.inr rfl)
theorem celA_half (N code : Nat) : ∀ a, a ≤ N → HalfT N (celA N code a) a 0
  | 0, _ => by
    have hz : ∀ k, gD (celA N code 0) k = 0 := fun k => by
      unfold gD
      rw [List.getD_eq_getElem?_getD, celA, List.getElem?_replicate]
      split <;> rfl
    exact ⟨by simp [celA], fun i _ => hz _, fun i j _ _ => ⟨fun h => by omega, fun _ => ⟨hz _, hz _⟩⟩⟩
  | a + 1, ha => by
    obtain ⟨h1, h2, h3⟩ := celR_half (code := code) (a := a) (by omega) (celA_half N code a (by omega)) a (Nat.le_refl _)
    refine ⟨h1, h2, fun i j hi hj => ?_⟩
    obtain ⟨g1, g2⟩ := h3 i j hi hj
    exact ⟨fun hh => g1 (by omega), fun hh => g2 (by omega)⟩
theorem celA_tour (N code : Nat) : (celA N code N).any off01 = false ∧ tB N (celA N code N) = false := by
  obtain ⟨h1, h2, h3⟩ := celA_half N code N (Nat.le_refl _)
  refine ⟨?_, tB_no fun i j hi hj => ?_⟩
  · rw [List.any_eq_false]
    intro x hx
    unfold off01
    rcases celA_01 N code N x hx with e | e <;> rw [e] <;> decide
  · unfold badAt
    by_cases e : i = j
    · rw [if_pos e]
      subst e
      rw [h2 i hi]
      rfl
    · rw [if_neg e, beq_eq_false_iff_ne]
      have := (h3 i j hi (by omega)).1 (.inl hi)
      omega
/-- Could is: some tournament has these scores. -/
theorem some_same {l : List Int} (h1 : 1 ≤ l.length) (h5 : l.length ≤ 5) (hoff : l.any (offN l.length) = false) : somB l l.length (2 ^ (l.length * (l.length - 1) / 2)) = couS l := by
  have hr : ∀ x ∈ l, 0 ≤ x ∧ x < (l.length : Int) := fun x hx => by
    have := List.any_eq_false.1 hoff x hx
    unfold offN at this
    simp at this
    omega
  have hm := allL_mem l.length l hr
  cases hs : couS l with
  | true =>
    obtain ⟨c, hc, he⟩ := wit_ex h1 h5 l hm (fun x hx => (hr x hx).1) hs
    exact somB_yes hc he
  | false =>
    refine somB_no fun code hcode he => ?_
    obtain ⟨q1, q2⟩ := celA_tour l.length code
    have h2 := land_could h1 (by omega) q1 q2
    rw [he] at h2
    unfold coE at h2
    rw [if_neg (by omega), if_neg (by omega), if_neg (by rw [hoff]; decide)] at h2
    unfold couS at hs
    rw [hs] at h2
    cases h2
end Go.Proofs.Ythbpdfkaacgpoaa
