/-
  Who comes to whom: Warshall's closure in place; what it is of a tournament. No program in sight.
-/
import Derived.Test.YthbpdfkaacgpoaaTlredei
namespace Go.Proofs.Ythbpdfkaacgpoaa
set_option linter.unusedVariables false
open Go.RowKit

abbrev Rel := Nat → Nat → Bool
def upd (r : Rel) (i j : Nat) (v : Bool) : Rel := fun x y => if x = i ∧ y = j then v else r x y
def c3 (m i : Nat) (r : Rel) : Nat → Rel
  | 0 => r
  | j + 1 => upd (c3 m i r j) i j (c3 m i r j i j || (c3 m i r j i m && c3 m i r j m j))
def c2 (n m : Nat) (r : Rel) : Nat → Rel
  | 0 => r
  | i + 1 => c3 m i (c2 n m r i) n
def c1 (n : Nat) (r : Rel) : Nat → Rel
  | 0 => r
  | m + 1 => c2 n m (c1 n r m) n
theorem or_and_self (a b : Bool) : (a || (a && b)) = a := by cases a <;> cases b <;> rfl
theorem or_and_self2 (a b : Bool) : (a || (b && a)) = a := by cases a <;> cases b <;> rfl
theorem c3_eq (m i : Nat) (r : Rel) : ∀ k x y, c3 m i r k x y = if x = i ∧ y < k then (r x y || (r i m && r m y)) else r x y
  | 0, x, y => by simp [c3]
  | k + 1, x, y => by
    have ih := c3_eq m i r k
    rw [c3]
    unfold upd
    have e1 : c3 m i r k i k = r i k := by rw [ih, if_neg (by omega)]
    have e2 : c3 m i r k i m = r i m := by
      rw [ih]
      split
      · exact or_and_self _ _
      · rfl
    have e3 : c3 m i r k m k = r m k := by rw [ih, if_neg (by omega)]
    rw [e1, e2, e3]
    by_cases h : x = i ∧ y = k
    · obtain ⟨rfl, rfl⟩ := h
      rw [if_pos ⟨rfl, rfl⟩, if_pos ⟨rfl, by omega⟩]
    · rw [if_neg h, ih]
      by_cases h2 : x = i ∧ y < k
      · rw [if_pos h2, if_pos ⟨h2.1, by omega⟩]
      · rw [if_neg h2, if_neg (by omega)]
theorem c2_eq (n m : Nat) (r : Rel) : ∀ k x y, c2 n m r k x y = if x < k ∧ y < n then (r x y || (r x m && r m y)) else r x y
  | 0, x, y => by simp [c2]
  | k + 1, x, y => by
    have ih := c2_eq n m r k
    rw [c2, c3_eq]
    have e1 : ∀ z, c2 n m r k k z = r k z := fun z => by rw [ih, if_neg (by omega)]
    have e2 : c2 n m r k m y = r m y := by
      rw [ih]
      split
      · exact or_and_self2 _ _
      · rfl
    rw [e1, e2]
    by_cases h : x = k ∧ y < n
    · obtain ⟨rfl, h⟩ := h
      rw [if_pos ⟨rfl, h⟩, if_pos ⟨by omega, h⟩, e1]
    · rw [if_neg h, ih]
      by_cases h2 : x < k ∧ y < n
      · rw [if_pos h2, if_pos ⟨by omega, h2.2⟩]
      · rw [if_neg h2, if_neg (by omega)]
theorem c1_eq {n : Nat} (r : Rel) {m x y : Nat} (hx : x < n) (hy : y < n) : c1 n r (m + 1) x y = (c1 n r m x y || (c1 n r m x m && c1 n r m m y)) := by
  rw [c1, c2_eq, if_pos ⟨hx, hy⟩]
/-- With everybody coming to himself it is the same. -/
theorem c1_self {n : Nat} {r t : Rel} (h : ∀ x y, x < n → y < n → t x y = (r x y || decide (x = y))) : ∀ m, m ≤ n → ∀ x y, x < n → y < n → c1 n t m x y = (c1 n r m x y || decide (x = y))
  | 0, _, x, y, hx, hy => h x y hx hy
  | m + 1, hm, x, y, hx, hy => by
    have ih := c1_self h m (by omega)
    rw [c1_eq t hx hy, c1_eq r hx hy, ih x y hx hy, ih x m hx (by omega), ih m y (by omega) hy]
    by_cases h1 : x = m
    · subst h1
      by_cases h2 : x = y
      · subst h2; simp
      · simp only [h2, decide_true, decide_false, Bool.or_true, Bool.or_false, Bool.true_and]
        cases c1 n r x x y <;> cases c1 n r x x x <;> rfl
    · by_cases h2 : m = y
      · subst h2
        simp only [h1, decide_true, decide_false, Bool.or_true, Bool.or_false, Bool.and_true]
        cases c1 n r m x m <;> cases c1 n r m m m <;> rfl
      · simp only [h1, h2, decide_false, Bool.or_false]
        cases c1 n r m x y <;> cases c1 n r m x m <;> cases c1 n r m m y <;> cases decide (x = y) <;> rfl
theorem c1_mono {n : Nat} (r : Rel) {x y : Nat} (hx : x < n) (hy : y < n) (h : r x y = true) : ∀ m, c1 n r m x y = true
  | 0 => h
  | m + 1 => by rw [c1_eq r hx hy, c1_mono r hx hy h m]; rfl
theorem c1_pivot {n : Nat} (r : Rel) : ∀ m, m ≤ n → ∀ k, k < m → ∀ x y, x < n → y < n → c1 n r m x k = true → c1 n r m k y = true → c1 n r m x y = true
  | 0, _, k, hk, _, _, _, _, _, _ => by omega
  | m + 1, hm, k, hk, x, y, hx, hy, h1, h2 => by
    have ih := c1_pivot (n := n) r m (by omega)
    rw [c1_eq (y := k) r hx (by omega), Bool.or_eq_true, Bool.and_eq_true] at h1
    rw [c1_eq (x := k) r (by omega) hy, Bool.or_eq_true, Bool.and_eq_true] at h2
    rw [c1_eq r hx hy, Bool.or_eq_true, Bool.and_eq_true]
    by_cases e : k = m
    · subst e
      have a1 : c1 n r k x k = true := by rcases h1 with h | h; exact h; exact h.1
      have a2 : c1 n r k k y = true := by rcases h2 with h | h; exact h; exact h.2
      exact .inr ⟨a1, a2⟩
    · rcases h1 with h1 | ⟨h1, h1'⟩ <;> rcases h2 with h2 | ⟨h2, h2'⟩
      · exact .inl (ih k (by omega) x y hx hy h1 h2)
      · exact .inr ⟨ih k (by omega) x m hx (by omega) h1 h2, h2'⟩
      · exact .inr ⟨h1, ih k (by omega) m y (by omega) hy h1' h2⟩
      · exact .inr ⟨h1, h2'⟩
theorem c1_trans {n : Nat} (r : Rel) {x y z : Nat} (hx : x < n) (hy : y < n) (hz : z < n) (h1 : c1 n r n x y = true) (h2 : c1 n r n y z = true) : c1 n r n x z = true := c1_pivot r n (Nat.le_refl _) y hy x z hx hz h1 h2
/-- Nobody comes out of what is closed. -/
theorem c1_closed {n : Nat} {r : Rel} {X : Nat → Prop} (hX : ∀ x y, x < n → y < n → X x → r x y = true → X y) : ∀ m, m ≤ n → ∀ x y, x < n → y < n → X x → c1 n r m x y = true → X y
  | 0, _, x, y, hx, hy, h, h1 => hX x y hx hy h h1
  | m + 1, hm, x, y, hx, hy, h, h1 => by
    have ih := c1_closed (n := n) (r := r) hX m (by omega)
    rw [c1_eq r hx hy, Bool.or_eq_true, Bool.and_eq_true] at h1
    rcases h1 with h1 | ⟨h1, h2⟩
    · exact ih x y hx hy h h1
    · exact ih m y (by omega) hy (ih x m hx (by omega) h h1) h2
end Go.Proofs.Ythbpdfkaacgpoaa
