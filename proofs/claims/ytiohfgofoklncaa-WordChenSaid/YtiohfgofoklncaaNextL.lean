/-
  Plain laws of the next Lyndon word no longer than a word. No program in sight, no condition.
-/
import Derived.Test.YtiohfgofoklncaaLynB
import Derived.Test.YtiohfgofoklncaaBru
namespace Go.Proofs.Ytiohfgofoklncaa

theorem round_self (l : List Int) : round' l l.length = l := by
  apply List.ext_getElem?
  intro i
  by_cases h : i < l.length
  · simp [round', h, Nat.mod_eq_of_lt h]
  · simp [round', h]

/-- Where the greatest letters at the end begin. -/
theorem trim_shape (x : Int) : ∀ (l : List Int), (∃ m, l = List.replicate m x) ∧ trim x l = [] ∨ ∃ p a m, l = p ++ a :: List.replicate m x ∧ a ≠ x ∧ trim x l = p ++ [a] := by
  have key : ∀ (r : List Int), ((∃ m, r = List.replicate m x) ∧ r.dropWhile (· == x) = []) ∨ ∃ q a m, r = List.replicate m x ++ a :: q ∧ a ≠ x ∧ r.dropWhile (· == x) = a :: q := by
    intro r
    induction r with
    | nil => exact .inl ⟨⟨0, rfl⟩, rfl⟩
    | cons y r ih =>
      by_cases e : y = x
      · subst e
        rcases ih with ⟨⟨m, h1⟩, h2⟩ | ⟨q, a, m, h1, h2, h3⟩
        · exact .inl ⟨⟨m + 1, by rw [List.replicate_succ, ← h1]⟩, by simpa using h2⟩
        · exact .inr ⟨q, a, m + 1, by rw [List.replicate_succ, List.cons_append, ← h1], h2, by simpa using h3⟩
      · exact .inr ⟨r, y, 0, rfl, e, by simp [e]⟩
  intro l
  rcases key l.reverse with ⟨⟨m, h1⟩, h2⟩ | ⟨q, a, m, h1, h2, h3⟩
  · left
    refine ⟨⟨m, ?_⟩, by unfold trim; rw [h2]; rfl⟩
    have := congrArg List.reverse h1
    simpa using this
  · right
    refine ⟨q.reverse, a, m, ?_, h2, by unfold trim; rw [h3]; simp⟩
    have := congrArg List.reverse h1
    simpa using this

/-- The next one: none; or a Lyndon word behind, no longer. -/
theorem nextL_lyn {k : Int} {l : List Int} (h : Lex.Lyn l) (hk : ∀ x ∈ l, x ≤ k - 1) :
    ((∃ m, l = List.replicate m (k - 1)) ∧ nextL k l l.length = []) ∨
    ∃ p a m, l = p ++ a :: List.replicate m (k - 1) ∧ a < k - 1 ∧ nextL k l l.length = p ++ [a + 1] ∧ Lex.Lyn (p ++ [a + 1]) ∧ Lex.ahead l (p ++ [a + 1]) = true := by
  unfold nextL
  rw [round_self]
  rcases trim_shape (k - 1) l with ⟨h1, h2⟩ | ⟨p, a, m, h1, h2, h3⟩
  · exact .inl ⟨h1, by rw [h2]; rfl⟩
  · right
    have ha : a ≤ k - 1 := hk a (by rw [h1]; simp)
    refine ⟨p, a, m, h1, by omega, by rw [h3, bump_snoc], ?_, ?_⟩
    · rw [h1] at h
      exact Lex.lyn_raise h (by omega)
    · rw [h1]
      exact Lex.ahead_at _ _ _ (by omega)
end Go.Proofs.Ytiohfgofoklncaa
