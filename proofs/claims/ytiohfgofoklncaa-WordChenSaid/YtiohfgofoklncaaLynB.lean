/-
  Plain laws: a Lyndon word told by looking at each end; the first factor. No program in sight, no condition.
-/
import Derived.Test.YtiohfgofoklncaaDuval
namespace Go.Proofs.Ytiohfgofoklncaa.Lex

/-- A Lyndon word, by looking at each end. -/
def lynB (l : List Int) : Bool := !l.isEmpty && (List.range l.length).all fun i => i == 0 || ahead l (l.drop i)

theorem lynB_iff (l : List Int) : lynB l = true ↔ Lyn l := by
  unfold lynB Lyn
  simp only [Bool.and_eq_true, Bool.not_eq_true', List.isEmpty_eq_false_iff, List.all_eq_true, List.mem_range, Bool.or_eq_true, beq_iff_eq]
  constructor
  · rintro ⟨h1, h2⟩
    refine ⟨h1, fun p s h hp hs => ?_⟩
    have hlen : p.length < l.length := by
      rw [h, List.length_append]
      have := List.length_pos_iff.2 hs
      omega
    rcases h2 p.length hlen with h3 | h3
    · exact absurd (List.eq_nil_of_length_eq_zero h3) hp
    · rw [h] at h3
      rw [List.drop_left] at h3
      rw [h]; exact h3
  · rintro ⟨h1, h2⟩
    refine ⟨h1, fun i hi => ?_⟩
    by_cases h0 : i = 0
    · exact .inl h0
    · right
      refine h2 (l.take i) (l.drop i) (List.take_append_drop i l).symm ?_ ?_
      · intro e
        have := congrArg List.length e
        rw [List.length_take, List.length_nil] at this
        omega
      · intro e
        have := congrArg List.length e
        simp at this
        omega

theorem lynB_of {l : List Int} {b : Bool} (h : b = true ↔ Lyn l) : b = lynB l := by
  rw [Bool.eq_iff_iff, h, lynB_iff]

/-- Each end looked at so far is behind. -/
theorem lynB_false {l : List Int} {i : Nat} (h0 : i ≠ 0) (hi : i < l.length) (h : ahead l (l.drop i) = false) : lynB l = false := by
  cases hb : lynB l with
  | false => rfl
  | true =>
    unfold lynB at hb
    simp only [Bool.and_eq_true, List.all_eq_true, List.mem_range, Bool.or_eq_true, beq_iff_eq] at hb
    rcases hb.2 i hi with h | h'
    · exact absurd h h0
    · rw [h] at h'; cases h'
theorem lynB_true {l : List Int} (hne : l ≠ []) (h : ∀ i, 1 ≤ i → i < l.length → ahead l (l.drop i) = true) : lynB l = true := by
  unfold lynB
  simp only [Bool.and_eq_true, Bool.not_eq_true', List.isEmpty_eq_false_iff, List.all_eq_true, List.mem_range, Bool.or_eq_true, beq_iff_eq]
  refine ⟨hne, fun i hi => ?_⟩
  by_cases h0 : i = 0
  · exact .inl h0
  · exact .inr (h i (by omega) hi)

theorem made_nil {F : List (List Int)} (h : Made [] F) : F = [] := by
  cases F with
  | nil => rfl
  | cons f F =>
    have := h.1
    simp at this
    exact absurd this.1 (h.2.1 f (by simp)).1

theorem made_first {l f : List Int} {G : List (List Int)} (h : Made l (f :: G)) : (f.length = l.length) ↔ Lyn l := by
  have hl : l = f ++ G.flatten := h.1
  constructor
  · intro e
    have : G.flatten = [] := by
      have := congrArg List.length hl
      simp at this
      apply List.eq_nil_of_length_eq_zero
      simp
      omega
    rw [this, List.append_nil] at hl
    rw [hl]
    exact h.2.1 f (by simp)
  · intro hL
    have h1 := made_longest (p := l) (q := []) (by rw [List.append_nil]; exact h) hL
    have h2 := congrArg List.length hl
    rw [List.length_append] at h2
    omega

theorem made_ne {l : List Int} {F : List (List Int)} (h : Made l F) (hne : l ≠ []) : ∃ f G, F = f :: G := by
  cases F with
  | nil => exact absurd h.1 (by simpa using hne)
  | cons f G => exact ⟨f, G, rfl⟩

theorem ahead_raise2 : ∀ {x y z V W : List Int} {b c : Int}, ahead (x ++ V) (y ++ b :: z) = true → b < c → y.length < x.length → ahead (x ++ W) (y ++ [c]) = true
  | [], y, _, _, _, _, _, _, _, h => by simp at h
  | x0 :: xs, [], z, V, W, b, c, h, hbc, _ => by
    simp only [List.nil_append, ahead, List.cons_append] at h ⊢
    by_cases e : x0 = b
    · rw [if_neg (by omega)]; simp; omega
    · rw [if_neg e] at h
      have : x0 < b := by simpa using h
      rw [if_neg (by omega)]; simp; omega
  | x0 :: xs, y0 :: ys, z, V, W, b, c, h, hbc, hl => by
    simp only [List.cons_append, ahead] at h ⊢
    by_cases e : x0 = y0
    · rw [if_pos e] at h ⊢
      exact ahead_raise2 h hbc (by simp at hl; exact hl)
    · rw [if_neg e] at h ⊢
      exact h

/-- A letter of a Lyndon word raised, and the end cut off: a Lyndon word again. -/
theorem lyn_raise {p r : List Int} {a c : Int} (h : Lyn (p ++ a :: r)) (hac : a < c) : Lyn (p ++ [c]) := by
  refine ⟨by simp, fun x s hxs hx hs => ?_⟩
  obtain ⟨y, h1, h2⟩ : ∃ y, p = x ++ y ∧ s = y ++ [c] := by
    rcases parts hxs with ⟨y, h1, h2⟩ | ⟨p', h1, h2⟩
    · exact ⟨y, h1, h2⟩
    · have := congrArg List.length h2
      have h4 := List.length_pos_iff.2 hs
      simp only [List.length_cons, List.length_nil, List.length_append] at this
      have h5 : p' = [] := List.eq_nil_of_length_eq_zero (by omega)
      subst h5
      exact ⟨[], by simpa using h1.symm, by simpa using h2.symm⟩
  rw [h2]
  have h3 := h.2 x (y ++ a :: r) (by rw [h1]; simp) hx (by simp)
  rw [h1] at h3 ⊢
  rw [List.append_assoc] at h3
  refine ahead_raise2 (x := x ++ y) (V := a :: r) (z := r) (b := a) (by rw [List.append_assoc]; exact h3) hac ?_
  have := List.length_pos_iff.2 hx
  rw [List.length_append]; omega

end Go.Proofs.Ytiohfgofoklncaa.Lex
