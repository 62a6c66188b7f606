/-
  Sorting by insertion, swap by swap: it orders and keeps what there is. No program in sight.
-/
import Derived.Test.YthbpdfkaacgpoaaBase
namespace Go.Proofs.Ythbpdfkaacgpoaa
set_option linter.unusedVariables false
open Go.RowKit

section
variable {α : Type} (lt : α → α → Bool) (d : α)
/-- The j-th one is moved down. -/
def insJ : Nat → List α → List α
  | 0, X => X
  | j + 1, X => if lt (X.getD (j + 1) d) (X.getD j d) = true then insJ j ((X.set (j + 1) (X.getD j d)).set j (X.getD (j + 1) d)) else X
/-- The first so many are in order. -/
def insI : Nat → List α → List α
  | 0, X => X
  | k + 1, X => insJ lt d k (insI k X)
theorem insJ_len : ∀ (j : Nat) (X : List α), (insJ lt d j X).length = X.length
  | 0, _ => rfl
  | j + 1, X => by
    rw [insJ]
    split
    · rw [insJ_len j]; simp
    · rfl
theorem insI_len : ∀ (k : Nat) (X : List α), (insI lt d k X).length = X.length
  | 0, _ => rfl
  | k + 1, X => by rw [insI, insJ_len, insI_len k]
theorem insI_one (X : List α) : insI lt d 1 X = X := rfl
end
section
variable {α : Type} {lt : α → α → Bool} {d : α}
/-- What one insertion does: it stays behind some, goes ahead of the others, each of which it is ahead of. -/
theorem insJ_split : ∀ (P : List α) (x : α) (Q : List α), ∃ A B, P = A ++ B ∧ insJ lt d P.length (P ++ x :: Q) = A ++ x :: B ++ Q ∧ (∀ b ∈ B, lt x b = true) ∧ (∀ a, A.getLast? = some a → lt x a = false)
  | P, x, Q => by
    induction h : P.length generalizing P Q with
    | zero =>
      obtain rfl := List.eq_nil_of_length_eq_zero h
      exact ⟨[], [], rfl, rfl, by simp, by simp⟩
    | succ k ih =>
      rcases List.eq_nil_or_concat P with hP | ⟨P', p, hP⟩
      · rw [hP] at h; cases h
      · have hP : P = P' ++ [p] := by rw [hP]; simp
        subst hP
        have hk : P'.length = k := by simpa using h
        have e1 : (P' ++ [p] ++ x :: Q).getD (k + 1) d = x := by
          rw [List.getD_eq_getElem?_getD, List.getElem?_append_right (by simp; omega)]
          simp [hk]
        have e2 : (P' ++ [p] ++ x :: Q).getD k d = p := by
          rw [List.append_assoc, List.getD_eq_getElem?_getD, List.getElem?_append_right (by omega)]
          simp [hk]
        rw [insJ, e1, e2]
        by_cases hlt : lt x p = true
        · rw [if_pos hlt]
          have e3 : ((P' ++ [p] ++ x :: Q).set (k + 1) p).set k x = P' ++ x :: (p :: Q) := by
            rw [List.append_assoc, List.set_append_right _ _ (by omega), List.set_append_right _ _ (by omega)]
            simp [hk]
          rw [e3]
          obtain ⟨A, B, hAB, h2, h3, h4⟩ := ih P' (p :: Q) hk
          refine ⟨A, B ++ [p], by rw [hAB]; simp, by rw [h2]; simp, fun b hb => ?_, h4⟩
          rcases List.mem_append.1 hb with hb | hb
          · exact h3 b hb
          · simp at hb; rw [hb]; exact hlt
        · rw [if_neg hlt]
          refine ⟨P' ++ [p], [], by simp, by simp, by simp, fun a ha => ?_⟩
          simp at ha
          rw [← ha]
          simpa using hlt
/-- In order: none is ahead of one before it. -/
def Ord (lt : α → α → Bool) (X : List α) : Prop := X.Pairwise fun a b => lt b a = false
theorem insI_ok (has : ∀ a b, lt a b = true → lt b a = false) (htr : ∀ a b c, lt b a = false → lt c b = false → lt c a = false) : ∀ (k : Nat) (X : List α), k ≤ X.length → ∃ P Q, insI lt d k X = P ++ Q ∧ P.length = k ∧ Q = X.drop k ∧ P.Perm (X.take k) ∧ Ord lt P
  | 0, X, _ => ⟨[], X, rfl, rfl, rfl, List.Perm.refl _, List.Pairwise.nil⟩
  | k + 1, X, hk => by
    obtain ⟨P, Q, h1, h2, h3, h4, h5⟩ := insI_ok has htr k X (by omega)
    rw [insI, h1, h3]
    have hd : X.drop k = X[k] :: X.drop (k + 1) := List.drop_eq_getElem_cons (by omega)
    rw [hd]
    obtain ⟨A, B, hAB, e2, e3, e4⟩ := insJ_split (lt := lt) (d := d) P X[k] (X.drop (k + 1))
    rw [h2] at e2
    refine ⟨A ++ X[k] :: B, X.drop (k + 1), e2, ?_, rfl, ?_, ?_⟩
    · rw [hAB] at h2; simp at h2 ⊢; omega
    · rw [List.take_succ_eq_append_getElem (by omega)]
      refine List.perm_middle.trans ?_
      rw [← hAB]
      exact (h4.cons _).trans (List.perm_append_singleton _ _).symm
    · rw [hAB] at h5
      unfold Ord at h5 ⊢
      rw [List.pairwise_append] at h5 ⊢
      obtain ⟨q1, q2, q3⟩ := h5
      refine ⟨q1, List.pairwise_cons.2 ⟨fun b hb => has _ _ (e3 b hb), q2⟩, fun a ha b hb => ?_⟩
      rcases List.mem_cons.1 hb with hb | hb
      · subst hb
        rcases List.eq_nil_or_concat A with hA | ⟨A', z, hA⟩
        · rw [hA] at ha; cases ha
        · have hA : A = A' ++ [z] := by rw [hA]; simp
          subst hA
          have hz := e4 z (by simp)
          rcases List.mem_append.1 ha with h | h
          · rw [List.pairwise_append] at q1
            exact htr a z _ (q1.2.2 a h z (by simp)) hz
          · simp at h; rw [h]; exact hz
      · exact q3 a ha b hb
theorem insI_sorts (has : ∀ a b, lt a b = true → lt b a = false) (htr : ∀ a b c, lt b a = false → lt c b = false → lt c a = false) (X : List α) : (insI lt d X.length X).Perm X ∧ Ord lt (insI lt d X.length X) := by
  obtain ⟨P, Q, h1, h2, h3, h4, h5⟩ := insI_ok (d := d) has htr X.length X (Nat.le_refl _)
  rw [List.drop_length] at h3
  rw [List.take_length] at h4
  rw [h1, h3, List.append_nil]
  exact ⟨h4, h5⟩
end
end Go.Proofs.Ythbpdfkaacgpoaa
