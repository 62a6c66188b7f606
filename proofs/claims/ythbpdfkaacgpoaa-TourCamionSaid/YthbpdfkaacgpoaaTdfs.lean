/-
  Lists of all players in which each beats the next: in order, one after the other, until one is content. No program in sight.
-/
import Derived.Test.YthbpdfkaacgpoaaBase
namespace Go.Proofs.Ythbpdfkaacgpoaa
set_option linter.unusedVariables false
open Go.RowKit

/-- May p come next? -/
def okB (SB : Nat → Bool) (l : List Int) (p : Nat) : Bool := !(decide ((p : Int) ∈ l)) && (decide (l.length = 0) || SB ((l.getD (l.length - 1) 0).toNat * 9 + p))
/-- What can come of a list, so many more to come. -/
def comp (N : Nat) (SB : Nat → Bool) : Nat → List Int → List (List Int)
  | 0, l => [l]
  | f + 1, l => (List.range N).flatMap fun p => if okB SB l p then comp N SB f (l ++ [(p : Int)]) else []
/-- What can come of it by the first so many players. -/
def compT (N : Nat) (SB : Nat → Bool) (f : Nat) (l : List Int) (t : Nat) : List (List Int) := (List.range t).flatMap fun p => if okB SB l p then comp N SB f (l ++ [(p : Int)]) else []
theorem compT_zero (N : Nat) (SB : Nat → Bool) (f : Nat) (l : List Int) : compT N SB f l 0 = [] := rfl
theorem compT_succ (N : Nat) (SB : Nat → Bool) (f : Nat) (l : List Int) (t : Nat) : compT N SB f l (t + 1) = compT N SB f l t ++ if okB SB l t then comp N SB f (l ++ [(t : Int)]) else [] := by
  unfold compT
  rw [List.range_succ, List.flatMap_append, List.flatMap_cons, List.flatMap_nil, List.append_nil]
theorem comp_succ (N : Nat) (SB : Nat → Bool) (f : Nat) (l : List Int) : comp N SB (f + 1) l = compT N SB f l N := rfl
section
variable {σ : Type} (step : σ → List Int → σ × Bool)
/-- One after the other, until one is content. -/
def foldU (s : σ) : List (List Int) → σ × Bool
  | [] => (s, false)
  | x :: xs => if (step s x).2 then ((step s x).1, true) else foldU (step s x).1 xs
theorem foldU_app (s : σ) (a b : List (List Int)) : foldU step s (a ++ b) = if (foldU step s a).2 then foldU step s a else foldU step (foldU step s a).1 b := by
  induction a generalizing s with
  | nil => rfl
  | cons x xs ih =>
    simp only [List.cons_append, foldU]
    by_cases h : (step s x).2 = true
    · simp [h]
    · simp [h, ih]
theorem foldU_stop {s : σ} {a b : List (List Int)} (h : (foldU step s a).2 = true) : foldU step s (a ++ b) = foldU step s a := by rw [foldU_app, if_pos h]
theorem foldU_go {s : σ} {a b : List (List Int)} (h : (foldU step s a).2 = false) : foldU step s (a ++ b) = foldU step (foldU step s a).1 b := by rw [foldU_app, h, if_neg (by decide)]
/-- How often at most. -/
theorem foldU_load {load : σ → Nat} (hl : ∀ s x, load (step s x).1 ≤ load s + 1) (s : σ) (a : List (List Int)) : load (foldU step s a).1 ≤ load s + a.length := by
  induction a generalizing s with
  | nil => exact Nat.le_refl _
  | cons x xs ih =>
    have h1 := hl s x
    simp only [foldU]
    split
    · rw [List.length_cons]; show load (step s x).1 ≤ _; omega
    · have := ih (step s x).1
      rw [List.length_cons]
      omega
end
theorem compT_mono (N : Nat) (SB : Nat → Bool) (f : Nat) (l : List Int) (t : Nat) : ∀ d, (compT N SB f l t).length ≤ (compT N SB f l (t + d)).length
  | 0 => Nat.le_refl _
  | d + 1 => by
    rw [← Nat.add_assoc, compT_succ, List.length_append]
    have := compT_mono N SB f l t d
    omega
theorem compT_pre (N : Nat) (SB : Nat → Bool) (f : Nat) (l : List Int) {t : Nat} (ht : t ≤ N) : ∃ r, compT N SB f l N = compT N SB f l t ++ r := by
  have h : ∀ d, ∃ r, compT N SB f l (t + d) = compT N SB f l t ++ r := fun d => by
    induction d with
    | zero => exact ⟨[], by simp⟩
    | succ d ih =>
      obtain ⟨r, hr⟩ := ih
      exact ⟨r ++ _, by rw [← Nat.add_assoc, compT_succ, hr, List.append_assoc]⟩
  obtain ⟨d, hd⟩ := Nat.exists_eq_add_of_le ht
  obtain ⟨r, hr⟩ := h d
  rw [← hd] at hr
  exact ⟨r, hr⟩
theorem compT_le {N : Nat} {SB : Nat → Bool} {f : Nat} {l : List Int} {t : Nat} (ht : t ≤ N) : (compT N SB f l t).length ≤ (comp N SB (f + 1) l).length := by
  rw [comp_succ]
  obtain ⟨d, hd⟩ := Nat.exists_eq_add_of_le ht
  have := compT_mono N SB f l t d
  rw [← hd] at this
  exact this
end Go.Proofs.Ythbpdfkaacgpoaa
