/-
  What comes up is a list of players in which each beats the next. No program in sight.
-/
import Derived.Test.YthbpdfkaacgpoaaTham
namespace Go.Proofs.Ythbpdfkaacgpoaa
set_option linter.unusedVariables false
open Go.RowKit

theorem chn_snoc {b : Nat → Nat → Bool} {p : Nat} : ∀ (l : List Nat), chn b l → (∀ x, l.getLast? = some x → b x p = true) → chn b (l ++ [p])
  | [], _, _ => trivial
  | [x], _, h => ⟨h x rfl, trivial⟩
  | x :: y :: l, h, h2 => ⟨h.1, chn_snoc (y :: l) h.2 (fun z hz => h2 z (by rw [List.getLast?_cons_cons]; exact hz))⟩
/-- Each that comes up is such a list. -/
theorem comp_sound {N : Nat} {SB : Nat → Bool} : ∀ (f : Nat) (l : List Nat), chn (fun i j => SB (i * 9 + j)) l → l.Nodup → (∀ z ∈ l, z < N) → ∀ M ∈ comp N SB f (l.map fun z : Nat => (z : Int)), ∃ Q : List Nat, M = Q.map (fun z : Nat => (z : Int)) ∧ chn (fun i j => SB (i * 9 + j)) Q ∧ Q.Nodup ∧ (∀ z ∈ Q, z < N) ∧ Q.length = l.length + f
  | 0, l, h1, h2, h3, M, hM => by
    simp only [comp, List.mem_singleton] at hM
    exact ⟨l, hM, h1, h2, h3, rfl⟩
  | f + 1, l, h1, h2, h3, M, hM => by
    rw [comp, List.mem_flatMap] at hM
    obtain ⟨p, hp, hM⟩ := hM
    by_cases hok : okB SB (l.map fun z : Nat => (z : Int)) p = true
    · rw [if_pos hok] at hM
      unfold okB at hok
      rw [Bool.and_eq_true, Bool.not_eq_true', decide_eq_false_iff_not, Bool.or_eq_true, decide_eq_true_iff] at hok
      have hpl : p ∉ l := fun hm => hok.1 (List.mem_map.2 ⟨p, hm, rfl⟩)
      have e : (l.map fun z : Nat => (z : Int)) ++ [(p : Int)] = (l ++ [p]).map fun z : Nat => (z : Int) := by simp
      rw [e] at hM
      obtain ⟨Q, q1, q2, q3, q4, q5⟩ := comp_sound f (l ++ [p]) (chn_snoc l h1 (fun x hx => by
        rcases hok.2 with h | h
        · simp at h; subst h; cases hx
        · have hx2 : ((l.map fun z : Nat => (z : Int)).getD ((l.map fun z : Nat => (z : Int)).length - 1) 0) = (x : Int) := by
            rw [List.getD_eq_getElem?_getD, ← List.getLast?_eq_getElem?, List.getLast?_map, hx]; rfl
          rw [hx2, Int.toNat_natCast] at h
          exact h)) (by
        rw [List.nodup_append]
        exact ⟨h2, by simp, fun a ha b hb => by simp at hb; subst hb; exact fun e => hpl (e ▸ ha)⟩) (fun z hz => by
        rcases List.mem_append.1 hz with h | h
        · exact h3 z h
        · simp at h; subst h; exact List.mem_range.1 hp) M hM
      exact ⟨Q, q1, q2, q3, q4, by rw [q5]; simp; omega⟩
    · rw [if_neg hok] at hM
      cases hM
/-- Pigeons. -/
theorem nodup_le : ∀ (S : Nat) (Q : List Nat), Q.Nodup → (∀ z ∈ Q, z < S) → Q.length ≤ S
  | 0, Q, _, h => by
    cases Q with
    | nil => exact Nat.le_refl _
    | cons x xs => have := h x (by simp); omega
  | S + 1, Q, hn, h => by
    by_cases hm : S ∈ Q
    · have h1 := nodup_le S (Q.erase S) (hn.erase S) (fun z hz => by
        rw [hn.mem_erase_iff] at hz
        have := h z hz.2
        have := hz.1
        omega)
      rw [List.length_erase_of_mem hm] at h1
      omega
    · have h1 := nodup_le S Q hn (fun z hz => by
        have := h z hz
        have : z ≠ S := fun e => hm (e ▸ hz)
        omega)
      omega
theorem nodup_full {S : Nat} {Q : List Nat} (hn : Q.Nodup) (h : ∀ z ∈ Q, z < S) (hl : Q.length = S) {k : Nat} (hk : k < S) : k ∈ Q := by
  refine Classical.byContradiction fun hm => ?_
  have h1 := nodup_le S (k :: Q) (List.nodup_cons.2 ⟨hm, hn⟩) (fun z hz => by
    rcases List.mem_cons.1 hz with e | e
    · omega
    · exact h z e)
  rw [List.length_cons] at h1
  omega
theorem chn_right {b : Nat → Nat → Bool} : ∀ (A B : List Nat), chn b (A ++ B) → chn b B
  | [], B, h => h
  | x :: A, B, h => chn_right A B (chn_tail h)
theorem chn_left {b : Nat → Nat → Bool} : ∀ (A B : List Nat), chn b (A ++ B) → chn b A
  | [], B, _ => trivial
  | [x], B, _ => trivial
  | x :: y :: A, B, h => ⟨h.1, chn_left (y :: A) B h.2⟩
theorem chn_app {b : Nat → Nat → Bool} : ∀ (A B : List Nat), chn b A → chn b B → (∀ x y, A.getLast? = some x → B.head? = some y → b x y = true) → chn b (A ++ B)
  | [], B, _, h, _ => h
  | [x], B, _, h, hj => chn_cons h (fun y hy => hj x y rfl hy)
  | x :: y :: A, B, h1, h, hj => ⟨h1.1, chn_app (y :: A) B h1.2 h (fun u v hu hv => hj u v (by rw [List.getLast?_cons_cons]; exact hu) hv)⟩
end Go.Proofs.Ythbpdfkaacgpoaa
