/-
  What is made, found one from another: what the rounds keep. No program in sight.
-/
import Derived.Test.YtnbgnoimanpjnaaGgen
namespace Go.Proofs.Ytnbgnoimanpjnaa
set_option linter.unusedVariables false

structure BI (n : Nat) (ms l : List (Nat → Nat)) (i j : Nat) : Prop where
  nd : l.Nodup
  one : id ∈ l
  gen : ∀ x ∈ l, GenF ms x
  far : ∀ k, k < i → ∀ m ∈ ms, compF (l.getD k id) m ∈ l
  now : ∀ t, t < j → compF (l.getD i id) (ms.getD t id) ∈ l
  il : i ≤ l.length
  mkm : ∀ m ∈ ms, Mv n m
section
variable {n : Nat} {ms l : List (Nat → Nat)} {i j : Nat}
theorem BI.start (h : ∀ m ∈ ms, Mv n m) : BI n ms [id] 0 0 :=
  ⟨by simp, by simp, fun x hx => by rw [List.mem_singleton.1 hx]; exact GenF.one, fun k hk => by omega, fun t ht => by omega, Nat.zero_le _, h⟩
theorem BI.len (h : BI n ms l i j) : 1 ≤ l.length ∧ l.length ≤ fac n := ⟨List.length_pos_of_mem h.one, mv_many h.nd fun x hx => (h.gen x hx).mv h.mkm⟩
theorem getD_mem {α : Type} {l : List α} {i : Nat} (h : i < l.length) (d : α) : l.getD i d ∈ l := by
  rw [List.getD_eq_getElem?_getD, List.getElem?_eq_getElem h]
  exact List.getElem_mem h
theorem getD_app {α : Type} {l : List α} {i : Nat} (h : i < l.length) (x d : α) : (l ++ [x]).getD i d = l.getD i d := by
  rw [List.getD_eq_getElem?_getD, List.getElem?_append_left h, ← List.getD_eq_getElem?_getD]
theorem BI.mvI' (h : BI n ms l i j) (hi : i < l.length) : Mv n (l.getD i id) := (h.gen _ (getD_mem hi id)).mv h.mkm
theorem BI.mvM (h : BI n ms l i j) (hj : j < ms.length) : Mv n (ms.getD j id) := h.mkm _ (getD_mem hj id)
/-- It is there. -/
theorem BI.there (h : BI n ms l i j) (hx : compF (l.getD i id) (ms.getD j id) ∈ l) : BI n ms l i (j + 1) :=
  ⟨h.nd, h.one, h.gen, h.far, fun t ht => by
    by_cases e : t = j
    · rw [e]; exact hx
    · exact h.now t (by omega), h.il, h.mkm⟩
/-- It is new. -/
theorem BI.add (h : BI n ms l i j) (hi : i < l.length) (hj : j < ms.length) (hx : ¬ compF (l.getD i id) (ms.getD j id) ∈ l) : BI n ms (l ++ [compF (l.getD i id) (ms.getD j id)]) i (j + 1) := by
  refine ⟨?_, by simp [h.one], fun x hx => ?_, fun k hk m hm => ?_, fun t ht => ?_, by simp; have := h.il; omega, h.mkm⟩
  · rw [List.nodup_append]
    refine ⟨h.nd, by simp, fun a ha b hb e => ?_⟩
    rw [List.mem_singleton.1 hb] at e
    rw [e] at ha
    exact hx ha
  · rcases List.mem_append.1 hx with hx | hx
    · exact h.gen x hx
    · rw [List.mem_singleton.1 hx]
      exact (h.gen _ (getD_mem hi id)).step (getD_mem hj id)
  · rw [getD_app (by omega)]
    exact List.mem_append_left _ (h.far k hk m hm)
  · rw [getD_app hi]
    by_cases e : t = j
    · rw [e]; simp
    · exact List.mem_append_left _ (h.now t (by omega))
/-- All makers were tried. -/
theorem BI.next (h : BI n ms l i ms.length) (hi : i < l.length) : BI n ms l (i + 1) 0 := by
  refine ⟨h.nd, h.one, h.gen, fun k hk m hm => ?_, fun t ht => by omega, by omega, h.mkm⟩
  by_cases e : k = i
  · rw [e]
    obtain ⟨t, ht, rfl⟩ := List.mem_iff_getElem.1 hm
    have := h.now t ht
    rwa [List.getD_eq_getElem?_getD (l := ms), List.getElem?_eq_getElem ht] at this
  · exact h.far k (by omega) m hm
theorem BI.done (h : BI n ms l l.length j) (x : Nat → Nat) : x ∈ l ↔ GenF ms x := by
  refine ⟨h.gen x, fun hx => hx.closed (G := fun y => y ∈ l) h.one fun y hy m hm => ?_⟩
  obtain ⟨k, hk, rfl⟩ := List.mem_iff_getElem.1 hy
  have := h.far k hk m hm
  rwa [List.getD_eq_getElem?_getD, List.getElem?_eq_getElem hk] at this
end
end Go.Proofs.Ytnbgnoimanpjnaa
