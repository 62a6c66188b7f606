/-
  Aids: lists of moves as slices. Conditions as each states.
-/
import Derived.Test.YtnbgnoimanpjnaaGmem
namespace Go.Proofs.Ytnbgnoimanpjnaa
set_option linter.unusedVariables false
open Go.RowKit

theorem OL.rlm {n B U : Nat} {w : World} {v : Value} {L : List (Nat → Nat)} (h : OL B U w v (L.map (elL n))) (hl : L.length ≤ 1000000) (hn : n ≤ 7) : RL w v (L.map (elL n)) :=
  h.rl (by rw [List.length_map]; omega) fun i hi => by
    rw [List.length_map] at hi
    have : (L.map (elL n)).getD i [] = elL n (L.getD i id) := by simp [hi]
    rw [this, elL_len]
    omega

theorem RL.mvAt {n : Nat} {w : World} {v : Value} {L : List (Nat → Nat)} (h : RL w v (L.map (elL n))) {i : Nat} (hi : i < L.length) : ∃ g off c a c', v = .slice (some ⟨g, off, none⟩) L.length c ∧ g < w.heap.size ∧ w.cell? ⟨g, off + i, none⟩ = some (.slice a n c') ∧ Sl w (.slice a n c') (elL n (L.getD i id)) := by
  obtain ⟨a, c, rfl, _, h2⟩ := h
  rw [List.length_map] at h2 ⊢
  obtain ⟨g, off, rfl, hg, hc⟩ := h2 (by omega)
  obtain ⟨u, h3, h4⟩ := hc i hi
  have e : (L.map (elL n)).getD i [] = elL n (L.getD i id) := by simp [hi]
  rw [e] at h4
  obtain ⟨ua, uc, eu⟩ := h4.len
  rw [elL_len] at eu
  subst eu
  exact ⟨g, off, c, ua, uc, rfl, hg, h3, h4⟩
theorem Sl.elFix {n : Nat} {w : World} {v : Value} {f : Nat → Nat} (h : Sl w v (elL n f)) (hn : 0 < n) : ∃ b o c, v = .slice (some ⟨b, o, none⟩) n c ∧ ∀ w1, Below w.heap.size w w1 → ∀ q, q < n → w1.cell? ⟨b, o + q, none⟩ = some (.int .i64 ((f q : Nat) : Int)) := by
  obtain ⟨a, c, rfl, _, h5⟩ := h.out
  rw [elL_len] at h5 ⊢
  obtain ⟨b, o, rfl, hb, h6⟩ := h5 hn
  refine ⟨b, o, c, rfl, fun w1 hb1 q hq => ?_⟩
  rw [hb1.cell (p := ⟨b, o + q, none⟩) hb, h6 q hq, List.getD_eq_getElem?_getD, elL_get hq]
end Go.Proofs.Ytnbgnoimanpjnaa
