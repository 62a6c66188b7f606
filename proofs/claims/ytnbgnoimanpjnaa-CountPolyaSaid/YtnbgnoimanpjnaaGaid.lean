/-
  Aids: lists of moves as slices. Conditions as each states.
-/
import Derived.Test.YtnbgnoimanpjnaaGmem
namespace Go.Proofs.Ytnbgnoimanpjnaa
set_option linter.unusedVariables false
open Go.RowKit

theorem OL.rlm {n B U : Nat} {w : World} {v : Value} {L : List (Nat → Nat)} (h : OL B U w v (L.map (elL n))) (hl : L.length ≤ 1000000) (hn : n ≤ 7) : RL w v (L.map (elL n)) :=
  h.rl (by rw [List.length_map]; omega) fun i hi => by
    rw [List.length_map] at hi
    have : (L.map (elL n)).getD i [] = elL n (L.getD i id) := by simp [hi]
    rw [this, elL_len]
    omega

theorem RL.mvAt {n : Nat} {w : World} {v : Value} {L : List (Nat → Nat)} (h : RL w v (L.map (elL n))) {i : Nat} (hi : i < L.length) : ∃ g off c a c', v = .slice (some ⟨g, off, none⟩) L.length c ∧ g < w.heap.size ∧ w.cell? ⟨g, off + i, none⟩ = some (.slice a n c') ∧ Sl w (.slice a n c') (elL n (L.getD i id)) := by
  obtain ⟨a, c, rfl, _, h2⟩ := h
  rw [List.length_map] at h2 ⊢
  obtain ⟨g, off, rfl, hg, hc⟩ := h2 (by omega)
  obtain ⟨u, h3, h4⟩ := hc i hi
  have e : (L.map (elL n)).getD i [] = elL n (L.getD i id) := by simp [hi]
  rw [e] at h4
  obtain ⟨ua, uc, eu⟩ := h4.len
  rw [elL_len] at eu
  subst eu
  exact ⟨g, off, c, ua, uc, rfl, hg, h3, h4⟩
theorem Sl.elFix {n : Nat} {w : World} {v : Value} {f : Nat → Nat} (h : Sl w v (elL n f)) (hn : 0 < n) : ∃ b o c, v = .slice (some ⟨b, o, none⟩) n c ∧ ∀ w1, Below w.heap.size w w1 → ∀ q, q < n → w1.cell? ⟨b, o + q, none⟩ = some (.int .i64 ((f q : Nat) : Int)) := by
  obtain ⟨a, c, rfl, _, h5⟩ := h.out
  rw [elL_len] at h5 ⊢
  obtain ⟨b, o, rfl, hb, h6⟩ := h5 hn
  refine ⟨b, o, c, rfl, fun w1 hb1 q hq => ?_⟩
  rw [hb1.cell (p := ⟨b, o + q, none⟩) hb, h6 q hq, List.getD_eq_getElem?_getD, elL_get hq]
theorem PmL.el {n : Nat} {l : List Int} (h : PmL l n (fL l)) : l = elL n (mvF n (fL l)) := by
  refine List.ext_getElem? fun c => ?_
  by_cases hc : c < n
  · have h1 := h.at' c hc
    have hl : c < l.length := by rw [h.len]; exact hc
    rw [List.getElem?_eq_getElem hl] at h1 ⊢
    rw [Option.getD_some] at h1
    simp [elL, hc, mvF, h1]
  · rw [List.getElem?_eq_none (by rw [h.len]; omega), List.getElem?_eq_none (by rw [elL_len]; omega)]
theorem ll_el {n : Nat} {ll : List (List Int)} (h : ∀ l ∈ ll, PmL l n (fL l)) : ll = (msL n ll).map (elL n) := by
  unfold msL
  rw [List.map_map]
  have : ll = ll.map id := by simp
  conv => lhs; rw [this]
  refine List.map_congr_left fun l hl => ?_
  exact (h l hl).el
end Go.Proofs.Ytnbgnoimanpjnaa
