/-
  A slice of slices of the call's own: each of them its own block. Conditions as each law states.
-/
import Derived.Test.YtgfdddknajeknaaDoorBase
namespace Go.Proofs.YtgfdddknajeknaaDoor
set_option linter.unusedVariables false
open Go.RowKit

theorem Tryd.info22 : (Tryd.prog.info? 22).map (fun i => (i.zero, i.size, i.bytes)) = some (some (.slice none 0 0), 1, 24) := by kernel_rfl

/-- Slices of the call's own, in blocks from B on and before U. -/
def OL (B U : Nat) (w : World) (v : Value) (ll : List (List Int)) : Prop :=
  ∃ vs : List Value, Ow 22 B w v vs ∧ (∀ k, v.ownBlock = some k → k < U) ∧ vs.length = ll.length ∧ ∀ i, i < ll.length → OI B w (vs.getD i undef) (ll.getD i []) ∧ ∀ k, (vs.getD i undef).ownBlock = some k → k < U
section
variable {B U : Nat} {w w' : World} {v u : Value} {ll : List (List Int)} {l : List Int}
theorem OL.nil (B U : Nat) (w : World) : OL B U w (.slice none 0 0) [] := ⟨[], Ow.nil _ _ _, by simp [Value.ownBlock], rfl, fun i h => by simp at h⟩
theorem OL.kept {row : Option Nat} (h : OL B U w v ll) (hg : w.grownBy w' row) (hr : ∀ k, row = some k → k < B ∨ U ≤ k) : OL B U w' v ll := by
  obtain ⟨vs, h1, h2, h3, h4⟩ := h
  have hne : ∀ x : Value, (∀ k, x.ownBlock = some k → B ≤ k ∧ k < U) → x.ownBlock = none ∨ x.ownBlock ≠ row := by
    intro x hx
    cases hb : x.ownBlock with
    | none => exact .inl rfl
    | some k =>
      right
      intro e
      have := hx k hb
      have := hr k e.symm
      omega
  refine ⟨vs, h1.kept hg (hne v fun k hk => ⟨(h1.lt k hk).1, h2 k hk⟩), h2, h3, fun i hi => ?_⟩
  obtain ⟨h5, h6⟩ := h4 i hi
  exact ⟨h5.kept hg (hne _ fun k hk => ⟨(h5.lt k hk).1, h6 k hk⟩), h6⟩
theorem OL.below (h : OL B U w v ll) (hb : Below w.heap.size w w') : OL B U w' v ll := by
  obtain ⟨vs, h1, h2, h3, h4⟩ := h
  exact ⟨vs, h1.below hb, h2, h3, fun i hi => ⟨(h4 i hi).1.below hb, (h4 i hi).2⟩⟩
theorem OL.mono {B' U' : Nat} (h : OL B U w v ll) (hB : B' ≤ B) (hU : U ≤ U') : OL B' U' w v ll := by
  obtain ⟨vs, h1, h2, h3, h4⟩ := h
  exact ⟨vs, h1.mono hB, fun k hk => Nat.lt_of_lt_of_le (h2 k hk) hU, h3, fun i hi => ⟨(h4 i hi).1.mono hB, fun k hk => Nat.lt_of_lt_of_le ((h4 i hi).2 k hk) hU⟩⟩
theorem OL.len (h : OL B U w v ll) : ∃ a c, v = .slice a ll.length c := by
  obtain ⟨vs, h1, _, h3, _⟩ := h
  obtain ⟨a, c, e⟩ := h1.len
  exact ⟨a, c, by rw [e, h3]⟩
theorem OL.form (h : OL B U w v ll) (hn : 0 < ll.length) : ∃ g c, v = .slice (some ⟨g, 0, none⟩) ll.length c ∧ B ≤ g ∧ g < w.heap.size := by
  obtain ⟨vs, h1, _, h3, _⟩ := h
  obtain ⟨g, c, e, h⟩ := h1.form (by omega)
  exact ⟨g, c, by rw [e, h3], h⟩
theorem OL.get {g n c : Nat} (h : OL B U w (.slice (some ⟨g, 0, none⟩) n c) ll) (i : Nat) (hi : i < ll.length) : ∃ u, w.cell? ⟨g, i, none⟩ = some u ∧ OI B w u (ll.getD i []) := by
  obtain ⟨vs, h1, _, h3, h4⟩ := h
  refine ⟨vs.getD i undef, ?_, (h4 i hi).1⟩
  rw [h1.cell i (by omega)]
  simp [show i < vs.length by omega]
/-- The outer slice and an inner one lie apart: their cells have other types. -/
theorem ow_apart {B' : Nat} {vs : List Value} (h : Ow 22 B w v vs) (g : OI B' w u l) : u.ownBlock = none ∨ u.ownBlock ≠ v.ownBlock := by
  rcases h.2 with ⟨rfl, _⟩ | ⟨b, cap, cur, rfl, _, hb, _⟩
  · cases hu : u.ownBlock with
    | none => exact .inl rfl
    | some k => right; simp [Value.ownBlock]
  · rcases g.2 with ⟨rfl, _⟩ | ⟨b2, cap2, cur2, rfl, _, hb2, _⟩
    · exact .inl rfl
    · right
      intro e
      simp only [Value.ownBlock, Option.some.injEq] at e
      subst e
      rw [hb] at hb2
      simp at hb2
/-- One more behind them. -/
theorem OL.snoc {B' : Nat} {w1 : World} {v' : Value} {vs : List Value} (h1 : Ow 22 B w v vs) (h2 : ∀ k, v.ownBlock = some k → k < U) (h3 : vs.length = ll.length) (h4 : ∀ i, i < ll.length → OI B w (vs.getD i undef) (ll.getD i []) ∧ ∀ k, (vs.getD i undef).ownBlock = some k → k < U)
    (hu : OI B' w u l) (hB : B ≤ B') (hown : Ow 22 B w1 v' (vs ++ [u])) (hg : w.grownBy w1 v.ownBlock) : OL B w1.heap.size w1 v' (ll ++ [l]) := by
  have hs := hg.size
  refine ⟨vs ++ [u], hown, fun k hk => (hown.lt k hk).2, by simp [h3], fun i hi => ?_⟩
  have hlast : OI B w1 u l := (hu.kept hg (ow_apart h1 hu)).mono hB
  by_cases e : i < ll.length
  · rw [List.getD_eq_getElem?_getD, List.getElem?_append_left (by omega), ← List.getD_eq_getElem?_getD, List.getD_eq_getElem?_getD (l := ll ++ [l]), List.getElem?_append_left e, ← List.getD_eq_getElem?_getD]
    have h5 := (h4 i e).1.kept hg (ow_apart h1 (h4 i e).1)
    exact ⟨h5, fun k hk => (h5.lt k hk).2⟩
  · obtain rfl : i = ll.length := by simp at hi; omega
    rw [List.getD_eq_getElem?_getD, ← h3, List.getElem?_append_right (Nat.le_refl _), Nat.sub_self, h3, List.getD_eq_getElem?_getD, List.getElem?_append_right (Nat.le_refl _), Nat.sub_self]
    exact ⟨hlast, fun k hk => (hlast.lt k hk).2⟩
end
end Go.Proofs.YtgfdddknajeknaaDoor
