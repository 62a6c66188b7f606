/-
  Kings of a tournament: who has the greatest score is one; there is one, there are not two; one alone beats all. No program in sight.
-/
import Derived.Test.YthbpdfkaacgpoaaTglue
namespace Go.Proofs.Ythbpdfkaacgpoaa
set_option linter.unusedVariables false
open Go.RowKit

def kgB (S : Nat) (SB : Nat → Bool) (i : Nat) : Bool := (List.range S).all fun j => (decide (i = j) || SB (i * 9 + j)) || (List.range S).any fun k => SB (i * 9 + k) && SB (k * 9 + j)
def kgL (S : Nat) (SB : Nat → Bool) : List Nat := (List.range S).filter (kgB S SB)
def scN (S : Nat) (SB : Nat → Bool) (i : Nat) : Nat := ((List.range S).filter fun j => SB (i * 9 + j)).length
theorem kgB_iff {S : Nat} {SB : Nat → Bool} {i : Nat} : kgB S SB i = true ↔ ∀ j, j < S → i = j ∨ SB (i * 9 + j) = true ∨ ∃ k, k < S ∧ SB (i * 9 + k) = true ∧ SB (k * 9 + j) = true := by
  unfold kgB
  rw [List.all_eq_true]
  constructor
  · intro h j hj
    have := h j (List.mem_range.2 hj)
    rw [Bool.or_eq_true, Bool.or_eq_true, decide_eq_true_iff, List.any_eq_true] at this
    rcases this with (h | h) | ⟨k, hk, h⟩
    · exact .inl h
    · exact .inr (.inl h)
    · rw [Bool.and_eq_true] at h
      exact .inr (.inr ⟨k, List.mem_range.1 hk, h⟩)
  · intro h j hj
    rw [Bool.or_eq_true, Bool.or_eq_true, decide_eq_true_iff, List.any_eq_true]
    rcases h j (List.mem_range.1 hj) with h | h | ⟨k, hk, h⟩
    · exact .inl (.inl h)
    · exact .inl (.inr h)
    · exact .inr ⟨k, List.mem_range.2 hk, by rw [Bool.and_eq_true]; exact h⟩
theorem cnt_le {p q : Nat → Bool} {V : List Nat} (h : ∀ x ∈ V, p x = true → q x = true) : (V.filter p).length ≤ (V.filter q).length := by
  induction V with
  | nil => exact Nat.le_refl _
  | cons x V ih =>
    have ih := ih (fun y hy => h y (by simp [hy]))
    have hx := h x (by simp)
    rw [List.filter_cons, List.filter_cons]
    cases hp : p x with
    | true => rw [hx hp]; simpa using ih
    | false => cases hq : q x <;> simp <;> omega
theorem cnt_lt {p q : Nat → Bool} {V : List Nat} (h : ∀ x ∈ V, p x = true → q x = true) {u : Nat} (hu : u ∈ V) (h1 : q u = true) (h2 : p u = false) : (V.filter p).length < (V.filter q).length := by
  induction V with
  | nil => cases hu
  | cons x V ih =>
    have hx := h x (by simp)
    rw [List.filter_cons, List.filter_cons]
    rcases List.mem_cons.1 hu with e | e
    · subst e
      have := cnt_le (p := p) (q := q) (V := V) (fun y hy => h y (by simp [hy]))
      rw [h1, h2]
      simp
      omega
    · have ih := ih (fun y hy => h y (by simp [hy])) e
      cases hp : p x with
      | true => rw [hx hp]; simpa using ih
      | false => cases hq : q x <;> simp <;> omega
/-- Who has most. -/
theorem max_of (f : Nat → Nat) : ∀ (V : List Nat), V ≠ [] → ∃ u ∈ V, ∀ j ∈ V, f j ≤ f u
  | [], h => absurd rfl h
  | [x], _ => ⟨x, by simp, fun j hj => by simp at hj; rw [hj]; exact Nat.le_refl _⟩
  | x :: y :: V, _ => by
    obtain ⟨u, hu, hm⟩ := max_of f (y :: V) (by simp)
    by_cases h : f x ≤ f u
    · exact ⟨u, List.mem_cons_of_mem _ hu, fun j hj => by
        rcases List.mem_cons.1 hj with e | e
        · rw [e]; exact h
        · exact hm j e⟩
    · exact ⟨x, by simp, fun j hj => by
        rcases List.mem_cons.1 hj with e | e
        · rw [e]; exact Nat.le_refl _
        · have := hm j e; omega⟩
/-- Who has most among some is a king among them. -/
theorem king_max {b : Nat → Nat → Bool} {V : List Nat} (ht : ∀ i ∈ V, ∀ j ∈ V, i ≠ j → b j i = !b i j) (hi : ∀ i ∈ V, b i i = false) {u : Nat} (hu : u ∈ V) (hm : ∀ j ∈ V, (V.filter (b j)).length ≤ (V.filter (b u)).length) {j : Nat} (hj : j ∈ V) : u = j ∨ b u j = true ∨ ∃ k ∈ V, b u k = true ∧ b k j = true := by
  by_cases h1 : u = j
  · exact .inl h1
  · cases h2 : b u j with
    | true => exact .inr (.inl rfl)
    | false =>
      refine Classical.byContradiction fun hc => ?_
      have h3 : ∀ k ∈ V, b u k = true → b j k = true := fun k hk hbk => by
        have hkj : k ≠ j := fun e => by rw [e, h2] at hbk; cases hbk
        rw [ht k hk j hj hkj]
        cases h4 : b k j with
        | false => rfl
        | true => exact absurd (.inr (.inr ⟨k, hk, hbk, h4⟩)) hc
      have h5 := cnt_lt (p := b u) (q := b j) h3 hu (by rw [ht u hu j hj h1, h2]; rfl) (hi u hu)
      have := hm j hj
      omega
theorem king_some {b : Nat → Nat → Bool} {V : List Nat} (ht : ∀ i ∈ V, ∀ j ∈ V, i ≠ j → b j i = !b i j) (hi : ∀ i ∈ V, b i i = false) (hV : V ≠ []) : ∃ u ∈ V, ∀ j ∈ V, u = j ∨ b u j = true ∨ ∃ k ∈ V, b u k = true ∧ b k j = true := by
  obtain ⟨u, hu, hm⟩ := max_of (fun j => (V.filter (b j)).length) V hV
  exact ⟨u, hu, fun j hj => king_max ht hi hu hm hj⟩
theorem score_le {S : Nat} {SB : Nat → Bool} (hi : ∀ i, i < S → SB (i * 9 + i) = false) {v : Nat} (hv : v < S) : scN S SB v ≤ S - 1 := by
  have h := cnt_lt (p := fun j => SB (v * 9 + j)) (q := fun _ => true) (V := List.range S) (fun _ _ _ => rfl) (List.mem_range.2 hv) rfl (hi v hv)
  have h2 : ((List.range S).filter fun _ => true).length = S := by rw [List.filter_eq_self.2 (fun _ _ => rfl), List.length_range]
  rw [h2] at h
  unfold scN
  omega
section
variable {S : Nat} {SB : Nat → Bool} (ht : ∀ i j, i < S → j < S → i ≠ j → SB (j * 9 + i) = !SB (i * 9 + j)) (hi : ∀ i, i < S → SB (i * 9 + i) = false)
include ht hi
theorem king_score {u : Nat} (hu : u < S) (hm : ∀ j, j < S → scN S SB j ≤ scN S SB u) : kgB S SB u = true := by
  rw [kgB_iff]
  intro j hj
  rcases king_max (b := fun i j => SB (i * 9 + j)) (V := List.range S) (fun i h1 j h2 h3 => ht i j (List.mem_range.1 h1) (List.mem_range.1 h2) h3) (fun i h => hi i (List.mem_range.1 h)) (List.mem_range.2 hu) (fun j h => hm j (List.mem_range.1 h)) (List.mem_range.2 hj) with h | h | ⟨k, hk, h⟩
  · exact .inl h
  · exact .inr (.inl h)
  · exact .inr (.inr ⟨k, List.mem_range.1 hk, h⟩)
/-- A player who is beaten is beaten by a king. -/
theorem king_over {v x : Nat} (hv : v < S) (hx : x < S) (hb : SB (x * 9 + v) = true) : ∃ u, u < S ∧ kgB S SB u = true ∧ SB (u * 9 + v) = true := by
  obtain ⟨u, hu, hk⟩ := king_some (b := fun i j => SB (i * 9 + j)) (V := (List.range S).filter fun x => SB (x * 9 + v)) (fun i h1 j h2 h3 => ht i j (List.mem_range.1 (List.mem_filter.1 h1).1) (List.mem_range.1 (List.mem_filter.1 h2).1) h3) (fun i h => hi i (List.mem_range.1 (List.mem_filter.1 h).1)) (fun e => by
    have : x ∈ (List.range S).filter fun x => SB (x * 9 + v) := List.mem_filter.2 ⟨List.mem_range.2 hx, hb⟩
    rw [e] at this
    cases this)
  rw [List.mem_filter, List.mem_range] at hu
  refine ⟨u, hu.1, kgB_iff.2 fun j hj => ?_, hu.2⟩
  by_cases hjv : SB (j * 9 + v) = true
  · rcases hk j (List.mem_filter.2 ⟨List.mem_range.2 hj, hjv⟩) with h | h | ⟨k, hk, h⟩
    · exact .inl h
    · exact .inr (.inl h)
    · exact .inr (.inr ⟨k, List.mem_range.1 (List.mem_filter.1 hk).1, h⟩)
  · by_cases hjv2 : j = v
    · subst hjv2
      exact .inr (.inl hu.2)
    · refine .inr (.inr ⟨v, hv, hu.2, ?_⟩)
      rw [ht j v hj hv hjv2]
      simpa using hjv
theorem score_all {v : Nat} (hv : v < S) (h : ∀ x, x < S → SB (x * 9 + v) = false) : scN S SB v = S - 1 := by
  have h1 : (List.range S).filter (fun j => SB (v * 9 + j)) = (List.range S).erase v := by
    rw [(List.nodup_range (n := S)).erase_eq_filter v]
    refine List.filter_congr fun x hx => ?_
    by_cases e : x = v
    · rw [e, hi v hv]; simp
    · rw [ht x v (List.mem_range.1 hx) hv e, h x (List.mem_range.1 hx)]
      simp [e]
  unfold scN
  rw [h1, List.length_erase_of_mem (List.mem_range.2 hv), List.length_range]
theorem kings_some (hS : 1 ≤ S) : kgL S SB ≠ [] := by
  obtain ⟨u, hu, hm⟩ := max_of (scN S SB) (List.range S) (by simp; omega)
  have hk := king_score ht hi (List.mem_range.1 hu) (fun j hj => hm j (List.mem_range.2 hj))
  intro e
  have : u ∈ kgL S SB := List.mem_filter.2 ⟨hu, hk⟩
  rw [e] at this
  cases this
theorem kings_one {v : Nat} (h : kgL S SB = [v]) : v < S ∧ scN S SB v = S - 1 := by
  have hv : v ∈ kgL S SB := by rw [h]; simp
  have hvS := List.mem_range.1 (List.mem_filter.1 hv).1
  refine ⟨hvS, score_all ht hi hvS fun x hx => ?_⟩
  cases hb : SB (x * 9 + v) with
  | false => rfl
  | true =>
    obtain ⟨u, hu, hk, hb2⟩ := king_over ht hi hvS hx hb
    have : u ∈ kgL S SB := List.mem_filter.2 ⟨List.mem_range.2 hu, hk⟩
    rw [h, List.mem_singleton] at this
    rw [this, hi v hvS] at hb2
    cases hb2
theorem kings_two {u v : Nat} (h : kgL S SB = [u, v]) : False := by
  have hn : (kgL S SB).Nodup := List.nodup_range.filter _
  rw [h] at hn
  have huv : u ≠ v := by
    intro e
    rw [e] at hn
    simp at hn
  have hu : u ∈ kgL S SB := by rw [h]; simp
  have hv : v ∈ kgL S SB := by rw [h]; simp
  have huS := List.mem_range.1 (List.mem_filter.1 hu).1
  have hvS := List.mem_range.1 (List.mem_filter.1 hv).1
  have key : ∀ a c, a ≠ c → a < S → c < S → kgB S SB c = true → (∀ x, x < S → kgB S SB x = true → x = a ∨ x = c) → SB (a * 9 + c) = true → False := fun a c hac ha hc hkc hall hb => by
    have hbe : ∃ x, x < S ∧ SB (x * 9 + a) = true := by
      rcases kgB_iff.1 hkc a ha with h | h | ⟨k, hk, h⟩
      · exact absurd h.symm hac
      · exact ⟨c, hc, h⟩
      · exact ⟨k, hk, h.2⟩
    obtain ⟨x, hx, hxa⟩ := hbe
    obtain ⟨w, hw, hkw, hwa⟩ := king_over ht hi ha hx hxa
    rcases hall w hw hkw with e | e
    · rw [e, hi a ha] at hwa; cases hwa
    · rw [e, ht a c ha hc hac, hb] at hwa; cases hwa
  have hall : ∀ x, x < S → kgB S SB x = true → x = u ∨ x = v := fun x hx hk => by
    have : x ∈ kgL S SB := List.mem_filter.2 ⟨List.mem_range.2 hx, hk⟩
    rw [h] at this
    simpa using this
  cases hb : SB (u * 9 + v) with
  | true => exact key u v huv huS hvS (List.mem_filter.1 hv).2 hall hb
  | false => exact key v u (fun e => huv e.symm) hvS huS (List.mem_filter.1 hu).2 (fun x hx hk => (hall x hx hk).symm) (by rw [ht u v huS hvS huv, hb]; rfl)
end
end Go.Proofs.Ythbpdfkaacgpoaa
