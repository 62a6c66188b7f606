/-
  The order by which group.made sorts: a strict order; on permutations below n it is that of the ranks. No program in sight.
-/
import Derived.Test.YtnbgnoimanpjnaaGcmp
import Derived.Test.YtnbgnoimanpjnaaGgen
namespace Go.Proofs.Ytnbgnoimanpjnaa
set_option linter.unusedVariables false

theorem cf_lt (x y : Nat → Nat) : cfF x y < 0 ↔ LexF 7 x y := by
  rcases first_diff (f := x) (g := y) 7 with h | ⟨k, h1, h2, h3⟩
  · rw [cf_none h]
    refine ⟨fun h => by omega, fun ⟨i, hi, _, hl⟩ => ?_⟩
    have := h i hi
    omega
  · rw [cf_some h1 h2 h3]
    constructor
    · intro h
      by_cases hl : x k < y k
      · exact ⟨k, h1, h2, hl⟩
      · rw [if_neg hl] at h; omega
    · rintro ⟨i, hi, he, hl⟩
      have hik : i = k := by
        rcases Nat.lt_trichotomy i k with e | e | e
        · have := h2 i e; omega
        · exact e
        · exact absurd (he k e) h3
      subst hik
      rw [if_pos hl]
      omega
theorem lex_irrefl (N : Nat) (x : Nat → Nat) : ¬ LexF N x x := fun ⟨i, _, _, h⟩ => by omega
theorem lex_trans {N : Nat} {x y z : Nat → Nat} (h1 : LexF N x y) (h2 : LexF N y z) : LexF N x z := by
  obtain ⟨i, hi, he, hl⟩ := h1
  obtain ⟨j, hj, he2, hl2⟩ := h2
  rcases Nat.lt_trichotomy i j with h | h | h
  · exact ⟨i, hi, fun k hk => (he k hk).trans (he2 k (by omega)), by rw [← he2 i h]; exact hl⟩
  · subst h
    exact ⟨i, hi, fun k hk => (he k hk).trans (he2 k hk), by omega⟩
  · exact ⟨j, hj, fun k hk => (he k (by omega)).trans (he2 k hk), by rw [he j h]; exact hl2⟩
/-- Of two that differ below N one comes first. -/
theorem lex_tot {N : Nat} (x y : Nat → Nat) : (∀ i, i < N → x i = y i) ∨ LexF N x y ∨ LexF N y x := by
  rcases first_diff (f := x) (g := y) N with h | ⟨i, h1, h2, h3⟩
  · exact .inl h
  · rcases Nat.lt_or_ge (x i) (y i) with h | h
    · exact .inr (.inl ⟨i, h1, h2, h⟩)
    · exact .inr (.inr ⟨i, h1, fun j hj => (h2 j hj).symm, by omega⟩)
theorem lex_congr {N : Nat} {x y z : Nat → Nat} (h : ∀ i, i < N → x i = y i) : (LexF N x z ↔ LexF N y z) ∧ (LexF N z x ↔ LexF N z y) := by
  refine ⟨⟨fun ⟨i, hi, he, hl⟩ => ⟨i, hi, fun j hj => by rw [← h j (by omega)]; exact he j hj, by rw [← h i hi]; exact hl⟩, fun ⟨i, hi, he, hl⟩ => ⟨i, hi, fun j hj => by rw [h j (by omega)]; exact he j hj, by rw [h i hi]; exact hl⟩⟩, ⟨fun ⟨i, hi, he, hl⟩ => ⟨i, hi, fun j hj => by rw [← h j (by omega)]; exact he j hj, by rw [← h i hi]; exact hl⟩, fun ⟨i, hi, he, hl⟩ => ⟨i, hi, fun j hj => by rw [h j (by omega)]; exact he j hj, by rw [h i hi]; exact hl⟩⟩⟩
theorem lex_ntrans {N : Nat} {x y z : Nat → Nat} (h1 : ¬ LexF N x y) (h2 : ¬ LexF N y z) : ¬ LexF N x z := by
  rcases lex_tot (N := N) x y with h | h | h
  · rw [(lex_congr h).1]; exact h2
  · exact absurd h h1
  · rcases lex_tot (N := N) y z with g | g | g
    · rw [← (lex_congr g).2]; exact h1
    · exact absurd g h2
    · exact fun hh => lex_irrefl N x (lex_trans hh (lex_trans g h))
/-- On permutations below n. -/
theorem lex_rank {n : Nat} (hn : n ≤ 7) {x y : Nat → Nat} (P : Mv n x) (Q : Mv n y) : LexF 7 x y ↔ rkF n x < rkF n y := by
  rw [rk_lex P Q]
  constructor
  · rintro ⟨i, hi, he, hl⟩
    by_cases h : i < n
    · exact ⟨i, h, he, hl⟩
    · rw [P.st i (by omega), Q.st i (by omega)] at hl; omega
  · rintro ⟨i, hi, he, hl⟩
    exact ⟨i, by omega, he, hl⟩
theorem cf_rank {n : Nat} (hn : n ≤ 7) {x y : Nat → Nat} (P : Mv n x) (Q : Mv n y) : cfF x y < 0 ↔ rkF n x < rkF n y := (cf_lt x y).trans (lex_rank hn P Q)
end Go.Proofs.Ytnbgnoimanpjnaa
