/-
  A tournament has a list of all its players in which each beats the next. No program in sight.
-/
import Derived.Test.YthbpdfkaacgpoaaTdfs
namespace Go.Proofs.Ythbpdfkaacgpoaa
set_option linter.unusedVariables false
open Go.RowKit

/-- Each beats the next. -/
def chn (b : Nat → Nat → Bool) : List Nat → Prop
  | [] => True
  | [_] => True
  | x :: y :: l => b x y = true ∧ chn b (y :: l)
theorem chn_cons {b : Nat → Nat → Bool} {x : Nat} {l : List Nat} (h : chn b l) (hx : ∀ y, l.head? = some y → b x y = true) : chn b (x :: l) := by
  cases l with
  | nil => trivial
  | cons y l => exact ⟨hx y rfl, h⟩
theorem chn_tail {b : Nat → Nat → Bool} {x : Nat} {l : List Nat} (h : chn b (x :: l)) : chn b l := by
  cases l with
  | nil => trivial
  | cons y l => exact h.2
/-- One more player. -/
theorem chn_ins {b : Nat → Nat → Bool} {v : Nat} : ∀ (P : List Nat), chn b P → (∀ x ∈ P, x ≠ v ∧ (b v x = true ∨ b x v = true)) → P.Nodup → ∃ Q, chn b Q ∧ (∀ z, z ∈ Q ↔ z = v ∨ z ∈ P) ∧ Q.length = P.length + 1 ∧ Q.Nodup ∧ (Q.head? = some v ∨ Q.head? = P.head?)
  | [], _, _, _ => ⟨[v], trivial, fun z => by simp, rfl, by simp, .inl rfl⟩
  | x :: xs, h, ht, hn => by
    obtain ⟨hxv, hb⟩ := ht x (by simp)
    by_cases hvx : b v x = true
    · refine ⟨v :: x :: xs, ⟨hvx, h⟩, fun z => by simp, rfl, ?_, .inl rfl⟩
      rw [List.nodup_cons]
      exact ⟨fun hm => (ht v hm).1 rfl, hn⟩
    · have hxv2 : b x v = true := by
        rcases hb with hb | hb
        · exact absurd hb hvx
        · exact hb
      rw [List.nodup_cons] at hn
      obtain ⟨Q, q1, q2, q3, q4, q5⟩ := chn_ins xs (chn_tail h) (fun y hy => ht y (by simp [hy])) hn.2
      refine ⟨x :: Q, chn_cons q1 (fun y hy => ?_), fun z => ?_, by simp [q3], ?_, .inr rfl⟩
      · rcases q5 with q5 | q5
        · rw [q5] at hy; cases hy; exact hxv2
        · rw [q5] at hy
          cases xs with
          | nil => cases hy
          | cons y' l => cases hy; exact h.1
      · rw [List.mem_cons, q2, List.mem_cons]
        constructor
        · rintro (h1 | h1 | h1)
          · exact .inr (.inl h1)
          · exact .inl h1
          · exact .inr (.inr h1)
        · rintro (h1 | h1 | h1)
          · exact .inr (.inl h1)
          · exact .inl h1
          · exact .inr (.inr h1)
      · rw [List.nodup_cons]
        refine ⟨fun hm => ?_, q4⟩
        rcases (q2 x).1 hm with h1 | h1
        · exact hxv h1
        · exact hn.1 h1
theorem chn_all {b : Nat → Nat → Bool} {S : Nat} (ht : ∀ i j, i < S → j < S → i ≠ j → b i j = true ∨ b j i = true) : ∀ k, k ≤ S → ∃ Q, chn b Q ∧ (∀ z, z ∈ Q ↔ z < k) ∧ Q.length = k ∧ Q.Nodup
  | 0, _ => ⟨[], trivial, fun z => by simp, rfl, by simp⟩
  | k + 1, hk => by
    obtain ⟨P, p1, p2, p3, p4⟩ := chn_all ht k (by omega)
    obtain ⟨Q, q1, q2, q3, q4, _⟩ := chn_ins (b := b) (v := k) P p1 (fun x hx => by
      have := (p2 x).1 hx
      exact ⟨by omega, ht k x (by omega) (by omega) (by omega)⟩) p4
    exact ⟨Q, q1, fun z => by rw [q2, p2]; omega, by omega, q4⟩
/-- Such a list comes up. -/
theorem comp_mem {N : Nat} {SB : Nat → Bool} : ∀ (M : List Nat) (l : List Nat), chn (fun i j => SB (i * 9 + j)) (l ++ M) → (l ++ M).Nodup → (∀ z ∈ M, z < N) → (l ++ M).map (fun z : Nat => (z : Int)) ∈ comp N SB M.length (l.map fun z : Nat => (z : Int))
  | [], l, _, _, _ => by simp [comp]
  | p :: M, l, h, hn, hz => by
    have e : l ++ p :: M = (l ++ [p]) ++ M := by simp
    have ih := comp_mem (N := N) (SB := SB) M (l ++ [p]) (by rw [← e]; exact h) (by rw [← e]; exact hn) (fun z hm => hz z (by simp [hm]))
    rw [e]
    show _ ∈ comp N SB (M.length + 1) _
    rw [comp, List.mem_flatMap]
    refine ⟨p, List.mem_range.2 (hz p (by simp)), ?_⟩
    have hok : okB SB (l.map fun z : Nat => (z : Int)) p = true := by
      unfold okB
      rw [Bool.and_eq_true, Bool.not_eq_true', decide_eq_false_iff_not, Bool.or_eq_true, decide_eq_true_iff]
      constructor
      · intro hm
        obtain ⟨z, hz1, hz2⟩ := List.mem_map.1 hm
        have : z = p := by omega
        subst this
        rw [List.nodup_append] at hn
        exact hn.2.2 z hz1 z (by simp) rfl
      · rcases List.eq_nil_or_concat l with hl | ⟨l', x, hl⟩
        · left; rw [hl]; rfl
        · right
          have hl2 : l = l' ++ [x] := by rw [hl]; simp
          subst hl2
          have hx : ((l' ++ [x]).map fun z : Nat => (z : Int)).getD (((l' ++ [x]).map fun z : Nat => (z : Int)).length - 1) 0 = (x : Int) := by
            rw [List.getD_eq_getElem?_getD]
            simp
          rw [hx, Int.toNat_natCast]
          have hch : ∀ (a : List Nat), chn (fun i j => SB (i * 9 + j)) (a ++ [x] ++ p :: M) → SB (x * 9 + p) = true := by
            intro a
            induction a with
            | nil => intro h; exact h.1
            | cons y a ih => intro h; exact ih (chn_tail h)
          exact hch l' h
    rw [hok, if_pos rfl]
    rw [List.map_append] at ih
    simpa using ih
theorem comp_some {S : Nat} {SB : Nat → Bool} (ht : ∀ i j, i < S → j < S → i ≠ j → SB (i * 9 + j) = true ∨ SB (j * 9 + i) = true) : comp S SB S [] ≠ [] := by
  obtain ⟨Q, q1, q2, q3, q4⟩ := chn_all (b := fun i j => SB (i * 9 + j)) ht S (Nat.le_refl _)
  have h := comp_mem (N := S) (SB := SB) Q [] (by simpa using q1) (by simpa using q4) (fun z hz => (q2 z).1 hz)
  rw [q3] at h
  intro e
  rw [show ([] : List Nat).map (fun z : Nat => (z : Int)) = [] from rfl, e] at h
  cases h
end Go.Proofs.Ythbpdfkaacgpoaa
