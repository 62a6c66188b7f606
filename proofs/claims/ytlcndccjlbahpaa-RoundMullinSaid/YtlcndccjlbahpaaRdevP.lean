/-
  Starters developed, plain: complete rounds; strong ones and their opposites meet once at most. No program in sight; conditions as each law states.
-/
import Derived.Test.YtlcndccjlbahpaaRdev
import Derived.Test.YtlcndccjlbahpaaRrooms
namespace Go.Proofs.Ytlcndccjlbahpaa
set_option linter.unusedVariables false

theorem md {v x : Nat} (h : x < 2 * v) : (x % v = x ∧ x < v) ∨ (x % v + v = x ∧ v ≤ x) := by
  rcases Nat.lt_or_ge x v with h1 | h1
  · exact .inl ⟨Nat.mod_eq_of_lt h1, h1⟩
  · right
    rw [Nat.mod_eq_sub_mod h1, Nat.mod_eq_of_lt (by omega)]
    omega
/-- A starter's pairs, each both ways: what makes it one. -/
structure Sta (v : Nat) (Pr : Nat → Nat → Prop) : Prop where
  pos : 0 < v
  sym : ∀ a b, Pr a b → Pr b a
  lt : ∀ a b, Pr a b → 1 ≤ a ∧ a < v ∧ 1 ≤ b ∧ b < v ∧ a ≠ b
  cov : ∀ a, 1 ≤ a → a < v → ∃ b, Pr a b
  fn : ∀ a b c, Pr a b → Pr a c → b = c
  df : ∀ a b c d, Pr a b → Pr c d → (b + v - a) % v = (d + v - c) % v → a = c ∧ b = d
/-- A row of a starter developed. -/
structure RowS (v : Nat) (Pr : Nat → Nat → Prop) (r : Nat) (l : List Int) : Prop where
  len : l.length = v + 1
  top : l[v]?.getD 0 = (r : Int)
  own : l[r]?.getD 0 = (v : Int)
  prs : ∀ a b, Pr a b → l[(a + r) % v]?.getD 0 = (((b + r) % v : Nat) : Int)
section
variable {v : Nat} {Pr : Nat → Nat → Prop}
/-- Each place but two is that of a pair. -/
theorem Sta.place (S : Sta v Pr) {r x : Nat} (hr : r < v) (hx : x < v) (hne : x ≠ r) : ∃ a b, Pr a b ∧ (a + r) % v = x := by
  have hv := S.pos
  obtain ⟨z, z1, z2, z3⟩ : ∃ z, 1 ≤ z ∧ z < v ∧ (z + r = x ∨ z + r = x + v) := by
    rcases Nat.lt_or_ge r x with h | h
    · exact ⟨x - r, by omega, by omega, by omega⟩
    · exact ⟨x + v - r, by omega, by omega, by omega⟩
  obtain ⟨b, hb⟩ := S.cov z z1 z2
  refine ⟨z, b, hb, ?_⟩
  have := md (v := v) (x := z + r) (by omega)
  omega
theorem RowS.rd {r : Nat} {l : List Int} (S : Sta v Pr) (h : RowS v Pr r l) (hr : r < v) : rdE (v + 1) l = 0 := by
  have hv := S.pos
  have hval : ∀ x, x < v + 1 → ∃ y : Nat, l[x]?.getD 0 = (y : Int) ∧ y ≤ v ∧ y ≠ x ∧ l[y]?.getD 0 = (x : Int) := by
    intro x hx
    by_cases h1 : x = v
    · rw [h1]; exact ⟨r, h.top, by omega, by omega, h.own⟩
    · by_cases h2 : x = r
      · rw [h2]; exact ⟨v, h.own, by omega, by omega, h.top⟩
      · obtain ⟨a, b, hab, rfl⟩ := S.place hr (show x < v by omega) h2
        obtain ⟨q1, q2, q3, q4, q5⟩ := S.lt a b hab
        have m1 := md (v := v) (x := a + r) (by omega)
        have m2 := md (v := v) (x := b + r) (by omega)
        exact ⟨(b + r) % v, h.prs a b hab, by omega, by omega, h.prs b a (S.sym a b hab)⟩
  rw [rdE, if_neg (by rw [h.len]; simp), if_neg, if_pos]
  · rw [List.all_eq_true]
    intro x hx
    obtain ⟨y, e1, e2, e3, e4⟩ := hval x (List.mem_range.1 hx)
    unfold meets
    rw [e1, Int.toNat_natCast, e4]
    simp
    omega
  · intro hany
    obtain ⟨z, hz, hz2⟩ := List.any_eq_true.1 hany
    obtain ⟨i, hi, rfl⟩ := List.mem_iff_getElem.1 hz
    obtain ⟨y, e1, e2, _, _⟩ := hval i (by rw [← h.len]; exact hi)
    rw [List.getElem?_eq_getElem hi, Option.getD_some] at e1
    rw [e1] at hz2
    have : offR (v + 1) (y : Int) = false := offR_false.2 ⟨by omega, by omega⟩
    rw [this] at hz2
    cases hz2
/-- Rows of two numbers have no place in common. -/
theorem RowS.apart {r s : Nat} {l m : List Int} (S : Sta v Pr) (h : RowS v Pr r l) (g : RowS v Pr s m) (hr : r < v) (hs : s < v) (hne : r ≠ s) {x : Nat} (hx : x < v + 1) : l[x]?.getD 0 ≠ m[x]?.getD 0 := by
  have hv := S.pos
  have low : ∀ {r x : Nat} {l : List Int}, RowS v Pr r l → r < v → x < v → x ≠ r → ∃ y : Nat, l[x]?.getD 0 = (y : Int) ∧ y < v := by
    intro r x l h hr hx hne
    obtain ⟨a, b, hab, rfl⟩ := S.place hr hx hne
    exact ⟨_, h.prs a b hab, Nat.mod_lt _ hv⟩
  by_cases h1 : x = v
  · rw [h1, h.top, g.top]; omega
  · by_cases h2 : x = r
    · subst h2
      obtain ⟨y, e, hy⟩ := low g hs hr hne
      rw [h.own, e]; omega
    · by_cases h3 : x = s
      · subst h3
        obtain ⟨y, e, hy⟩ := low h hr hs (Ne.symm hne)
        rw [g.own, e]; omega
      · obtain ⟨a, b, hab, ha⟩ := S.place hr (show x < v by omega) h2
        obtain ⟨c, d, hcd, hc⟩ := S.place hs (show x < v by omega) h3
        have e1 := h.prs a b hab
        have e2 := g.prs c d hcd
        rw [ha] at e1
        rw [hc] at e2
        rw [e1, e2]
        intro e
        obtain ⟨q1, q2, q3, q4, q5⟩ := S.lt a b hab
        obtain ⟨q6, q7, q8, q9, q0⟩ := S.lt c d hcd
        have m1 := md (v := v) (x := a + r) (by omega)
        have m2 := md (v := v) (x := b + r) (by omega)
        have m3 := md (v := v) (x := c + s) (by omega)
        have m4 := md (v := v) (x := d + s) (by omega)
        have m5 := md (v := v) (x := b + v - a) (by omega)
        have m6 := md (v := v) (x := d + v - c) (by omega)
        have := S.df a b c d hab hcd (by omega)
        omega
/-- Rows of a starter and of the opposite of a strong one: at two places at most alike. -/
theorem RowS.rooms {Pr' : Nat → Nat → Prop} {r s : Nat} {l m : List Int} (S : Sta v Pr) (S' : Sta v Pr') (hop : ∀ a b, Pr' a b → Pr (v - a) (v - b))
    (hs1 : ∀ a b, Pr a b → (a + b) % v ≠ 0) (hs2 : ∀ a b c d, Pr a b → Pr c d → (a + b) % v = (c + d) % v → (c = a ∧ d = b) ∨ (c = b ∧ d = a))
    (h : RowS v Pr r l) (g : RowS v Pr' s m) (hr : r < v) (hs : s < v) : ∃ P Q, ∀ x, x < v + 1 → l[x]?.getD 0 = m[x]?.getD 0 → x = P ∨ x = Q := by
  have hv := S.pos
  -- what an agreeing place tells
  have tell : ∀ x, x < v → x ≠ r → x ≠ s → l[x]?.getD 0 = m[x]?.getD 0 → ∃ a b, Pr a b ∧ (a + r) % v = x ∧ ((a + b + r = s) ∨ (a + b + r = s + v) ∨ (a + b + r = s + 2 * v)) := by
    intro x hx h2 h3 e
    obtain ⟨a, b, hab, ha⟩ := S.place hr hx h2
    obtain ⟨c, d, hcd, hc⟩ := S'.place hs hx h3
    have e1 := h.prs a b hab
    have e2 := g.prs c d hcd
    rw [ha] at e1
    rw [hc] at e2
    rw [e1, e2] at e
    have hcd2 := hop c d hcd
    obtain ⟨q1, q2, q3, q4, q5⟩ := S.lt a b hab
    obtain ⟨q6, q7, q8, q9, q0⟩ := S'.lt c d hcd
    have m1 := md (v := v) (x := a + r) (by omega)
    have m2 := md (v := v) (x := b + r) (by omega)
    have m3 := md (v := v) (x := c + s) (by omega)
    have m4 := md (v := v) (x := d + s) (by omega)
    have m5 := md (v := v) (x := b + v - a) (by omega)
    have m6 := md (v := v) (x := (v - c) + v - (v - d)) (by omega)
    have hdf := S.df a b (v - d) (v - c) hab (S.sym _ _ hcd2) (by omega)
    exact ⟨a, b, hab, ha, by omega⟩
  by_cases hrs : r = s
  · subst hrs
    refine ⟨v, r, fun x hx e => ?_⟩
    by_cases h1 : x = v
    · exact .inl h1
    · by_cases h2 : x = r
      · exact .inr h2
      · obtain ⟨a, b, hab, ha, ht⟩ := tell x (by omega) h2 h2 e
        obtain ⟨q1, q2, q3, q4, q5⟩ := S.lt a b hab
        have m1 := md (v := v) (x := a + b) (by omega)
        have := hs1 a b hab
        omega
  · by_cases hex : ∃ a b, Pr a b ∧ ((a + b + r = s) ∨ (a + b + r = s + v) ∨ (a + b + r = s + 2 * v))
    · obtain ⟨a, b, hab, ht⟩ := hex
      refine ⟨(a + r) % v, (b + r) % v, fun x hx e => ?_⟩
      have hno : x ≠ v ∧ x ≠ r ∧ x ≠ s := by
        refine ⟨fun h1 => ?_, fun h1 => ?_, fun h1 => ?_⟩
        · rw [h1, h.top, g.top] at e; omega
        · subst h1
          obtain ⟨c, d, hcd, hc⟩ := S'.place hs hr hrs
          have e2 := g.prs c d hcd
          rw [hc] at e2
          rw [h.own, e2] at e
          have := Nat.mod_lt (d + s) hv
          omega
        · subst h1
          obtain ⟨c, d, hcd, hc⟩ := S.place hr hs (Ne.symm hrs)
          have e2 := h.prs c d hcd
          rw [hc] at e2
          rw [g.own, e2] at e
          have := Nat.mod_lt (d + r) hv
          omega
      obtain ⟨c, d, hcd, hc, ht2⟩ := tell x (by omega) hno.2.1 hno.2.2 e
      obtain ⟨q1, q2, q3, q4, q5⟩ := S.lt a b hab
      obtain ⟨q6, q7, q8, q9, q0⟩ := S.lt c d hcd
      have m1 := md (v := v) (x := a + b) (by omega)
      have m2 := md (v := v) (x := c + d) (by omega)
      rcases hs2 a b c d hab hcd (by omega) with ⟨rfl, rfl⟩ | ⟨rfl, rfl⟩
      · exact .inl hc.symm
      · exact .inr hc.symm
    · refine ⟨0, 0, fun x hx e => ?_⟩
      exfalso
      have hno : x ≠ v ∧ x ≠ r ∧ x ≠ s := by
        refine ⟨fun h1 => ?_, fun h1 => ?_, fun h1 => ?_⟩
        · rw [h1, h.top, g.top] at e; omega
        · subst h1
          obtain ⟨c, d, hcd, hc⟩ := S'.place hs hr hrs
          have e2 := g.prs c d hcd
          rw [hc] at e2
          rw [h.own, e2] at e
          have := Nat.mod_lt (d + s) hv
          omega
        · subst h1
          obtain ⟨c, d, hcd, hc⟩ := S.place hr hs (Ne.symm hrs)
          have e2 := h.prs c d hcd
          rw [hc] at e2
          rw [g.own, e2] at e
          have := Nat.mod_lt (d + r) hv
          omega
      obtain ⟨c, d, hcd, hc, ht2⟩ := tell x (by omega) hno.2.1 hno.2.2 e
      exact hex ⟨c, d, hcd, ht2⟩
end
theorem sm_two {l m : List Int} {P Q : Nat} : ∀ n, (∀ t, t < n → l[t]?.getD 0 = m[t]?.getD 0 → t = P ∨ t = Q) → smE l m n ≤ (if P < n then 1 else 0) + (if Q < n then 1 else 0)
  | 0, _ => by simp [smE]
  | n + 1, h => by
    have ih := sm_two n (fun t ht => h t (by omega))
    unfold smE
    by_cases e : l[n]?.getD 0 = m[n]?.getD 0
    · rw [if_pos e]
      rcases h n (by omega) e with rfl | rfl
      · rw [if_neg (Nat.lt_irrefl _)] at ih
        rw [if_pos (by omega)]
        split <;> split at ih <;> omega
      · rw [if_neg (Nat.lt_irrefl _)] at ih
        rw [if_pos (show n < n + 1 by omega)]
        split <;> split at ih <;> omega
    · rw [if_neg e]
      split <;> split <;> split at ih <;> split at ih <;> omega
end Go.Proofs.Ytlcndccjlbahpaa
