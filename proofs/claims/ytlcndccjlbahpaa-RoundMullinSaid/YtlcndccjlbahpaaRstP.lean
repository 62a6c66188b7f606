/-
  Starters, plain: what is wrong with one. No program in sight; conditions as each law states.
-/
import Derived.Test.YtlcndccjlbahpaaRchkP
import Derived.Test.YtlcndccjlbahpaaMapEnt
namespace Go.Proofs.Ytlcndccjlbahpaa
set_option linter.unusedVariables false

def tvB (v : Int) : Bool := decide (3 ≤ v ∧ v ≤ 15 ∧ v % 2 = 1)
/-- What is wrong with one pair. -/
def prE (v : Nat) (l : List Int) : Int := if l.length ≠ 2 then 2 else if (1 : Int) ≤ l[0]?.getD 0 ∧ l[0]?.getD 0 < (v : Int) ∧ (1 : Int) ≤ l[1]?.getD 0 ∧ l[1]?.getD 0 < (v : Int) then 0 else 1
def fpE (v : Nat) : List (List Int) → Int
  | [] => 0
  | l :: r => if prE v l = 0 then fpE v r else prE v l
def pz (ll : List (List Int)) (j : Nat) : Nat × Nat := (((ll.getD j [])[0]?.getD 0).toNat, ((ll.getD j [])[1]?.getD 0).toNat)
/-- Both ways apart. -/
def dq (v : Nat) (p : Nat → Nat × Nat) (j : Nat) : Nat × Nat := (((p j).1 + v - (p j).2) % v, ((p j).2 + v - (p j).1) % v)
def alR (p : Nat → Nat × Nat) : Nat → List Nat
  | 0 => []
  | k + 1 => alR p k ++ [(p k).1, (p k).2]
def kyR (p : Nat → Nat × Nat) : Nat → List Nat
  | 0 => []
  | k + 1 => inr (p k).2 (inr (p k).1 (kyR p k))
def covB (v : Nat) (S : List Nat) : Bool := (List.range (v - 1)).all fun x => decide (x + 1 ∈ S)
def stE (v : Int) (ll : List (List Int)) : Int :=
  if tvB v = true then (if ll.length ≠ (v.toNat - 1) / 2 then 2 else if fpE v.toNat ll = 0 then (if covB v.toNat (alR (pz ll) ll.length) && covB v.toNat (alR (dq v.toNat (pz ll)) ll.length) then 0 else 6) else fpE v.toNat ll) else 1

theorem st_bad {v : Int} {ll : List (List Int)} (h : tvB v = false) : stE v ll = 1 := by simp [stE, h]
theorem tv_of {v : Int} (h : tvB v = true) : ∃ m : Nat, v = (m : Int) ∧ 3 ≤ m ∧ m ≤ 15 ∧ m % 2 = 1 := by
  unfold tvB at h
  rw [decide_eq_true_iff] at h
  exact ⟨v.toNat, by omega, by omega, by omega, by omega⟩
theorem fp_at {v : Nat} : ∀ {ll : List (List Int)} {k : Nat}, (∀ j, j < k → prE v (ll.getD j []) = 0) → k < ll.length → prE v (ll.getD k []) ≠ 0 → fpE v ll = prE v (ll.getD k [])
  | [], k, _, hk, _ => by simp at hk
  | l :: r, 0, _, _, h => if_neg h
  | l :: r, k + 1, h1, hk, h => by
    have h0 : prE v l = 0 := h1 0 (by omega)
    rw [fpE, if_pos h0]
    exact fp_at (fun j hj => h1 (j + 1) (by omega)) (by simpa using hk) h
theorem fp_none {v : Nat} : ∀ {ll : List (List Int)}, (∀ j, j < ll.length → prE v (ll.getD j []) = 0) → fpE v ll = 0
  | [], _ => rfl
  | l :: r, h => by
    have h0 : prE v l = 0 := h 0 (by simp)
    rw [fpE, if_pos h0]
    exact fp_none fun j hj => h (j + 1) (by simpa using hj)
theorem fp_zero {v : Nat} : ∀ {ll : List (List Int)}, fpE v ll = 0 → ∀ j, j < ll.length → prE v (ll.getD j []) = 0
  | [], _, j, hj => by simp at hj
  | l :: r, h, j, hj => by
    unfold fpE at h
    by_cases h0 : prE v l = 0
    · rw [if_pos h0] at h
      cases j with
      | zero => exact h0
      | succ j => exact fp_zero h j (by simpa using hj)
    · rw [if_neg h0] at h; exact absurd h h0
theorem st_shape {v : Int} {ll : List (List Int)} (h : tvB v = true) (h2 : ll.length ≠ (v.toNat - 1) / 2) : stE v ll = 2 := by rw [stE, if_pos h, if_pos h2]
theorem st_err {v : Int} {ll : List (List Int)} (h : tvB v = true) (h2 : ll.length = (v.toNat - 1) / 2) {k : Nat} (h3 : ∀ j, j < k → prE v.toNat (ll.getD j []) = 0) (hk : k < ll.length) (h4 : prE v.toNat (ll.getD k []) ≠ 0) : stE v ll = prE v.toNat (ll.getD k []) := by
  have := fp_at h3 hk h4
  rw [stE, if_pos h, if_neg (by omega), this, if_neg h4]
theorem st_end {v : Int} {ll : List (List Int)} (h : tvB v = true) (h2 : ll.length = (v.toNat - 1) / 2) (h3 : ∀ j, j < ll.length → prE v.toNat (ll.getD j []) = 0) : stE v ll = if covB v.toNat (alR (pz ll) ll.length) && covB v.toNat (alR (dq v.toNat (pz ll)) ll.length) then 0 else 6 := by
  have := fp_none h3
  rw [stE, if_pos h, if_neg (by omega), if_pos this]
theorem pr_len {v : Nat} {l : List Int} (h : l.length ≠ 2) : prE v l = 2 := if_pos h
theorem pr_off {v : Nat} {l : List Int} (h : l.length = 2) (h2 : ¬ ((1 : Int) ≤ l[0]?.getD 0 ∧ l[0]?.getD 0 < (v : Int) ∧ (1 : Int) ≤ l[1]?.getD 0 ∧ l[1]?.getD 0 < (v : Int))) : prE v l = 1 := by rw [prE, if_neg (by omega), if_neg h2]
theorem pr_in {v : Nat} {l : List Int} (h : l.length = 2) (h2 : (1 : Int) ≤ l[0]?.getD 0 ∧ l[0]?.getD 0 < (v : Int) ∧ (1 : Int) ≤ l[1]?.getD 0 ∧ l[1]?.getD 0 < (v : Int)) : prE v l = 0 := by rw [prE, if_neg (by omega), if_pos h2]
theorem pr_zero {v : Nat} {l : List Int} (h : prE v l = 0) : l.length = 2 ∧ ((1 : Int) ≤ l[0]?.getD 0 ∧ l[0]?.getD 0 < (v : Int) ∧ (1 : Int) ≤ l[1]?.getD 0 ∧ l[1]?.getD 0 < (v : Int)) := by
  unfold prE at h
  by_cases h1 : l.length ≠ 2
  · rw [if_pos h1] at h; exact absurd h (by decide)
  · rw [if_neg h1] at h
    split at h
    · exact ⟨by omega, by assumption⟩
    · exact absurd h (by decide)

theorem mem_inr {x y : Nat} {S : List Nat} : y ∈ inr x S ↔ y = x ∨ y ∈ S := by
  unfold inr
  split
  · rename_i h
    constructor
    · exact .inr
    · rintro (rfl | h2)
      · exact h
      · exact h2
  · simp [or_comm]
theorem inr_nodup {x : Nat} {S : List Nat} (h : S.Nodup) : (inr x S).Nodup := by
  unfold inr
  split
  · exact h
  · rename_i hx
    exact List.nodup_append.2 ⟨h, by simp, fun a ha b hb => by simp at hb; subst hb; intro e; subst e; exact hx ha⟩
theorem ky_nodup (p : Nat → Nat × Nat) : ∀ k, (kyR p k).Nodup
  | 0 => List.nodup_nil
  | k + 1 => inr_nodup (inr_nodup (ky_nodup p k))
theorem mem_al {p : Nat → Nat × Nat} {x : Nat} : ∀ {k : Nat}, x ∈ alR p k ↔ ∃ j, j < k ∧ (x = (p j).1 ∨ x = (p j).2)
  | 0 => by simp [alR]
  | k + 1 => by
    simp only [alR, List.mem_append, mem_al (k := k), List.mem_cons, List.not_mem_nil, or_false]
    constructor
    · rintro (⟨j, hj, h⟩ | h)
      · exact ⟨j, by omega, h⟩
      · exact ⟨k, by omega, h⟩
    · rintro ⟨j, hj, h⟩
      by_cases e : j = k
      · subst e; exact .inr h
      · exact .inl ⟨j, by omega, h⟩
theorem mem_ky {p : Nat → Nat × Nat} {x : Nat} : ∀ {k : Nat}, x ∈ kyR p k ↔ x ∈ alR p k
  | 0 => by simp [kyR, alR]
  | k + 1 => by
    simp only [kyR, alR, mem_inr, mem_ky (k := k), List.mem_append, List.mem_cons, List.not_mem_nil, or_false]
    constructor
    · rintro (h | h | h)
      · exact .inr (.inr h)
      · exact .inr (.inl h)
      · exact .inl h
    · rintro (h | h | h)
      · exact .inr (.inr h)
      · exact .inr (.inl h)
      · exact .inl h
theorem al_len (p : Nat → Nat × Nat) : ∀ k, (alR p k).length = 2 * k
  | 0 => rfl
  | k + 1 => by simp [alR, al_len p k]; omega
theorem cov_iff {v : Nat} {S : List Nat} : covB v S = true ↔ ∀ x, 1 ≤ x → x < v → x ∈ S := by
  unfold covB
  rw [List.all_eq_true]
  constructor
  · intro h x h1 h2
    have := of_decide_eq_true (h (x - 1) (List.mem_range.2 (by omega)))
    rwa [show x - 1 + 1 = x by omega] at this
  · intro h x hx
    have := List.mem_range.1 hx
    exact decide_eq_true (h (x + 1) (by omega) (by omega))
/-- As many keys as there are numbers: just if all are there. -/
theorem cov_keys {v : Nat} {S T : List Nat} (h1 : S.Nodup) (h2 : ∀ x, x ∈ S ↔ x ∈ T) (h3 : ∀ x ∈ S, 1 ≤ x ∧ x < v) : S.length < v - 1 ↔ covB v T = false := by
  have hr : ((List.range (v - 1)).map (· + 1)).Nodup := by
    rw [List.Nodup, List.pairwise_map]
    exact (List.nodup_range (n := v - 1)).imp (fun hab h => hab (by omega))
  have hl : ((List.range (v - 1)).map (· + 1)).length = v - 1 := by simp
  constructor
  · intro h
    rw [Bool.eq_false_iff]
    intro hc
    have := nodup_sub (B := S) hr (fun x hx => by
      obtain ⟨y, hy, rfl⟩ := List.mem_map.1 hx
      have := List.mem_range.1 hy
      exact (h2 _).2 (cov_iff.1 hc (y + 1) (by omega) (by omega)))
    omega
  · intro hc
    have hx : ∃ x, 1 ≤ x ∧ x < v ∧ x ∉ T := by
      apply Classical.byContradiction
      intro hn
      rw [Bool.eq_false_iff] at hc
      refine hc (cov_iff.2 fun x h1 h2 => ?_)
      apply Classical.byContradiction
      intro h4
      exact hn ⟨x, h1, h2, h4⟩
    obtain ⟨x, hx1, hx2, hx3⟩ := hx
    have hxS : x ∉ S := fun h => hx3 ((h2 x).1 h)
    have := nodup_sub (A := x :: S) (B := (List.range (v - 1)).map (· + 1)) (List.nodup_cons.2 ⟨hxS, h1⟩) (fun y hy => by
      have hy2 : 1 ≤ y ∧ y < v := by
        rcases List.mem_cons.1 hy with rfl | hy
        · exact ⟨hx1, hx2⟩
        · exact h3 y hy
      exact List.mem_map.2 ⟨y - 1, List.mem_range.2 (by omega), by omega⟩)
    rw [hl, List.length_cons] at this
    omega
theorem al_nodup {v : Nat} {p : Nat → Nat × Nat} {N : Nat} (hv : v = 2 * N + 1) (h : covB v (alR p N) = true) : (alR p N).Nodup := by
  apply Classical.byContradiction
  intro hn
  have hr : ((List.range (v - 1)).map (· + 1)).Nodup := by
    rw [List.Nodup, List.pairwise_map]
    exact (List.nodup_range (n := v - 1)).imp (fun hab h => hab (by omega))
  have := nodup_lt (A := (List.range (v - 1)).map (· + 1)) (B := alR p N) hr (fun x hx => by
      obtain ⟨y, hy, rfl⟩ := List.mem_map.1 hx
      have := List.mem_range.1 hy
      exact cov_iff.1 h (y + 1) (by omega) (by omega)) hn
  rw [al_len] at this
  simp at this
  omega
/-- In a list without doubles no two places hold the same. -/
theorem al_inj {p : Nat → Nat × Nat} : ∀ {N : Nat}, (alR p N).Nodup → (∀ j, j < N → (p j).1 ≠ (p j).2) ∧ ∀ i j, i < j → j < N → (p i).1 ≠ (p j).1 ∧ (p i).1 ≠ (p j).2 ∧ (p i).2 ≠ (p j).1 ∧ (p i).2 ≠ (p j).2
  | 0, _ => ⟨fun j hj => by omega, fun i j _ hj => by omega⟩
  | N + 1, h => by
    rw [alR, List.nodup_append] at h
    obtain ⟨h1, h2, h3⟩ := h
    obtain ⟨k1, k2⟩ := al_inj h1
    have h4 : (p N).1 ≠ (p N).2 := by
      rw [List.nodup_cons] at h2
      intro e
      exact h2.1 (by rw [e]; simp)
    refine ⟨fun j hj => ?_, fun i j hij hj => ?_⟩
    · by_cases e : j = N
      · rw [e]; exact h4
      · exact k1 j (by omega)
    · by_cases e : j = N
      · subst e
        have m1 : (p i).1 ∈ alR p j := mem_al.2 ⟨i, hij, .inl rfl⟩
        have m2 : (p i).2 ∈ alR p j := mem_al.2 ⟨i, hij, .inr rfl⟩
        exact ⟨h3 _ m1 _ (by simp), h3 _ m1 _ (by simp), h3 _ m2 _ (by simp), h3 _ m2 _ (by simp)⟩
      · exact k2 i j hij (by omega)
/-- What the two maps tell. -/
theorem st_keys {v : Nat} {p : Nat → Nat × Nat} {N : Nat} (hv : v = 2 * N + 1) (hp : ∀ j, j < N → 1 ≤ (p j).1 ∧ (p j).1 < v ∧ 1 ≤ (p j).2 ∧ (p j).2 < v) :
    ((kyR p N).length < v - 1 ∨ (kyR (dq v p) N).length < v - 1) ↔ (covB v (alR p N) && covB v (alR (dq v p) N)) = false := by
  have hA := cov_keys (v := v) (ky_nodup p N) (fun x => mem_ky) (fun x hx => by
    obtain ⟨j, hj, h⟩ := mem_al.1 (mem_ky.1 hx)
    have := hp j hj
    rcases h with rfl | rfl <;> omega)
  rw [hA]
  cases hc : covB v (alR p N) with
  | false => simp
  | true =>
    have hn := (al_inj (al_nodup hv hc)).1
    have hB := cov_keys (v := v) (ky_nodup (dq v p) N) (fun x => mem_ky) (fun x hx => by
      obtain ⟨j, hj, h⟩ := mem_al.1 (mem_ky.1 hx)
      have h1 := hp j hj
      have h2 := hn j hj
      have hv0 : 0 < v := by omega
      have key : ∀ a b, 1 ≤ a → a < v → 1 ≤ b → b < v → a ≠ b → 1 ≤ (a + v - b) % v ∧ (a + v - b) % v < v := by
        intro a b a1 a2 b1 b2 hab
        refine ⟨?_, Nat.mod_lt _ hv0⟩
        rcases Nat.lt_or_ge (a + v - b) v with hlt | hge
        · rw [Nat.mod_eq_of_lt hlt]; omega
        · rw [Nat.mod_eq_sub_mod hge, Nat.mod_eq_of_lt (by omega)]; omega
      rcases h with rfl | rfl
      · exact key _ _ h1.1 h1.2.1 h1.2.2.1 h1.2.2.2 h2
      · exact key _ _ h1.2.2.1 h1.2.2.2 h1.1 h1.2.1 (Ne.symm h2))
    rw [hB]
    simp
end Go.Proofs.Ytlcndccjlbahpaa
