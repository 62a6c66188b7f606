/-
  Rounds: what is wrong with them, counted by pairs. No program in sight.
-/
import Derived.Test.YtlcndccjlbahpaaRcheck
namespace Go.Proofs.Ytlcndccjlbahpaa
set_option linter.unusedVariables false

/-- Whom team a meets in round j. -/
def pr (ll : List (List Int)) (j a : Nat) : Nat := ((ll.getD j [])[a]?.getD 0).toNat
def frE (n : Nat) : List (List Int) → Int
  | [] => 0
  | l :: r => if rdE n l = 0 then frE n r else rdE n l
def twB (n : Nat) (ll : List (List Int)) : Bool := (List.range ll.length).any fun i => (List.range i).any fun j => (List.range n).any fun a => (ll.getD i [])[a]?.getD 0 == (ll.getD j [])[a]?.getD 0
def chkE (n : Int) (ll : List (List Int)) : Int := if tmB n = true then (if n.toNat - 1 < ll.length then 3 else if frE n.toNat ll = 0 then (if twB n.toNat ll = true then 6 else 0) else frE n.toNat ll) else 1

theorem rd_spec {n : Nat} {l : List Int} (h : rdE n l = 0) : l.length = n ∧ l.any (offR n) = false ∧ ∀ t, t < n → meets l t = true := by
  unfold rdE at h
  by_cases h1 : l.length ≠ n
  · rw [if_pos h1] at h; exact absurd h (by decide)
  rw [if_neg h1] at h
  by_cases h2 : l.any (offR n) = true
  · rw [if_pos h2] at h; exact absurd h (by decide)
  rw [if_neg h2] at h
  by_cases h3 : (List.range n).all (meets l) = true
  · exact ⟨by omega, by simpa using h2, fun t ht => List.all_eq_true.1 h3 t (List.mem_range.2 ht)⟩
  · rw [if_neg h3] at h; exact absurd h (by decide)
theorem fr_at {n : Nat} : ∀ {ll : List (List Int)} {k : Nat}, (∀ j, j < k → rdE n (ll.getD j []) = 0) → k < ll.length → rdE n (ll.getD k []) ≠ 0 → frE n ll = rdE n (ll.getD k [])
  | l :: r, 0, h, _, h3 => by
    simp only [frE]
    exact if_neg h3
  | l :: r, k + 1, h, h2, h3 => by
    simp only [frE]
    rw [if_pos (by have := h 0 (by omega); simpa using this)]
    have := fr_at (ll := r) (k := k) (fun j hj => by have := h (j + 1) (by omega); simpa using this) (by simpa using h2) (by simpa using h3)
    simpa using this
theorem fr_none {n : Nat} : ∀ {ll : List (List Int)}, (∀ j, j < ll.length → rdE n (ll.getD j []) = 0) → frE n ll = 0
  | [], _ => rfl
  | l :: r, h => by
    simp only [frE]
    rw [if_pos (by have := h 0 (by simp); simpa using this)]
    exact fr_none fun j hj => by have := h (j + 1) (by simpa using hj); simpa using this
theorem fr_zero {n : Nat} : ∀ {ll : List (List Int)}, frE n ll = 0 → ∀ j, j < ll.length → rdE n (ll.getD j []) = 0
  | l :: r, h, j, hj => by
    simp only [frE] at h
    by_cases e : rdE n l = 0
    · rw [if_pos e] at h
      cases j with
      | zero => simpa using e
      | succ j => have := fr_zero h j (by simpa using hj); simpa using this
    · rw [if_neg e] at h; exact absurd h e

/-- A round: each meets one other. -/
structure Rnd (n : Nat) (p : Nat → Nat) : Prop where
  lt : ∀ a, a < n → p a < n
  ne : ∀ a, a < n → p a ≠ a
  back : ∀ a, a < n → p (p a) = a
theorem rnd_of {n : Nat} {ll : List (List Int)} {j : Nat} (h : rdE n (ll.getD j []) = 0) : Rnd n (pr ll j) ∧ ∀ a, a < n → (ll.getD j [])[a]?.getD 0 = (pr ll j a : Int) := by
  obtain ⟨h1, h2, h3⟩ := rd_spec h
  have hx := off_at h1 h2
  have he : ∀ a, a < n → (ll.getD j [])[a]?.getD 0 = (pr ll j a : Int) := fun a ha => by
    obtain ⟨x, hx, hxn⟩ := hx a ha
    unfold pr
    omega
  have hlt : ∀ a, a < n → pr ll j a < n := fun a ha => by
    obtain ⟨x, hx, hxn⟩ := hx a ha
    have := he a ha
    omega
  have hm : ∀ a, a < n → pr ll j a ≠ a ∧ pr ll j (pr ll j a) = a := fun a ha => by
    have h4 := h3 a ha
    unfold meets at h4
    rw [Bool.and_eq_true, Bool.not_eq_true', beq_eq_false_iff_ne, beq_iff_eq, he a ha, Int.toNat_natCast, he _ (hlt a ha)] at h4
    omega
  exact ⟨⟨hlt, fun a ha => (hm a ha).1, fun a ha => (hm a ha).2⟩, he⟩

theorem nodup_sub {α : Type} [DecidableEq α] : ∀ {A B : List α}, A.Nodup → (∀ x ∈ A, x ∈ B) → A.length ≤ B.length
  | [], B, _, _ => Nat.zero_le _
  | a :: A, B, h, hs => by
    obtain ⟨h1, h2⟩ := List.nodup_cons.1 h
    have ha := hs a (by simp)
    have := nodup_sub (A := A) (B := B.erase a) h2 (fun x hx => (List.mem_erase_of_ne (fun e => h1 (by rw [← e]; exact hx))).2 (hs x (by simp [hx])))
    rw [List.length_erase_of_mem ha] at this
    have := List.length_pos_of_mem ha
    rw [List.length_cons]
    omega
theorem nodup_lt {α : Type} [DecidableEq α] {A B : List α} (h : A.Nodup) (hs : ∀ x ∈ A, x ∈ B) (hB : ¬ B.Nodup) : A.length < B.length := by
  have : ∃ x ∈ B, x ∈ B.erase x := by
    apply Classical.byContradiction
    intro hn
    refine hB ?_
    have key : ∀ B : List α, (∀ x ∈ B, x ∉ B.erase x) → B.Nodup := by
      intro B
      induction B with
      | nil => intro _; exact List.nodup_nil
      | cons b B ih =>
        intro h
        refine List.nodup_cons.2 ⟨?_, ih fun x hx hx2 => ?_⟩
        · have := h b (by simp)
          rwa [List.erase_cons_head] at this
        · have h2 := h x (by simp [hx])
          by_cases e : b = x
          · subst e
            rw [List.erase_cons_head] at h2
            exact h2 hx
          · rw [List.erase_cons_tail (by simpa using e)] at h2
            exact h2 (by simp [hx2])
    exact key B fun x hx hx2 => hn ⟨x, hx, hx2⟩
  obtain ⟨x, hx, hx2⟩ := this
  have := nodup_sub (B := B.erase x) h (fun y hy => by
    by_cases e : y = x
    · rw [e]; exact hx2
    · exact (List.mem_erase_of_ne e).2 (hs y hy))
  rw [List.length_erase_of_mem hx] at this
  have := List.length_pos_of_mem hx
  omega

/-- Which pairs have met, when i rounds and t teams of the next one have been looked at. -/
def PS (n : Nat) (ll : List (List Int)) (i t : Nat) (S : List (Nat × Nat)) : Prop := ∀ a b, (a, b) ∈ S ↔ a < b ∧ ((∃ j, j < i ∧ a < n ∧ pr ll j a = b) ∨ (a < t ∧ pr ll i a = b))
theorem PS.zero (n : Nat) (ll : List (List Int)) : PS n ll 0 0 [] := fun a b => by
  constructor
  · intro h; cases h
  · rintro ⟨_, ⟨j, hj, _⟩ | ⟨h, _⟩⟩
    · omega
    · omega
theorem PS.next {n : Nat} {ll : List (List Int)} {i : Nat} {S : List (Nat × Nat)} (h : PS n ll i n S) : PS n ll (i + 1) 0 S := fun a b => by
  rw [h a b]
  constructor
  · rintro ⟨h1, ⟨j, h2, h3, h4⟩ | ⟨h2, h3⟩⟩
    · exact ⟨h1, .inl ⟨j, by omega, h3, h4⟩⟩
    · exact ⟨h1, .inl ⟨i, by omega, h2, h3⟩⟩
  · rintro ⟨h1, ⟨j, h2, h3, h4⟩ | ⟨h2, _⟩⟩
    · by_cases e : j = i
      · subst e; exact ⟨h1, .inr ⟨h3, h4⟩⟩
      · exact ⟨h1, .inl ⟨j, by omega, h3, h4⟩⟩
    · omega
theorem PS.off {n : Nat} {ll : List (List Int)} {i t : Nat} {S : List (Nat × Nat)} (h : PS n ll i t S) (hge : ¬ t < pr ll i t) : PS n ll i (t + 1) S := fun a b => by
  rw [h a b]
  constructor
  · rintro ⟨h1, h2 | ⟨h2, h3⟩⟩
    · exact ⟨h1, .inl h2⟩
    · exact ⟨h1, .inr ⟨by omega, h3⟩⟩
  · rintro ⟨h1, h2 | ⟨h2, h3⟩⟩
    · exact ⟨h1, .inl h2⟩
    · by_cases e : a = t
      · subst e; omega
      · exact ⟨h1, .inr ⟨by omega, h3⟩⟩
theorem PS.on {n : Nat} {ll : List (List Int)} {i t : Nat} {S S' : List (Nat × Nat)} (h : PS n ll i t S) (hlt : t < pr ll i t) (hS : ∀ y, y ∈ S' ↔ y = (t, pr ll i t) ∨ y ∈ S) : PS n ll i (t + 1) S' := fun a b => by
  rw [hS, h a b, Prod.mk.injEq]
  constructor
  · rintro (⟨rfl, rfl⟩ | ⟨h1, h2 | ⟨h2, h3⟩⟩)
    · exact ⟨hlt, .inr ⟨by omega, rfl⟩⟩
    · exact ⟨h1, .inl h2⟩
    · exact ⟨h1, .inr ⟨by omega, h3⟩⟩
  · rintro ⟨h1, h2 | ⟨h2, h3⟩⟩
    · exact .inr ⟨h1, .inl h2⟩
    · by_cases e : a = t
      · subst e; exact .inl ⟨rfl, h3.symm⟩
      · exact .inr ⟨h1, .inr ⟨by omega, h3⟩⟩
theorem tw_iff {n : Nat} {ll : List (List Int)} (hf : frE n ll = 0) : twB n ll = true ↔ ∃ i j a, i < ll.length ∧ j < i ∧ a < n ∧ pr ll i a = pr ll j a := by
  unfold twB
  simp only [List.any_eq_true, List.mem_range, beq_iff_eq]
  have he := fun j hj a ha => (rnd_of (fr_zero hf j hj)).2 a ha
  constructor
  · rintro ⟨i, hi, j, hj, a, ha, e⟩
    rw [he i hi a ha, he j (by omega) a ha] at e
    exact ⟨i, j, a, hi, hj, ha, by omega⟩
  · rintro ⟨i, j, a, hi, hj, ha, e⟩
    exact ⟨i, hi, j, hj, a, ha, by rw [he i hi a ha, he j (by omega) a ha, e]⟩
/-- As many pairs as there are places, just if nobody meets one twice. -/
theorem count_pairs {n : Nat} {ll : List (List Int)} {S : List (Nat × Nat)} (hn : n % 2 = 0) (hf : frE n ll = 0) (h : PS n ll ll.length 0 S) (hS : S.Nodup) : (S.length < ll.length * (n / 2) ↔ twB n ll = true) ∧ S.length ≤ ll.length * (n / 2) := by
  have hr := fun j hj => (rnd_of (fr_zero hf j hj)).1
  have hT : ∀ x : Nat × Nat, x ∈ S ++ S.map (fun p => (p.2, p.1)) ↔ x ∈ (List.range ll.length).flatMap (fun j => (List.range n).map fun a => (a, pr ll j a)) := by
    rintro ⟨a, b⟩
    simp only [List.mem_append, List.mem_map, List.mem_flatMap, List.mem_range, Prod.mk.injEq]
    rw [h a b]
    constructor
    · rintro (⟨h1, ⟨j, h2, h3, h4⟩ | ⟨h2, _⟩⟩ | ⟨⟨c, d⟩, h1, rfl, rfl⟩)
      · exact ⟨j, h2, a, h3, rfl, h4⟩
      · omega
      · obtain ⟨h1, ⟨j, h2, h3, h4⟩ | ⟨h2, _⟩⟩ := (h c d).1 h1
        · refine ⟨j, h2, d, by rw [← h4]; exact (hr j h2).lt c h3, rfl, ?_⟩
          rw [← h4]
          exact (hr j h2).back c h3
        · omega
    · rintro ⟨j, h1, a', h2, rfl, rfl⟩
      have h3 := (hr j h1).ne a' h2
      rcases Nat.lt_or_ge a' (pr ll j a') with h4 | h4
      · exact .inl ⟨h4, .inl ⟨j, h1, h2, rfl⟩⟩
      · refine .inr ⟨(pr ll j a', a'), (h _ _).2 ⟨by omega, .inl ⟨j, h1, (hr j h1).lt a' h2, (hr j h1).back a' h2⟩⟩, rfl, rfl⟩
  have hSN : (S ++ S.map (fun p => (p.2, p.1))).Nodup := by
    refine List.nodup_append.2 ⟨hS, ?_, ?_⟩
    · refine List.Pairwise.map _ (fun a b hab e => hab ?_) hS
      simp only [Prod.mk.injEq] at e
      exact Prod.ext e.2 e.1
    · rintro ⟨a, b⟩ h1 ⟨c, d⟩ h2 e
      rw [List.mem_map] at h2
      obtain ⟨⟨x, y⟩, h3, h4⟩ := h2
      simp only [Prod.mk.injEq] at h4 e
      have h5 := ((h a b).1 h1).1
      have h6 := ((h x y).1 h3).1
      omega
  have hlen : ((List.range ll.length).flatMap (fun j => (List.range n).map fun a => (a, pr ll j a))).length = ll.length * n := by
    rw [List.length_flatMap]
    simp only [List.length_map, List.length_range]
    rw [List.map_const', List.sum_replicate_nat, List.length_range]
  have hl2 : (S ++ S.map (fun p => (p.2, p.1))).length = 2 * S.length := by simp; omega
  have hdiv : ll.length * n = 2 * (ll.length * (n / 2)) := by
    have : n = 2 * (n / 2) := by omega
    rw [Nat.mul_left_comm, ← this]
  have hle := nodup_sub hSN (fun x hx => (hT x).1 hx)
  rw [hl2, hlen] at hle
  refine ⟨?_, by omega⟩
  generalize hTT : (List.range ll.length).flatMap (fun j => (List.range n).map fun a => (a, pr ll j a)) = T at *
  by_cases hN : T.Nodup
  · have h1 := nodup_sub hN (fun x hx => (hT x).2 hx)
    rw [hl2, hlen] at h1
    constructor
    · intro h2; omega
    · intro h2
      exfalso
      obtain ⟨i, j, a, hi, hj, ha, e⟩ := (tw_iff hf).1 h2
      rw [← hTT] at hN
      unfold List.Nodup at hN
      rw [List.pairwise_flatMap] at hN
      have h3 := List.pairwise_iff_getElem.1 hN.2 j i (by simp; omega) (by simp; omega) hj
      simp only [List.getElem_range] at h3
      exact h3 (a, pr ll j a) (List.mem_map.2 ⟨a, List.mem_range.2 ha, rfl⟩) (a, pr ll i a) (List.mem_map.2 ⟨a, List.mem_range.2 ha, rfl⟩) (by rw [e])
  · have h1 := nodup_lt hSN (fun x hx => (hT x).1 hx) hN
    rw [hl2, hlen] at h1
    refine ⟨fun _ => (tw_iff hf).2 ?_, fun _ => by omega⟩
    apply Classical.byContradiction
    intro hno
    refine hN ?_
    rw [← hTT]
    unfold List.Nodup
    rw [List.pairwise_flatMap]
    refine ⟨fun j hj => ?_, ?_⟩
    · rw [List.pairwise_map]
      exact List.nodup_range.imp fun hab e => hab (by simp only [Prod.mk.injEq] at e; exact e.1)
    · refine List.Pairwise.imp_of_mem ?_ List.pairwise_lt_range
      intro j i hj hi hji x hx y hy e
      simp only [List.mem_map, List.mem_range] at hx hy hi
      obtain ⟨a, ha, rfl⟩ := hx
      obtain ⟨c, hc, rfl⟩ := hy
      simp only [Prod.mk.injEq] at e
      obtain ⟨rfl, e⟩ := e
      exact hno ⟨i, j, a, hi, hji, ha, e.symm⟩
end Go.Proofs.Ytlcndccjlbahpaa
