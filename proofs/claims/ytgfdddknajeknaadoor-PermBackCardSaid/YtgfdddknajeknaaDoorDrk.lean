/-
  Ranks and the order of first difference; a rank's own permutation. No program in sight.
-/
import Derived.Test.YtgfdddknajeknaaDoorDUnrP
namespace Go.Proofs.YtgfdddknajeknaaDoor
set_option linter.unusedVariables false

/-- A permutation of the numbers below n that leaves the others. -/
structure Mv (n : Nat) (f : Nat → Nat) : Prop where
  pm : Pm n f
  st : ∀ i, n ≤ i → f i = i
theorem sumN_leG {a b : Nat → Nat} : ∀ n, (∀ i, i < n → a i ≤ b i) → sumN a n ≤ sumN b n
  | 0, _ => Nat.le_refl _
  | n + 1, h => Nat.add_le_add (sumN_leG n (fun i hi => h i (by omega))) (h n (by omega))
theorem sumN_ltG {a b : Nat → Nat} : ∀ n, (∀ i, i < n → a i ≤ b i) → (∃ i, i < n ∧ a i < b i) → sumN a n < sumN b n
  | 0, _, ⟨i, hi, _⟩ => by omega
  | n + 1, h, ⟨i, hi, hl⟩ => by
    simp only [sumN]
    by_cases e : i = n
    · subst e
      have := sumN_leG i (fun j hj => h j (by omega))
      omega
    · have := sumN_ltG n (fun j hj => h j (by omega)) ⟨i, by omega, hl⟩
      have := h n (by omega)
      omega
theorem ahead_iff {f : Nat → Nat} {i x : Nat} : aheadB f i x = true ↔ ∃ j, j < i ∧ f j = x := by
  simp only [aheadB, List.any_eq_true, List.mem_range, beq_iff_eq]
theorem ahead_congr {f g : Nat → Nat} {i : Nat} (h : ∀ j, j < i → f j = g j) (x : Nat) : aheadB f i x = aheadB g i x := by
  rw [Bool.eq_iff_iff, ahead_iff, ahead_iff]
  exact ⟨fun ⟨j, h1, h2⟩ => ⟨j, h1, by rw [← h j h1]; exact h2⟩, fun ⟨j, h1, h2⟩ => ⟨j, h1, by rw [h j h1]; exact h2⟩⟩
theorem lessA_congr {f g : Nat → Nat} {N i : Nat} (h : ∀ j, j ≤ i → f j = g j) : lessA f N i = lessA g N i := by
  unfold lessA
  refine sumN_congr N fun x _ => ?_
  rw [ahead_congr (fun j hj => h j (by omega)), h i (Nat.le_refl _)]
theorem rankS_congr {f g : Nat → Nat} {N : Nat} : ∀ i, (∀ j, j < i → f j = g j) → rankS f N i = rankS g N i
  | 0, _ => rfl
  | i + 1, h => by
    simp only [rankS]
    rw [rankS_congr i (fun j hj => h j (by omega)), lessA_congr (fun j hj => h j (by omega))]
theorem lessA_top {f : Nat → Nat} {N i : Nat} (P : Pm N f) (hi : i < N) : lessA f N i ≤ N - 1 - i := by
  rw [less_same P hi]
  have h1 : lessB f N i ≤ sumN (fun j => if i < j then 1 else 0) N := sumN_leG N fun m _ => by
    by_cases h : i < m ∧ f m < f i
    · rw [if_pos h, if_pos h.1]; exact Nat.le_refl _
    · rw [if_neg h]; exact Nat.zero_le _
  rw [sumN_gt] at h1
  omega
theorem rank_tail {f : Nat → Nat} {N : Nat} (P : Pm N f) : ∀ d j, j + d = N → rankS f N N < rankS f N j + fac (N - j)
  | 0, j, h => by
    obtain rfl : j = N := by omega
    have := fac_pos (j - j)
    omega
  | d + 1, j, h => by
    have ih := rank_tail P d (j + 1) (by omega)
    simp only [rankS] at ih
    have h1 := lessA_top P (show j < N by omega)
    rw [fac_step (show j < N by omega)]
    have h2 : (lessA f N j + 1) * fac (N - 1 - j) ≤ (N - j) * fac (N - 1 - j) := Nat.mul_le_mul_right _ (by omega)
    rw [Nat.add_mul, Nat.one_mul] at h2
    rw [show N - (j + 1) = N - 1 - j by omega] at ih
    omega
theorem rank_up (f : Nat → Nat) (N i : Nat) : ∀ d, rankS f N i ≤ rankS f N (i + d)
  | 0 => Nat.le_refl _
  | d + 1 => by
    have := rank_up f N i d
    rw [← Nat.add_assoc]
    simp only [rankS]
    omega
/-- The rank. -/
def rkF (N : Nat) (f : Nat → Nat) : Nat := rankS f N N
theorem rk_lt {N : Nat} {f : Nat → Nat} (P : Pm N f) : rkF N f < fac N := by
  have := rank_tail P N 0 (by omega)
  simpa [rankS, rkF] using this
/-- The first difference. -/
def LexF (N : Nat) (f g : Nat → Nat) : Prop := ∃ i, i < N ∧ (∀ j, j < i → f j = g j) ∧ f i < g i
theorem lex_rk {N : Nat} {f g : Nat → Nat} (P : Pm N f) (Q : Pm N g) (h : LexF N f g) : rkF N f < rkF N g := by
  obtain ⟨i, hi, he, hl⟩ := h
  have h1 := rank_tail P (N - (i + 1)) (i + 1) (by omega)
  have h2 := rank_up g N (i + 1) (N - (i + 1))
  rw [show i + 1 + (N - (i + 1)) = N by omega] at h2
  simp only [rankS] at h1 h2
  rw [rankS_congr i he] at h1
  have h3 : lessA f N i < lessA g N i := by
    unfold lessA
    refine sumN_ltG N (fun x _ => ?_) ⟨f i, P.lt i hi, ?_⟩
    · rw [ahead_congr he]
      by_cases h : x < f i ∧ aheadB g i x = false
      · rw [if_pos h, if_pos ⟨by omega, h.2⟩]; exact Nat.le_refl _
      · rw [if_neg h]; exact Nat.zero_le _
    · have h4 : aheadB g i (f i) = false := by
        cases hb : aheadB g i (f i) with
        | false => rfl
        | true =>
          obtain ⟨j, hj, e⟩ := ahead_iff.1 hb
          rw [← he j hj] at e
          have := P.inj j i (by omega) hi e
          omega
      rw [if_neg (by omega), if_pos ⟨hl, h4⟩]
      exact Nat.zero_lt_one
  have h5 : (lessA f N i + 1) * fac (N - 1 - i) ≤ lessA g N i * fac (N - 1 - i) := Nat.mul_le_mul_right _ h3
  rw [Nat.add_mul, Nat.one_mul] at h5
  rw [show N - (i + 1) = N - 1 - i by omega] at h1
  unfold rkF
  omega
theorem first_diff {f g : Nat → Nat} : ∀ N, (∀ i, i < N → f i = g i) ∨ ∃ i, i < N ∧ (∀ j, j < i → f j = g j) ∧ f i ≠ g i
  | 0 => .inl fun i h => by omega
  | N + 1 => by
    rcases first_diff (f := f) (g := g) N with h | ⟨i, h1, h2, h3⟩
    · by_cases e : f N = g N
      · refine .inl fun i hi => ?_
        by_cases e2 : i = N
        · rw [e2]; exact e
        · exact h i (by omega)
      · exact .inr ⟨N, by omega, h, e⟩
    · exact .inr ⟨i, by omega, h2, h3⟩
theorem lex_tri {N : Nat} {f g : Nat → Nat} (P : Mv N f) (Q : Mv N g) : f = g ∨ LexF N f g ∨ LexF N g f := by
  rcases first_diff (f := f) (g := g) N with h | ⟨i, h1, h2, h3⟩
  · refine .inl (funext fun i => ?_)
    by_cases hi : i < N
    · exact h i hi
    · rw [P.st i (by omega), Q.st i (by omega)]
  · rcases Nat.lt_or_ge (f i) (g i) with h | h
    · exact .inr (.inl ⟨i, h1, h2, h⟩)
    · exact .inr (.inr ⟨i, h1, fun j hj => (h2 j hj).symm, by omega⟩)
theorem rk_lex {N : Nat} {f g : Nat → Nat} (P : Mv N f) (Q : Mv N g) : rkF N f < rkF N g ↔ LexF N f g := by
  refine ⟨fun h => ?_, lex_rk P.pm Q.pm⟩
  rcases lex_tri P Q with e | e | e
  · rw [e] at h; omega
  · exact e
  · have := lex_rk Q.pm P.pm e; omega
theorem rk_inj {N : Nat} {f g : Nat → Nat} (P : Mv N f) (Q : Mv N g) (h : rkF N f = rkF N g) : f = g := by
  rcases lex_tri P Q with e | e | e
  · exact e
  · have := lex_rk P.pm Q.pm e; omega
  · have := lex_rk Q.pm P.pm e; omega

/-- A rank's own permutation. -/
def unF (n k j : Nat) : Nat := if j < n then (leftL n k j).getD (iR n k j) 0 else j
section
variable {n k : Nat}
theorem un_mem (hk : k < fac n) {j : Nat} (hj : j < n) : unF n k j ∈ leftL n k j := by
  unfold unF
  rw [if_pos hj]
  have h := iR_lt hk hj
  rw [← left_len hk j (by omega)] at h
  rw [List.getD_eq_getElem?_getD, List.getElem?_eq_getElem h]
  exact List.getElem_mem h
theorem mem_left (hk : k < fac n) : ∀ j, j ≤ n → ∀ x, x ∈ leftL n k j ↔ x < n ∧ ∀ i, i < j → unF n k i ≠ x
  | 0, _, x => by
    simp only [leftL, List.mem_range]
    exact ⟨fun h => ⟨h, fun i hi => by omega⟩, fun h => h.1⟩
  | j + 1, h, x => by
    have ih := mem_left hk j (by omega) x
    have hl := iR_lt hk (show j < n by omega)
    rw [← left_len hk j (by omega)] at hl
    simp only [leftL]
    rw [mem_erase_at (left_up n k j) hl, ih]
    have e : unF n k j = (leftL n k j).getD (iR n k j) 0 := if_pos (by omega)
    rw [← e]
    constructor
    · rintro ⟨⟨h1, h2⟩, h3⟩
      refine ⟨h1, fun i hi he => ?_⟩
      by_cases ei : i = j
      · subst ei; exact h3 he.symm
      · exact h2 i (by omega) he
    · rintro ⟨h1, h2⟩
      exact ⟨⟨h1, fun i hi => h2 i (by omega)⟩, fun he => h2 j (by omega) he.symm⟩
theorem un_mv (hk : k < fac n) : Mv n (unF n k) := by
  refine ⟨⟨fun i hi => left_lt n k i _ (un_mem hk hi), fun i j hi hj he => ?_⟩, fun i hi => if_neg (by omega)⟩
  rcases Nat.lt_trichotomy i j with h | h | h
  · exact absurd he (((mem_left hk j (by omega) _).1 (un_mem hk hj)).2 i h)
  · exact h
  · exact absurd he.symm (((mem_left hk i (by omega) _).1 (un_mem hk hi)).2 j h)
theorem cnt_sum {L : List Nat} (h : L.Pairwise (· < ·)) : ∀ t, sumN (fun x => if x ∈ L then 1 else 0) t = cnt L t
  | 0 => (cnt_zero L).symm
  | t + 1 => by
    rw [cnt_succ L t h]
    simp only [sumN]
    rw [cnt_sum h t]
theorem un_less (hk : k < fac n) {j : Nat} (hj : j < n) : lessA (unF n k) n j = iR n k j := by
  have hl := iR_lt hk hj
  rw [← left_len hk j (by omega)] at hl
  have h1 := cnt_at _ _ (left_up n k j) hl
  rw [← show unF n k j = (leftL n k j).getD (iR n k j) 0 from if_pos hj] at h1
  have hu := (un_mv hk).pm.lt j hj
  rw [← h1, ← cnt_sum (left_up n k j), ← sumN_cut (fun x => if x ∈ leftL n k j then 1 else 0) n (Nat.le_of_lt hu)]
  unfold lessA
  refine sumN_congr n fun x hx => ?_
  have hm : aheadB (unF n k) j x = false ↔ x ∈ leftL n k j := by
    rw [mem_left hk j (by omega)]
    cases hb : aheadB (unF n k) j x with
    | false =>
      refine ⟨fun _ => ⟨hx, fun i hi he => ?_⟩, fun _ => rfl⟩
      have := ahead_iff.2 ⟨i, hi, he⟩
      rw [hb] at this
      cases this
    | true =>
      obtain ⟨i, hi, he⟩ := ahead_iff.1 hb
      exact ⟨(fun h => by cases h), (fun h => absurd he (h.2 i hi))⟩
  by_cases h2 : x < unF n k j
  · rw [if_pos h2]
    by_cases h3 : x ∈ leftL n k j
    · rw [if_pos ⟨h2, hm.2 h3⟩, if_pos h3]
    · rw [if_neg (fun h => h3 (hm.1 h.2)), if_neg h3]
  · rw [if_neg (fun h => h2 h.1), if_neg h2]
theorem un_part (hk : k < fac n) : ∀ j, j ≤ n → rankS (unF n k) n j + kR n k j = k
  | 0, _ => by simp [rankS, kR]
  | j + 1, h => by
    have ih := un_part hk j (by omega)
    simp only [rankS, kR]
    rw [un_less hk (by omega)]
    have := Nat.div_add_mod (kR n k j) (fac (n - 1 - j))
    rw [Nat.mul_comm] at this
    unfold iR
    omega
theorem rk_un (hk : k < fac n) : rkF n (unF n k) = k := by
  have h1 := un_part hk n (Nat.le_refl _)
  have h2 := kR_lt hk n (Nat.le_refl _)
  rw [Nat.sub_self] at h2
  simp only [fac] at h2
  unfold rkF
  omega
theorem un_rk {f : Nat → Nat} (P : Mv n f) : unF n (rkF n f) = f := rk_inj (un_mv (rk_lt P.pm)) P (rk_un (rk_lt P.pm))
theorem out_un (hk : k < fac n) : ∀ j, j ≤ n → outL n k j = (List.range j).map (unF n k)
  | 0, _ => rfl
  | j + 1, h => by
    simp only [outL]
    rw [out_un hk j (by omega), List.range_succ, List.map_append]
    simp only [List.map_cons, List.map_nil, unF]
    rw [if_pos (by omega)]
end
theorem nodup_subG {α : Type} [DecidableEq α] : ∀ {A B : List α}, A.Nodup → (∀ x ∈ A, x ∈ B) → A.length ≤ B.length
  | [], _, _, _ => Nat.zero_le _
  | a :: A, B, h, hs => by
    obtain ⟨h1, h2⟩ := List.nodup_cons.1 h
    have hb := hs a (by simp)
    have ih := nodup_subG (B := B.erase a) h2 fun x hx => (List.mem_erase_of_ne (fun e => h1 (by rw [← e]; exact hx))).2 (hs x (by simp [hx]))
    rw [List.length_erase_of_mem hb] at ih
    have := List.length_pos_of_mem hb
    rw [List.length_cons]
    omega
/-- As many as their ranks may be. -/
theorem mv_many {N : Nat} {l : List (Nat → Nat)} (hn : l.Nodup) (hm : ∀ f ∈ l, Mv N f) : l.length ≤ fac N := by
  have h1 : (l.map (rkF N)).Nodup := List.pairwise_map.2 ((List.pairwise_iff_forall_sublist.2 fun {a b} hs => by
    have hne := List.pairwise_iff_forall_sublist.1 hn hs
    intro e
    exact hne (rk_inj (hm a (hs.mem (by simp))) (hm b (hs.mem (by simp))) e)))
  have h2 : ∀ x ∈ l.map (rkF N), x ∈ List.range (fac N) := fun x hx => by
    obtain ⟨f, hf, rfl⟩ := List.mem_map.1 hx
    exact List.mem_range.2 (rk_lt (hm f hf).pm)
  have h3 := nodup_subG h1 h2
  simpa using h3
end Go.Proofs.YtgfdddknajeknaaDoor
