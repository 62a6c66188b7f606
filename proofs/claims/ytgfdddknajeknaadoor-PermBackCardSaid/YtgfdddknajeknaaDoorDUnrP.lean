/-
  Ranks turned back: number by number the one that leaves so many ahead. No program in sight.
-/
import Derived.Test.YtgfdddknajeknaaDoorDPrank2
namespace Go.Proofs.YtgfdddknajeknaaDoor
set_option linter.unusedVariables false

/-- After j numbers: what is left of the rank; what is left; what stands. -/
def kR (n k : Nat) : Nat → Nat
  | 0 => k
  | j + 1 => kR n k j % fac (n - 1 - j)
def iR (n k j : Nat) : Nat := kR n k j / fac (n - 1 - j)
def leftL (n k : Nat) : Nat → List Nat
  | 0 => List.range n
  | j + 1 => (leftL n k j).eraseIdx (iR n k j)
def outL (n k : Nat) : Nat → List Nat
  | 0 => []
  | j + 1 => outL n k j ++ [(leftL n k j).getD (iR n k j) 0]
theorem fac_pos : ∀ n, 0 < fac n
  | 0 => by decide
  | n + 1 => Nat.mul_pos (by omega) (fac_pos n)
theorem fac_step {n j : Nat} (h : j < n) : fac (n - j) = (n - j) * fac (n - 1 - j) := by
  obtain ⟨d, hd⟩ : ∃ d, n - j = d + 1 := ⟨n - j - 1, by omega⟩
  rw [hd, show n - 1 - j = d by omega]; rfl
theorem kR_lt {n k : Nat} (hk : k < fac n) : ∀ j, j ≤ n → kR n k j < fac (n - j)
  | 0, _ => hk
  | j + 1, h => by
    simp only [kR]
    rw [show n - (j + 1) = n - 1 - j by omega]
    exact Nat.mod_lt _ (fac_pos _)
theorem iR_lt {n k : Nat} (hk : k < fac n) {j : Nat} (h : j < n) : iR n k j < n - j := by
  have h1 := kR_lt hk j (by omega)
  rw [fac_step h] at h1
  unfold iR
  rw [Nat.div_lt_iff_lt_mul (fac_pos _)]
  exact h1
theorem left_len {n k : Nat} (hk : k < fac n) : ∀ j, j ≤ n → (leftL n k j).length = n - j
  | 0, _ => by simp [leftL]
  | j + 1, h => by
    have h1 := left_len hk j (by omega)
    have h2 := iR_lt hk (show j < n by omega)
    simp only [leftL]
    rw [List.length_eraseIdx, if_pos (by omega), h1]
    omega
theorem out_len (n k : Nat) : ∀ j, (outL n k j).length = j
  | 0 => rfl
  | j + 1 => by simp [outL, out_len n k j]
theorem left_up (n k : Nat) : ∀ j, (leftL n k j).Pairwise (· < ·)
  | 0 => List.pairwise_lt_range
  | j + 1 => (left_up n k j).sublist (List.eraseIdx_sublist _ _)
theorem left_lt (n k : Nat) : ∀ j, ∀ x ∈ leftL n k j, x < n
  | 0, x, h => List.mem_range.1 h
  | j + 1, x, h => left_lt n k j x ((List.eraseIdx_sublist _ _).mem h)

/-- How many of a list are below t. -/
def cnt (L : List Nat) (t : Nat) : Nat := L.countP (fun x => decide (x < t))
theorem cnt_zero (L : List Nat) : cnt L 0 = 0 := by
  unfold cnt
  rw [List.countP_eq_zero]
  intro x _
  simp
theorem cnt_succ : ∀ (L : List Nat) (t : Nat), L.Pairwise (· < ·) → cnt L (t + 1) = cnt L t + if t ∈ L then 1 else 0
  | [], t, _ => by simp [cnt]
  | y :: L, t, h => by
    obtain ⟨h1, h2⟩ := List.pairwise_cons.1 h
    have ih := cnt_succ L t h2
    unfold cnt at ih ⊢
    rw [List.countP_cons, List.countP_cons, ih]
    by_cases e : y = t
    · subst e
      have hn : y ∉ L := fun hy => by have := h1 y hy; omega
      rw [if_neg hn, if_pos (by simp : y ∈ y :: L)]
      simp
    · by_cases hy : y < t
      · by_cases ht : t ∈ L
        · rw [if_pos ht, if_pos (show t ∈ y :: L by simp [ht])]
          simp [hy, show y < t + 1 by omega]
        · rw [if_neg ht, if_neg (show ¬ t ∈ y :: L by simp [ht]; omega)]
          simp [hy, show y < t + 1 by omega]
      · by_cases ht : t ∈ L
        · rw [if_pos ht, if_pos (show t ∈ y :: L by simp [ht])]
          simp [hy, show ¬ y < t + 1 by omega]
        · rw [if_neg ht, if_neg (show ¬ t ∈ y :: L by simp [ht]; omega)]
          simp [hy, show ¬ y < t + 1 by omega]
theorem cnt_at : ∀ (L : List Nat) (i : Nat), L.Pairwise (· < ·) → i < L.length → cnt L (L.getD i 0) = i
  | [], i, _, h => by simp at h
  | y :: L, 0, h, _ => by
    obtain ⟨h1, h2⟩ := List.pairwise_cons.1 h
    unfold cnt
    rw [List.countP_eq_zero]
    intro x hx
    rcases List.mem_cons.1 hx with e | e
    · simp [e]
    · have := h1 x e
      simp
      omega
  | y :: L, i + 1, h, hi => by
    obtain ⟨h1, h2⟩ := List.pairwise_cons.1 h
    have ih := cnt_at L i h2 (by simpa using hi)
    have hm : L.getD i 0 ∈ L := by
      have : i < L.length := by simpa using hi
      rw [List.getD_eq_getElem?_getD, List.getElem?_eq_getElem this]
      simp
    have := h1 _ hm
    unfold cnt at ih ⊢
    rw [List.countP_cons, show (y :: L).getD (i + 1) 0 = L.getD i 0 by simp [List.getD_eq_getElem?_getD], ih, if_pos (by simpa using this)]
theorem cnt_mono (L : List Nat) {s t : Nat} (h : s ≤ t) : cnt L s ≤ cnt L t := by
  unfold cnt
  exact List.countP_mono_left (fun x _ hx => by simp at hx ⊢; omega)
theorem mem_erase_at {L : List Nat} {i : Nat} (h : L.Pairwise (· < ·)) (hi : i < L.length) (x : Nat) : x ∈ L.eraseIdx i ↔ x ∈ L ∧ x ≠ L.getD i 0 := by
  have hg : L.getD i 0 = L[i] := by rw [List.getD_eq_getElem?_getD, List.getElem?_eq_getElem hi]; rfl
  have inj : ∀ a b (ha : a < L.length) (hb : b < L.length), L[a] = L[b] → a = b := by
    intro a b ha hb e
    rw [List.pairwise_iff_getElem] at h
    rcases Nat.lt_trichotomy a b with h1 | h1 | h1
    · have := h a b ha hb h1; omega
    · exact h1
    · have := h b a hb ha h1; omega
  rw [List.mem_eraseIdx_iff_getElem, hg]
  constructor
  · rintro ⟨a, ha, hne, rfl⟩
    exact ⟨List.getElem_mem ha, fun e => hne (inj _ _ _ _ e)⟩
  · rintro ⟨hx, hne⟩
    obtain ⟨a, ha, rfl⟩ := List.mem_iff_getElem.1 hx
    exact ⟨a, ha, fun e => hne (by subst e; rfl), rfl⟩

/-- What the other one keeps: which are used. -/
def useL (n k j : Nat) : List Bool := (List.range n).map fun x => !((leftL n k j).contains x)
theorem use_len (n k j : Nat) : (useL n k j).length = n := by simp [useL]
theorem use_get (n k j x : Nat) (h : x < n) : (useL n k j)[x]? = some (!((leftL n k j).contains x)) := by simp [useL, h]
theorem use_zero (n k : Nat) : useL n k 0 = List.replicate n false := by
  apply List.ext_getElem?
  intro x
  by_cases h : x < n
  · rw [use_get n k 0 x h]; simp [h, leftL]
  · rw [List.getElem?_eq_none (by rw [use_len]; omega), List.getElem?_eq_none (by simp; omega)]
theorem use_succ {n k : Nat} (hk : k < fac n) {j : Nat} (hj : j < n) : useL n k (j + 1) = (useL n k j).set ((leftL n k j).getD (iR n k j) 0) true := by
  have hl := left_len hk j (by omega)
  have hi := iR_lt hk hj
  have hm := mem_erase_at (left_up n k j) (show iR n k j < (leftL n k j).length by omega)
  apply List.ext_getElem?
  intro x
  by_cases h : x < n
  · rw [use_get n k (j + 1) x h]
    generalize (leftL n k j).getD (iR n k j) 0 = X at *
    have hmx := hm x
    simp only [leftL]
    by_cases e : X = x
    · subst e
      rw [List.getElem?_set_self (by rw [use_len]; exact h)]
      have : ((leftL n k j).eraseIdx (iR n k j)).contains X = false := by
        rw [Bool.eq_false_iff]
        intro hc
        exact (hmx.1 (List.contains_iff_mem.1 hc)).2 rfl
      rw [this]
      rfl
    · rw [List.getElem?_set_ne e, use_get n k j x h]
      congr 2
      rw [Bool.eq_iff_iff, List.contains_iff_mem, List.contains_iff_mem, hmx]
      exact ⟨fun h => h.1, fun h => ⟨h, fun e2 => e e2.symm⟩⟩
  · rw [List.getElem?_eq_none (by rw [use_len]; omega), List.getElem?_eq_none (by rw [List.length_set, use_len]; omega)]
/-- The place at which the other one stands still: X; below it so many are free. -/
theorem skip_spec {n k : Nat} (hk : k < fac n) {j : Nat} (hj : j < n) :
    let L := leftL n k j; let X := L.getD (iR n k j) 0
    X < n ∧ L.contains X = true ∧ (∀ t, t ≤ X → cnt L t ≤ iR n k j) ∧ cnt L X = iR n k j ∧ cnt L 0 = 0 ∧ (∀ t, cnt L (t + 1) = cnt L t + if L.contains t = true then 1 else 0) ∧ (∀ t, t < X → L.contains t = true → cnt L t < iR n k j) := by
  intro L X
  have hl := left_len hk j (by omega)
  have hi := iR_lt hk hj
  have hup := left_up n k j
  have hi2 : iR n k j < L.length := by show iR n k j < (leftL n k j).length; omega
  have hm : X ∈ L := by
    show L.getD _ 0 ∈ L
    rw [List.getD_eq_getElem?_getD, List.getElem?_eq_getElem hi2]
    simp
  have hs : ∀ t, cnt L (t + 1) = cnt L t + if L.contains t = true then 1 else 0 := fun t => by
    rw [cnt_succ L t hup]
    simp
  have hat : cnt L X = iR n k j := cnt_at L _ hup hi2
  refine ⟨left_lt n k j X hm, List.contains_iff_mem.2 hm, fun t ht => ?_, hat, cnt_zero L, hs, fun t ht hc => ?_⟩
  · rw [← hat]; exact cnt_mono L ht
  · have h1 := hs t
    rw [if_pos hc] at h1
    have h2 := cnt_mono L (show t + 1 ≤ X by omega)
    omega
end Go.Proofs.YtgfdddknajeknaaDoor
