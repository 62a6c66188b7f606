/-
  Families of sets as numbers and as lists of bits. No program in sight.
-/
import Derived.Test.YtdbfmjlnalaobaaShift
namespace Go.Proofs.Ytdbfmjlnalaobaa
set_option linter.unusedVariables false

def bl : Nat → Nat → List Bool
  | 0, _ => []
  | n + 1, s => decide (s % 2 = 1) :: bl n (s / 2)
def vl : List Bool → Nat
  | [] => 0
  | b :: t => b.toNat + 2 * vl t
theorem bl_len : ∀ n s, (bl n s).length = n
  | 0, _ => rfl
  | n + 1, s => by simp [bl, bl_len n]
theorem vl_bl : ∀ n s, s < 2 ^ n → vl (bl n s) = s
  | 0, s, h => by simp at h; simp [bl, vl, h]
  | n + 1, s, h => by
    have := vl_bl n (s / 2) (by rw [Nat.pow_succ] at h; omega)
    simp only [bl, vl, this]
    by_cases e : s % 2 = 1
    · simp [e]; omega
    · simp [e]; omega
theorem bl_vl : ∀ t : List Bool, bl t.length (vl t) = t
  | [] => rfl
  | b :: t => by
    have := bl_vl t
    have h1 : (b.toNat + 2 * vl t) / 2 = vl t := by cases b <;> simp <;> omega
    have h2 : (b.toNat + 2 * vl t) % 2 = b.toNat := by cases b <;> simp <;> omega
    simp only [List.length_cons, bl, vl, h1, h2, this]
    cases b <;> simp
theorem vl_lt : ∀ t : List Bool, vl t < 2 ^ t.length
  | [] => by simp [vl]
  | b :: t => by
    have := vl_lt t
    simp only [vl, List.length_cons, Nat.pow_succ]
    cases b <;> simp <;> omega
theorem on_bl : ∀ (n i s : Nat), i < n → on i (bl n s) = s.testBit i
  | n + 1, 0, s, _ => by simp [bl, on, Nat.testBit_zero]
  | n + 1, i + 1, s, h => by
    simp only [bl, on]
    rw [on_bl n i (s / 2) (by omega), Nat.testBit_succ]
theorem card_bl : ∀ (n s : Nat), card (bl n s) = popF n s
  | 0, s => rfl
  | n + 1, s => by
    have := card_bl n (s / 2)
    simp only [bl, card, popF, this]
    by_cases e : s % 2 = 1
    · simp [e]
    · have : s % 2 = 0 := by omega
      simp [this]
theorem pop_popF {n s : Nat} (hn : n ≤ 12) (h : s < 2 ^ n) : popF n s = pop s := by rw [pop_count hn h, popF_count]
theorem vl_flp : ∀ (i : Nat) (t : List Bool), i < t.length → on i t = false → vl (flp i t) = vl t + 2 ^ i
  | _, [], h, _ => by simp at h
  | 0, b :: t, _, h => by
    have : b = false := h
    subst this
    simp [flp, vl]; omega
  | i + 1, b :: t, h, h2 => by
    have := vl_flp i t (by simpa using h) h2
    simp only [flp, vl, this, Nat.pow_succ]
    omega
/-- The family of a list of numbers. -/
def fm (A : List Nat) : List Bool → Bool := fun t => A.contains (vl t)
theorem fm_cn (n : Nat) : ∀ (A : List Nat), A.Nodup → (∀ a ∈ A, a < 2 ^ n) → cn n (fm A) = A.length
  | [], _, _ => by
    have : cn n (fm []) = sm n fun _ => 0 := sm_congr fun t _ => by simp [fm]
    rw [this, sm_zero]; rfl
  | a :: A, hd, h => by
    obtain ⟨h1, h2⟩ := List.nodup_cons.1 hd
    have ih := fm_cn n A h2 (fun b hb => h b (by simp [hb]))
    have : cn n (fm (a :: A)) = sm n (fun t => (if t = bl n a then 1 else 0) + (fm A t).toNat) := sm_congr fun t ht => by
      by_cases e : t = bl n a
      · rw [if_pos e]
        have hv : vl t = a := by rw [e, vl_bl n a (h a (by simp))]
        have : fm A t = false := by
          rw [← Bool.not_eq_true]
          intro hc
          simp only [fm, hv, List.contains_iff_mem] at hc
          exact h1 hc
        rw [this]
        simp [fm, hv]
      · rw [if_neg e]
        have hv : vl t ≠ a := fun e2 => e (by rw [← e2, ← ht, bl_vl])
        simp [fm, hv]
    rw [this, sm_add, sm_one _ (bl_len n a)]
    unfold cn at ih
    rw [ih, List.length_cons]
    omega
theorem up_lt {F : Nat → Nat} {N : Nat} (up : ∀ k, k + 1 < N → F k < F (k + 1)) : ∀ d i, i + d + 1 < N → F i < F (i + d + 1)
  | 0, i, h => up i h
  | d + 1, i, h => Nat.lt_trans (up_lt up d i (by omega)) (up (i + d + 1) h)
theorem up_pair {F : Nat → Nat} {N : Nat} (up : ∀ k, k + 1 < N → F k < F (k + 1)) : ((List.range N).map F).Pairwise (· < ·) := by
  rw [List.pairwise_map]
  refine List.Pairwise.imp_of_mem ?_ List.pairwise_lt_range
  intro i j hi hj hij
  have hj' := List.mem_range.1 hj
  have := up_lt up (j - i - 1) i (by omega)
  rwa [show i + (j - i - 1) + 1 = j by omega] at this
theorem pair_nodup {A : List Nat} (h : A.Pairwise (· < ·)) : A.Nodup := h.imp fun h => Nat.ne_of_lt h
theorem fm_uni {n k : Nat} {A : List Nat} (hn : n ≤ 12) (h : ∀ a ∈ A, a < 2 ^ n ∧ pop a = k) : uni n k (fm A) := by
  intro t ht hf
  simp only [fm, List.contains_iff_mem] at hf
  obtain ⟨h1, h2⟩ := h _ hf
  have := card_bl n (vl t)
  rw [pop_popF hn h1, h2] at this
  rw [← this, ← ht, bl_vl]
theorem fm_meet {n : Nat} {A : List Nat} (h : ∀ a ∈ A, a < 2 ^ n) (hm : ∀ a ∈ A, ∀ b ∈ A, a &&& b ≠ 0) : meet n (fm A) := by
  intro s t hs ht h1 h2
  simp only [fm, List.contains_iff_mem] at h1 h2
  have hne := hm _ h1 _ h2
  obtain ⟨i, hi⟩ : ∃ i, (vl s &&& vl t).testBit i = true := by
    apply Classical.byContradiction
    intro hno
    refine hne (Nat.eq_of_testBit_eq fun i => ?_)
    cases hb : (vl s &&& vl t).testBit i with
    | false => simp
    | true => exact absurd ⟨i, hb⟩ hno
  rw [Nat.testBit_and, Bool.and_eq_true] at hi
  have hin : i < n := by
    rcases Nat.lt_or_ge i n with h' | h'
    · exact h'
    · have := Nat.testBit_lt_two_pow (Nat.lt_of_lt_of_le (h _ h1) (Nat.pow_le_pow_right (n := 2) (by omega) h'))
      rw [this] at hi
      cases hi.1
  refine ⟨i, hin, ?_, ?_⟩
  · have := on_bl n i (vl s) hin
    rw [← hs, bl_vl] at this
    rw [this]; exact hi.1
  · have := on_bl n i (vl t) hin
    rw [← ht, bl_vl] at this
    rw [this]; exact hi.2
theorem cr_all {l : List Int} {F : Nat → Nat} {n N : Nat} (hF : Fam n l F N) (h : crB l F N = true) : ∀ i, i < N → ∀ j, j < N → F i &&& F j ≠ 0 := by
  intro i hi j hj e
  rcases Nat.lt_or_ge i j with h1 | h1
  · have := cr_no hF.fam hj (Nat.le_of_lt h1) (by rw [Nat.and_comm]; exact e)
    rw [this] at h
    cases h
  · have := cr_no hF.fam hi h1 e
    rw [this] at h
    cases h
theorem erdos {l : List Int} {F : Nat → Nat} {n N k : Nat} (hF : Fam n l F N) (h : crB l F N = true) (hk : ∀ i, i < N → pop (F i) = k) (h1 : 1 ≤ k) (h2 : 2 * k ≤ n) : N ≤ bin (n - 1) (k - 1) := by
  obtain ⟨k, rfl⟩ : ∃ k', k = k' + 1 := ⟨k - 1, by omega⟩
  obtain ⟨n', rfl⟩ : ∃ n', n = n' + 1 := ⟨n - 1, by omega⟩
  have hA : ∀ a ∈ (List.range N).map F, ∃ i, i < N ∧ a = F i := fun a ha => by
    obtain ⟨i, hi, e⟩ := List.mem_map.1 ha
    exact ⟨i, List.mem_range.1 hi, e.symm⟩
  have := ekr n' k (fm ((List.range N).map F)) h2
    (fm_uni hF.n12 fun a ha => by obtain ⟨i, hi, rfl⟩ := hA a ha; exact ⟨hF.lt i hi, hk i hi⟩)
    (fm_meet (fun a ha => by obtain ⟨i, hi, rfl⟩ := hA a ha; exact hF.lt i hi) fun a ha b hb => by
      obtain ⟨i, hi, rfl⟩ := hA a ha
      obtain ⟨j, hj, rfl⟩ := hA b hb
      exact cr_all hF h i hi j hj)
  rw [fm_cn (n' + 1) _ (pair_nodup (up_pair hF.up)) (fun a ha => by obtain ⟨i, hi, rfl⟩ := hA a ha; exact hF.lt i hi)] at this
  simpa using this
theorem pop_pos {n s : Nat} (hn : n ≤ 12) (h : s < 2 ^ n) (h0 : s ≠ 0) : 1 ≤ pop s := by
  rcases Nat.eq_zero_or_pos (pop s) with e | e
  · have h1 : ∀ (n s : Nat), s < 2 ^ n → popF n s = 0 → s = 0 := by
      intro n
      induction n with
      | zero => intro s h _; simpa using h
      | succ n ih =>
        intro s h h2
        simp only [popF] at h2
        have := ih (s / 2) (by rw [Nat.pow_succ] at h; omega) (by omega)
        omega
    rw [← pop_popF hn h] at e
    exact absurd (h1 n s h e) h0
  · exact e
end Go.Proofs.Ytdbfmjlnalaobaa
