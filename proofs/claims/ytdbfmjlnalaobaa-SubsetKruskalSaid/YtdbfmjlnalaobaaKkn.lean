/-
  Kruskal and Katona's number, and what Frankl's proof wants of it. No program in sight.
-/
import Derived.Test.YtdbfmjlnalaobaaLeast
namespace Go.Proofs.Ytdbfmjlnalaobaa
set_option linter.unusedVariables false

def kk : Nat → Nat → Nat
  | 0, _ => 0
  | k + 1, m => if m = 0 then 0 else bin (topC (k + 1) m) k + kk k (m - bin (topC (k + 1) m) (k + 1))
/-- How many of the first m sets have the first thing. -/
def uu : Nat → Nat → Nat
  | 0, _ => 0
  | k + 1, m => if m = 0 then 0 else bin (topC (k + 1) m - 1) k + uu k (m - bin (topC (k + 1) m) (k + 1))
theorem kk_zero : ∀ k, kk k 0 = 0
  | 0 => rfl
  | k + 1 => by simp [kk]
theorem uu_zero : ∀ k, uu k 0 = 0
  | 0 => rfl
  | k + 1 => by simp [uu]
/-- The top of a number, and what is left. -/
theorem top_of {k m : Nat} (h : 0 < m) : ∃ a r, m = bin (a + 1) (k + 1) + r ∧ r < bin (a + 1) k ∧ k ≤ a ∧ topC (k + 1) m = a + 1 := by
  obtain ⟨h1, h2, _⟩ := topC_spec (k := k + 1) (m := m) (by omega)
  have h3 : k + 1 ≤ topC (k + 1) m := by
    rcases Nat.lt_or_ge (topC (k + 1) m) (k + 1) with h | h
    · have h4 := bin_mono (show topC (k + 1) m + 1 ≤ k + 1 by omega) (k + 1)
      rw [bin_all] at h4
      omega
    · exact h
  obtain ⟨a, ha⟩ : ∃ a, topC (k + 1) m = a + 1 := ⟨topC (k + 1) m - 1, by omega⟩
  rw [ha] at h1 h2 h3
  rw [bin_succ] at h2
  exact ⟨a, m - bin (a + 1) (k + 1), by omega, by omega, by omega, ha⟩
theorem top_is {k a r : Nat} (hr : r < bin a k) : topC (k + 1) (bin a (k + 1) + r) = a :=
  topC_only (by omega) (by omega) (by rw [bin_succ]; omega)
theorem kk_at {k a r : Nat} (ha : k + 1 ≤ a) (hr : r < bin a k) : kk (k + 1) (bin a (k + 1) + r) = bin a k + kk k r := by
  have := bin_pos a (k + 1) ha
  simp only [kk]
  rw [if_neg (by omega), top_is hr, Nat.add_sub_cancel_left]
theorem uu_at {k a r : Nat} (ha : k ≤ a) (hr : r < bin (a + 1) k) : uu (k + 1) (bin (a + 1) (k + 1) + r) = bin a k + uu k r := by
  have := bin_pos (a + 1) (k + 1) (by omega)
  simp only [uu]
  rw [if_neg (by omega), top_is hr, Nat.add_sub_cancel_left, Nat.add_sub_cancel]
theorem kk_bd : ∀ (k A m : Nat), m ≤ bin A (k + 1) → kk (k + 1) m ≤ bin A k
  | k, A, m, h => by
    rcases Nat.eq_zero_or_pos m with rfl | hm
    · rw [kk_zero]; exact Nat.zero_le _
    · obtain ⟨a, r, rfl, hr, ha, _⟩ := top_of (k := k) hm
      rw [kk_at (by omega) hr]
      rcases Nat.lt_trichotomy (a + 1) A with h1 | h1 | h1
      · match k, h, hr, ha with
        | 0, h, hr, ha => rw [bin_zero, bin_zero]; simp [kk]
        | k + 1, h, hr, ha =>
          have ih := kk_bd k (a + 1) r (by omega)
          have h2 := bin_succ (a + 1) k
          have h3 := bin_mono (show a + 1 + 1 ≤ A by omega) (k + 1)
          omega
      · subst h1
        have hr0 : r = 0 := by omega
        rw [hr0, kk_zero]
        omega
      · have h2 := bin_mono (show A ≤ a by omega) (k + 1)
        have h3 : bin (a + 1) (k + 1) = bin a k + bin a (k + 1) := rfl
        have h4 := bin_pos a k ha
        omega
theorem kk_mono : ∀ (k m m' : Nat), m ≤ m' → kk k m ≤ kk k m'
  | 0, m, m', _ => Nat.le_refl _
  | k + 1, m, m', h => by
    rcases Nat.eq_zero_or_pos m with rfl | hm
    · rw [kk_zero]; exact Nat.zero_le _
    · obtain ⟨a, r, rfl, hr, ha, _⟩ := top_of (k := k) hm
      obtain ⟨b, q, rfl, hq, hb, _⟩ := top_of (k := k) (show 0 < m' by omega)
      rcases Nat.lt_trichotomy a b with h1 | h1 | h1
      · have h2 := kk_bd k (a + 1 + 1) (bin (a + 1) (k + 1) + r) (by rw [bin_succ (a + 1) k]; omega)
        rw [kk_at (by omega) hq]
        have h3 := bin_mono (show a + 1 + 1 ≤ b + 1 by omega) k
        omega
      · subst h1
        rw [kk_at (by omega) hr, kk_at (by omega) hq]
        have := kk_mono k r q (by omega)
        omega
      · have h2 := bin_mono (show b + 1 + 1 ≤ a + 1 by omega) (k + 1)
        rw [bin_succ] at h2
        omega
theorem kk_over {k a r : Nat} (ha : k + 1 ≤ a) (hr : r ≤ bin a k) : bin a k + kk k r ≤ kk (k + 1) (bin a (k + 1) + r) := by
  rcases Nat.lt_or_ge r (bin a k) with h | h
  · rw [kk_at ha h]; exact Nat.le_refl _
  · obtain rfl : r = bin a k := by omega
    have h1 : bin a (k + 1) + bin a k = bin (a + 1) (k + 1) + 0 := by rw [bin_succ]; omega
    rw [h1, kk_at (by omega) (bin_pos (a + 1) k (by omega)), kk_zero]
    match k, ha with
    | 0, ha => rw [bin_zero, bin_zero]; simp [kk]
    | k + 1, ha =>
      have := kk_bd k a (bin a (k + 1)) (Nat.le_refl _)
      have := bin_succ a k
      omega
theorem uu_le : ∀ (k m : Nat), uu k m ≤ m
  | 0, m => Nat.zero_le _
  | k + 1, m => by
    rcases Nat.eq_zero_or_pos m with rfl | hm
    · rw [uu_zero]; exact Nat.le_refl _
    · obtain ⟨a, r, rfl, hr, ha, _⟩ := top_of (k := k) hm
      rw [uu_at ha hr]
      have := uu_le k r
      have := bin_succ a k
      omega
theorem uu_bd : ∀ (j a r : Nat), r < bin (a + 1) (j + 1) → uu (j + 1) r ≤ bin a j
  | j, a, r, h => by
    rcases Nat.eq_zero_or_pos r with rfl | hm
    · rw [uu_zero]; exact Nat.zero_le _
    · obtain ⟨b, q, rfl, hq, hb, _⟩ := top_of (k := j) hm
      have hba : b + 1 ≤ a := by
        rcases Nat.lt_or_ge a (b + 1) with h1 | h1
        · have := bin_mono (show a + 1 ≤ b + 1 by omega) (j + 1); omega
        · exact h1
      rw [uu_at hb hq]
      match j, hq, hb with
      | 0, _, _ => rw [bin_zero, bin_zero]; simp [uu]
      | j + 1, hq, hb =>
        have ih := uu_bd j b q hq
        have := bin_succ b j
        have := bin_mono hba (j + 1)
        omega
theorem kk_uu : ∀ (k m : Nat), kk (k + 1) m ≤ uu (k + 1) m + kk k (uu (k + 1) m)
  | k, m => by
    rcases Nat.eq_zero_or_pos m with rfl | hm
    · rw [kk_zero]; exact Nat.zero_le _
    · obtain ⟨a, r, rfl, hr, ha, _⟩ := top_of (k := k) hm
      rw [kk_at (by omega) hr, uu_at ha hr]
      match k, hr, ha with
      | 0, hr, ha => rw [bin_zero, bin_zero]; simp [kk]
      | j + 1, hr, ha =>
        have ih := kk_uu j r
        have hU := uu_bd j a r hr
        generalize uu (j + 1) r = U at *
        have hs := kk_over (k := j) (a := a) (r := U) (by omega) hU
        have := bin_succ a j
        omega
theorem vv_lt : ∀ (k a r : Nat), k ≤ a → r < bin (a + 1) k → r - uu k r < bin a k
  | 0, a, r, _, h => by rw [bin_zero] at h ⊢; simp [uu]; omega
  | j + 1, a, r, ha, h => by
    rcases Nat.eq_zero_or_pos r with rfl | hm
    · rw [Nat.zero_sub]; exact bin_pos a (j + 1) ha
    · obtain ⟨b, q, rfl, hq, hb, _⟩ := top_of (k := j) hm
      have hba : b + 1 ≤ a := by
        rcases Nat.lt_or_ge a (b + 1) with h1 | h1
        · have := bin_mono (show a + 1 ≤ b + 1 by omega) (j + 1); omega
        · exact h1
      rw [uu_at hb hq]
      have ih := vv_lt j b q hb hq
      have h1 := uu_le j q
      have := bin_succ b j
      have := bin_mono hba (j + 1)
      omega
theorem kk_vv : ∀ (k m : Nat), 0 < m → uu (k + 1) m ≤ kk (k + 1) (m - uu (k + 1) m + 1)
  | k, m, hm => by
    obtain ⟨a, r, rfl, hr, ha, _⟩ := top_of (k := k) hm
    rw [uu_at ha hr]
    have hU := uu_le k r
    have hV := vv_lt k a r ha hr
    have hb := bin_succ a k
    by_cases e : a = k
    · subst e
      rw [bin_all] at hV ⊢
      rw [bin_all]
      have h1 : kk (a + 1) 1 = bin (a + 1) a := by
        have := kk_at (k := a) (a := a + 1) (r := 0) (Nat.le_refl _) (bin_pos (a + 1) a (by omega))
        rw [bin_all, kk_zero] at this
        exact this
      have h2 : 1 + r - (1 + uu a r) + 1 = 1 := by omega
      rw [h2, h1]
      omega
    · have hka : k + 1 ≤ a := by omega
      have he : bin (a + 1) (k + 1) + r - (bin a k + uu k r) + 1 = bin a (k + 1) + (r - uu k r + 1) := by omega
      rw [he]
      rcases Nat.eq_zero_or_pos r with h0 | h0
      · subst h0
        rw [uu_zero] at hV ⊢
        have h1 := kk_over (k := k) (a := a) (r := 0) hka (Nat.zero_le _)
        rw [kk_zero] at h1
        have h2 := kk_mono (k + 1) (bin a (k + 1) + 0) (bin a (k + 1) + (0 - 0 + 1)) (by omega)
        omega
      · match k, hr, ha, hU, hV, hb, e, hka with
        | 0, hr, _, _, _, _, _, _ => rw [bin_zero] at hr; omega
        | j + 1, hr, ha, hU, hV, hb, e, hka =>
          have ih := kk_vv j r h0
          have hs := kk_over (k := j + 1) (a := a) (r := r - uu (j + 1) r + 1) hka (by omega)
          omega
theorem kk_split {k m0 m1 : Nat} (h : kk (k + 1) m0 ≤ m1) : kk (k + 1) (m0 + m1) ≤ m1 + kk k m1 := by
  rcases Nat.eq_zero_or_pos (m0 + m1) with e | hm
  · rw [e, kk_zero]; exact Nat.zero_le _
  · have h1 := kk_vv k _ hm
    have h2 := uu_le (k + 1) (m0 + m1)
    have h3 := kk_uu k (m0 + m1)
    generalize uu (k + 1) (m0 + m1) = U at *
    rcases Nat.lt_or_ge m1 U with h4 | h4
    · have := kk_mono (k + 1) (m0 + m1 - U + 1) m0 (by omega)
      omega
    · have := kk_mono k U m1 h4
      omega
theorem ls_cons (k a : Nat) (A : List Nat) : ∀ t, lsS (k + 1) (a :: A) (t + 1) = bin a k + lsS k A t
  | 0 => by simp [lsS]
  | t + 1 => by
    have ih := ls_cons k a A t
    rw [show lsS (k + 1) (a :: A) (t + 1 + 1) = lsS (k + 1) (a :: A) (t + 1) + bin ((a :: A).getD (t + 1) 0) (k + 1 - 1 - (t + 1)) from rfl, ih, List.getD_cons_succ, show k + 1 - 1 - (t + 1) = k - 1 - t by omega]
    simp only [lsS]
    omega
theorem kk_ls : ∀ (k m : Nat), lsS k (casc k m) (casc k m).length = kk k m
  | 0, m => rfl
  | k + 1, m => by
    rcases Nat.eq_zero_or_pos m with rfl | hm
    · rw [casc_nil, kk_zero]; rfl
    · rw [casc_step hm, List.length_cons, ls_cons, kk_ls k]
      simp only [kk]
      rw [if_neg (by omega)]
end Go.Proofs.Ytdbfmjlnalaobaa
