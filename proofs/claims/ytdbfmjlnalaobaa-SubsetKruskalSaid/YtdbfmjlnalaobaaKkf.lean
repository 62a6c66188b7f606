/-
  Shadows are no smaller than Kruskal and Katona say. No program in sight.
-/
import Derived.Test.YtdbfmjlnalaobaaKkn
import Derived.Test.YtdbfmjlnalaobaaMask
namespace Go.Proofs.Ytdbfmjlnalaobaa
set_option linter.unusedVariables false

/-- What is less by one thing. -/
def sd (f : List Bool → Bool) (t : List Bool) : Bool := (List.range t.length).any fun i => !on i t && f (flp i t)
theorem sd_iff {f : List Bool → Bool} {t : List Bool} : sd f t = true ↔ ∃ i, i < t.length ∧ on i t = false ∧ f (flp i t) = true := by
  simp only [sd, List.any_eq_true, List.mem_range, Bool.and_eq_true, Bool.not_eq_true']
theorem sd_sh {n x : Nat} (hx : x < n) (f : List Bool → Bool) (u : List Bool) (hu : u.length = n + 1) (h : sd (sh false x f) u = true) : sh false x (sd f) u = true := by
  obtain ⟨i, hi, ho, hf⟩ := sd_iff.1 h
  match u, hu with
  | true :: t, hu =>
    have ht : t.length = n := by simpa using hu
    have e1 := sh_to false x (sd f) t
    simp only [Bool.not_false] at e1
    rw [e1]
    match i, hi, ho, hf with
    | 0, _, ho, _ => simp [on] at ho
    | j + 1, hi, ho, hf =>
      have hj : j < t.length := by simpa using hi
      have hoj : on j t = false := ho
      have e2 := sh_to false x f (flp j t)
      simp only [Bool.not_false] at e2
      have hf' : sh false x f (true :: flp j t) = true := hf
      rw [e2] at hf'
      by_cases hjx : j = x
      · subst hjx
        rw [on_flp j t hj, hoj] at hf'
        simp at hf'
        rw [if_pos hoj]
        have : sd f (true :: t) = true := sd_iff.2 ⟨j + 1, hi, ho, hf'⟩
        rw [this]; rfl
      · rw [on_other x j t (fun e => hjx e.symm)] at hf'
        by_cases hox : on x t = false
        · rw [if_pos hox] at hf' ⊢
          rw [Bool.or_eq_true] at hf' ⊢
          rcases hf' with hf' | hf'
          · exact .inl (sd_iff.2 ⟨j + 1, hi, ho, hf'⟩)
          · refine .inr (sd_iff.2 ⟨j + 1, by simpa [flp_len] using hj, ?_, ?_⟩)
            · show on j (flp x t) = false
              rw [on_other j x t hjx]; exact hoj
            · show f (false :: flp j (flp x t)) = true
              rw [flp_comm]; exact hf'
        · rw [if_neg hox] at hf' ⊢
          exact sd_iff.2 ⟨j + 1, hi, ho, hf'⟩
  | false :: t, hu =>
    have ht : t.length = n := by simpa using hu
    rw [sh_from]
    simp only [Bool.not_false]
    by_cases hox : on x t = true
    · rw [if_pos hox, Bool.and_eq_true]
      match i, hi, ho, hf with
      | 0, hi, ho, hf =>
        have hf' : sh false x f (true :: t) = true := hf
        have e2 := sh_to false x f t
        simp only [Bool.not_false] at e2
        rw [e2, if_neg (by rw [hox]; decide)] at hf'
        refine ⟨sd_iff.2 ⟨0, by simp, rfl, hf'⟩, sd_iff.2 ⟨x + 1, by simp [flp_len]; omega, ?_, ?_⟩⟩
        · show on x (flp x t) = false
          rw [on_flp x t (by omega), hox]; rfl
        · show f (true :: flp x (flp x t)) = true
          rw [flp_flp]; exact hf'
      | j + 1, hi, ho, hf =>
        have hj : j < t.length := by simpa using hi
        have hoj : on j t = false := ho
        have hjx : j ≠ x := fun e => by rw [e, hox] at hoj; cases hoj
        have hf' : sh false x f (false :: flp j t) = true := hf
        rw [sh_from, on_other x j t (fun e => hjx e.symm)] at hf'
        simp only [Bool.not_false] at hf'
        rw [if_pos hox, Bool.and_eq_true] at hf'
        refine ⟨sd_iff.2 ⟨j + 1, hi, ho, hf'.1⟩, sd_iff.2 ⟨j + 1, by simpa [flp_len] using hj, ?_, ?_⟩⟩
        · show on j (flp x t) = false
          rw [on_other j x t hjx]; exact hoj
        · show f (true :: flp j (flp x t)) = true
          rw [flp_comm]; exact hf'.2
    · rw [if_neg hox]
      have hox' : on x t = false := by simpa using hox
      match i, hi, ho, hf with
      | 0, hi, ho, hf =>
        have hf' : sh false x f (true :: t) = true := hf
        have e2 := sh_to false x f t
        simp only [Bool.not_false] at e2
        rw [e2, if_pos hox', Bool.or_eq_true] at hf'
        rcases hf' with hf' | hf'
        · exact sd_iff.2 ⟨0, by simp, rfl, hf'⟩
        · exact sd_iff.2 ⟨x + 1, by simp; omega, hox', hf'⟩
      | j + 1, hi, ho, hf =>
        have hj : j < t.length := by simpa using hi
        have hf' : sh false x f (false :: flp j t) = true := hf
        rw [sh_from] at hf'
        split at hf'
        · rw [Bool.and_eq_true] at hf'
          exact sd_iff.2 ⟨j + 1, hi, ho, hf'.1⟩
        · exact sd_iff.2 ⟨j + 1, hi, ho, hf'⟩

theorem kruskal : ∀ (n k : Nat) (f : List Bool → Bool), uni n (k + 1) f → kk (k + 1) (cn n f) ≤ cn n (sd f)
  | 0, k, f, hu => by
    have : cn 0 f = 0 := by
      show (f []).toNat = 0
      cases h : f []
      · rfl
      · have := hu [] rfl h
        simp [card] at this
    rw [this, kk_zero]
    exact Nat.zero_le _
  | n + 1, k, f, hu => by
    obtain ⟨f', ⟨hu', hs'⟩, hc', hd⟩ := sh_end false n (fun g => uni (n + 1) (k + 1) g ∧ cn (n + 1) (sd g) ≤ cn (n + 1) (sd f)) (fun g x hx h => ⟨sh_uni hx h.1, by
      refine Nat.le_trans ?_ h.2
      rw [← sh_cn false n x hx (sd g)]
      exact cn_le fun t ht h => sd_sh hx g t ht h⟩) _ f (Nat.le_refl _) ⟨hu, Nat.le_refl _⟩
    refine Nat.le_trans ?_ hs'
    rw [← hc', cn_succ n f', cn_succ n (sd f')]
    have u0 : uni n (k + 1) (fun t => f' (false :: t)) := fun t ht h => by
      have := hu' _ (by simp [ht]) h
      simpa [card] using this
    have u1 : uni n k (fun t => f' (true :: t)) := fun t ht h => by
      have := hu' _ (by simp [ht]) h
      simp [card] at this
      omega
    have h0 := kruskal n k _ u0
    have h1 : cn n (sd fun t => f' (false :: t)) ≤ cn n (fun t => f' (true :: t)) := cn_le fun t ht h => by
      obtain ⟨i, hi, ho, hf⟩ := sd_iff.1 h
      have := hd i (by omega) (flp i t) (by rw [flp_len, ht]) (by rw [on_flp i t hi, ho]) hf
      rwa [flp_flp] at this
    have h2 := kk_split (k := k) (Nat.le_trans h0 h1)
    have h3 : cn n (fun t => f' (true :: t)) ≤ cn n (fun t => sd f' (false :: t)) := cn_le fun t ht h => sd_iff.2 ⟨0, by simp, rfl, h⟩
    have h4 : kk k (cn n (fun t => f' (true :: t))) ≤ cn n (fun t => sd f' (true :: t)) := by
      match k, u1 with
      | 0, _ => exact Nat.zero_le _
      | k + 1, u1 =>
        refine Nat.le_trans (kruskal n k _ u1) (cn_le fun t ht h => ?_)
        obtain ⟨i, hi, ho, hf⟩ := sd_iff.1 h
        exact sd_iff.2 ⟨i + 1, by simpa using hi, ho, hf⟩
    rw [Nat.add_comm (cn n fun t => f' (true :: t))]
    omega
end Go.Proofs.Ytdbfmjlnalaobaa
