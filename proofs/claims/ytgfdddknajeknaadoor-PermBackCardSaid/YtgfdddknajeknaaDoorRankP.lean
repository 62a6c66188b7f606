/-
  Ranks of permutations: two ways of counting. No program in sight.
-/
import Derived.Test.YtgfdddknajeknaaDoorPsgn
namespace Go.Proofs.YtgfdddknajeknaaDoor
set_option linter.unusedVariables false

def fac : Nat → Nat
  | 0 => 1
  | n + 1 => (n + 1) * fac n
/-- How many behind i are less; how many less than f i are not ahead. -/
def lessB (f : Nat → Nat) (N i : Nat) : Nat := sumN (fun m => if i < m ∧ f m < f i then 1 else 0) N
def aheadB (f : Nat → Nat) (i x : Nat) : Bool := (List.range i).any fun j => f j == x
def lessA (f : Nat → Nat) (N i : Nat) : Nat := sumN (fun x => if x < f i ∧ aheadB f i x = false then 1 else 0) N
theorem less_same {f : Nat → Nat} {N i : Nat} (P : Pm N f) (hi : i < N) : lessA f N i = lessB f N i := by
  unfold lessA lessB
  rw [← sumN_perm P (fun x => if x < f i ∧ aheadB f i x = false then 1 else 0)]
  refine sumN_congr N fun m hm => ?_
  have h1 : aheadB f i (f m) = decide (m < i) := by
    rw [Bool.eq_iff_iff, decide_eq_true_eq]
    simp only [aheadB, List.any_eq_true, List.mem_range, beq_iff_eq]
    constructor
    · rintro ⟨j, hj, e⟩
      have := P.inj j m (by omega) hm e
      omega
    · intro h
      exact ⟨m, h, rfl⟩
  rw [h1]
  by_cases h2 : f m < f i
  · by_cases h3 : i < m
    · rw [if_pos ⟨h2, by simp; omega⟩, if_pos ⟨h3, h2⟩]
    · have h4 : m < i := by
        rcases Nat.lt_trichotomy m i with h | h | h
        · exact h
        · subst h; omega
        · omega
      rw [if_neg (fun h => by simp [h4] at h), if_neg (fun h => h3 h.1)]
  · rw [if_neg (fun h => h2 h.1), if_neg (fun h => h2 h.2)]
/-- Horner's rule. -/
def rankH (f : Nat → Nat) (N : Nat) : Nat → Nat
  | 0 => 0
  | i + 1 => rankH f N i * (N - i) + lessB f N i
def rankS (f : Nat → Nat) (N : Nat) : Nat → Nat
  | 0 => 0
  | i + 1 => rankS f N i + lessA f N i * fac (N - 1 - i)
theorem rank_part {f : Nat → Nat} {N : Nat} (P : Pm N f) : ∀ i, i ≤ N → rankH f N i * fac (N - i) = rankS f N i
  | 0, _ => by simp [rankH, rankS]
  | i + 1, h => by
    have ih := rank_part P i (by omega)
    have e : fac (N - i) = (N - i) * fac (N - 1 - i) := by
      obtain ⟨d, hd⟩ : ∃ d, N - i = d + 1 := ⟨N - i - 1, by omega⟩
      rw [hd, show N - 1 - i = d by omega]; rfl
    simp only [rankH, rankS]
    rw [Nat.add_mul, less_same P (by omega), show N - (i + 1) = N - 1 - i by omega, ← ih, e, Nat.mul_assoc]
theorem rank_same {f : Nat → Nat} {N : Nat} (P : Pm N f) : rankH f N N = rankS f N N := by
  have := rank_part P N (Nat.le_refl _)
  rw [Nat.sub_self] at this
  simpa [fac] using this
theorem less_bd (f : Nat → Nat) (N i : Nat) : lessB f N i ≤ N ∧ lessA f N i ≤ N := by
  have h : ∀ (g : Nat → Nat), (∀ i, g i ≤ 1) → ∀ k, sumN g k ≤ k := fun g hg k => by
    induction k with
    | zero => exact Nat.le_refl _
    | succ k ih => have := hg k; simp only [sumN]; omega
  exact ⟨h _ (fun i => by split <;> omega) N, h _ (fun i => by split <;> omega) N⟩
theorem rankH_bd {f : Nat → Nat} {N : Nat} (h12 : N ≤ 12) : ∀ i, rankH f N i + 1 ≤ 13 ^ i
  | 0 => by simp [rankH]
  | i + 1 => by
    have ih := rankH_bd (f := f) h12 i
    have hl := (less_bd f N i).1
    simp only [rankH]
    rw [Nat.pow_succ]
    have : rankH f N i * (N - i) ≤ rankH f N i * 12 := Nat.mul_le_mul_left _ (by omega)
    omega
end Go.Proofs.YtgfdddknajeknaaDoor
