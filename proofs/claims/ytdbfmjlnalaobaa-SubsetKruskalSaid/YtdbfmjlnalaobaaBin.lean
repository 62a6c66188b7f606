/-
  Ways to choose: Pascal's numbers. No program in sight.
-/
import Derived.Test.YtdbfmjlnalaobaaBase
namespace Go.Proofs.Ytdbfmjlnalaobaa
set_option linter.unusedVariables false

def bin : Nat → Nat → Nat
  | _, 0 => 1
  | 0, _ + 1 => 0
  | n + 1, k + 1 => bin n k + bin n (k + 1)
theorem bin_zero (n : Nat) : bin n 0 = 1 := by cases n <;> rfl
theorem bin_succ (n k : Nat) : bin (n + 1) (k + 1) = bin n k + bin n (k + 1) := rfl
theorem bin_none : ∀ (n k : Nat), n < k → bin n k = 0
  | 0, 0, h => by omega
  | 0, k + 1, _ => rfl
  | n + 1, 0, h => by omega
  | n + 1, k + 1, h => by rw [bin_succ, bin_none n k (by omega), bin_none n (k + 1) (by omega)]
theorem bin_all : ∀ n, bin n n = 1
  | 0 => rfl
  | n + 1 => by rw [bin_succ, bin_all n, bin_none n (n + 1) (by omega)]
theorem bin_pos : ∀ (n k : Nat), k ≤ n → 0 < bin n k
  | n, 0, _ => by rw [bin_zero]; omega
  | 0, k + 1, h => by omega
  | n + 1, k + 1, h => by rw [bin_succ]; have := bin_pos n k (by omega); omega
/-- What goes in is taken out: C(n+1, k+1) (k+1) = C(n, k) (n+1). -/
theorem bin_absorb : ∀ (n k : Nat), bin (n + 1) (k + 1) * (k + 1) = bin n k * (n + 1)
  | 0, 0 => rfl
  | 0, k + 1 => by rw [bin_none 1 (k + 2) (by omega), bin_none 0 (k + 1) (by omega), Nat.zero_mul, Nat.zero_mul]
  | n + 1, 0 => by
    have h := bin_absorb n 0
    rw [bin_zero, Nat.one_mul, Nat.mul_one] at h
    rw [bin_succ, bin_zero, h]
    omega
  | n + 1, k + 1 => by
    have h1 := bin_absorb n k
    have h2 := bin_absorb n (k + 1)
    have e1 : bin (n + 1) (k + 1) * (k + 1 + 1) = bin (n + 1) (k + 1) * (k + 1) + bin (n + 1) (k + 1) := by rw [Nat.mul_succ]
    rw [bin_succ (n + 1) (k + 1), Nat.add_mul, h2, e1, h1]
    rw [bin_succ n k, Nat.add_mul, Nat.mul_succ (bin n k) (n + 1), Nat.mul_succ (bin n (k + 1)) (n + 1)]
    omega
theorem bin_sym : ∀ (n k : Nat), k ≤ n → bin n (n - k) = bin n k
  | n, 0, _ => by rw [Nat.sub_zero, bin_all, bin_zero]
  | 0, k + 1, h => by omega
  | n + 1, k + 1, h => by
    by_cases e : k = n
    · subst e; rw [Nat.sub_self, bin_all, bin_zero]
    · have h1 := bin_sym n k (by omega)
      have h2 := bin_sym n (k + 1) (by omega)
      rw [bin_succ n k, show n + 1 - (k + 1) = (n - (k + 1)) + 1 by omega, bin_succ, h2, show n - (k + 1) + 1 = n - k by omega, h1]
      omega
theorem bin_step (n k : Nat) : bin n k ≤ bin (n + 1) k := by
  cases k with
  | zero => rw [bin_zero, bin_zero]; omega
  | succ k => rw [bin_succ]; omega
theorem bin_mono {a b : Nat} (h : a ≤ b) (k : Nat) : bin a k ≤ bin b k := by
  induction b with
  | zero => rw [show a = 0 by omega]; omega
  | succ b ih =>
    by_cases e : a = b + 1
    · rw [e]; omega
    · exact Nat.le_trans (ih (by omega)) (bin_step b k)
theorem bin_up {n k : Nat} (h : k ≤ n) : bin n (k + 1) < bin (n + 1) (k + 1) := by
  rw [bin_succ]; have := bin_pos n k h; omega

/-- Pascal's rows, quickly. -/
def pasRow : Nat → List Nat
  | 0 => [1]
  | n + 1 => let r := pasRow n; List.zipWith (· + ·) (0 :: r) (r ++ [0])
theorem pasRow_len : ∀ n, (pasRow n).length = n + 1
  | 0 => rfl
  | n + 1 => by simp [pasRow, pasRow_len n]
theorem pasRow_get : ∀ (n k : Nat), k ≤ n → (pasRow n)[k]? = some (bin n k)
  | 0, k, h => by
    obtain rfl : k = 0 := by omega
    rfl
  | n + 1, k, h => by
    have hl := pasRow_len n
    simp only [pasRow, List.getElem?_zipWith]
    cases k with
    | zero =>
      rw [List.getElem?_append_left (by omega), pasRow_get n 0 (by omega)]
      simp [bin_zero]
    | succ k =>
      rw [List.getElem?_cons_succ, pasRow_get n k (by omega)]
      by_cases e : k + 1 ≤ n
      · rw [List.getElem?_append_left (by omega), pasRow_get n (k + 1) e]
        simp [bin_succ]
      · obtain rfl : k = n := by omega
        rw [List.getElem?_append_right (by omega), hl]
        simp [bin_succ, bin_none k (k + 1) (by omega)]
theorem bin_le_of {n B : Nat} (h : (pasRow n).all (fun x => decide (x ≤ B)) = true) (k : Nat) (hk : k ≤ n) : bin n k ≤ B := by
  have hm := List.mem_of_getElem? (pasRow_get n k hk)
  exact of_decide_eq_true (List.all_eq_true.1 h _ hm)
theorem bin61 (n k : Nat) (h : n ≤ 61) : bin n k ≤ 232714176627630544 := by
  refine Nat.le_trans (bin_mono h k) ?_
  by_cases hk : k ≤ 61
  · exact bin_le_of (by decide +kernel) k hk
  · rw [bin_none 61 k (by omega)]; omega
theorem bin60 (n k : Nat) (h : n ≤ 60) : bin n k ≤ 118264581564861424 := by
  refine Nat.le_trans (bin_mono h k) ?_
  by_cases hk : k ≤ 60
  · exact bin_le_of (by decide +kernel) k hk
  · rw [bin_none 60 k (by omega)]; omega
end Go.Proofs.Ytdbfmjlnalaobaa
