/-
  Plain aids on lists and numbers, with no program in sight: checks by reckoning. No condition.
-/
namespace Go.Proofs.YtgfdddknajeknaaDoor

/-- All numbers below n. -/
def allB (f : Nat → Bool) : Nat → Bool
  | 0 => true
  | n + 1 => f n && allB f n
theorem allB_spec {f : Nat → Bool} : ∀ {n : Nat}, allB f n = true → ∀ x, x < n → f x = true
  | 0, _, x, h => by omega
  | n + 1, hb, x, h => by
    simp only [allB, Bool.and_eq_true] at hb
    by_cases e : x = n
    · rw [e]; exact hb.1
    · exact allB_spec hb.2 x (by omega)

/-- Two lists of integers, held side by side. -/
def eqB : List Int → List Int → Bool
  | [], [] => true
  | x :: l, y :: m => decide (x = y) && eqB l m
  | _, _ => false
theorem eqB_spec : ∀ {l m : List Int}, eqB l m = true → l = m
  | [], [], _ => rfl
  | x :: l, y :: m, h => by
    simp only [eqB, Bool.and_eq_true, decide_eq_true_eq] at h
    rw [h.1, eqB_spec h.2]
  | [], _ :: _, h => by simp [eqB] at h
  | _ :: _, [], h => by simp [eqB] at h

end Go.Proofs.YtgfdddknajeknaaDoor
