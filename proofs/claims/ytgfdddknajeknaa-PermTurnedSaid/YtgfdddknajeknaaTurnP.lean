/-
  What has other names has as many cycles of each length; powers go round. No program in sight but the lists of lengths.
-/
import Derived.Test.YtgfdddknajeknaaPsgn
import Derived.Test.YtgfdddknajeknaaPpow2
namespace Go.Proofs.Ytgfdddknajeknaa
set_option linter.unusedVariables false
open Go.RowKit

theorem powT_mod (n : Int) {m : Nat} (hm : 0 < m) : (powT n m : Int) = n % (m : Int) := by
  unfold powT
  have h1 := Int.tmod_add_mul_tdiv n (m : Int)
  have h2 : 0 ≤ (n.tmod (m : Int) + m) % (m : Int) := Int.emod_nonneg _ (by omega)
  rw [Int.toNat_of_nonneg h2, Int.add_emod_right]
  conv => rhs; rw [← h1]
  rw [Int.add_mul_emod_self_left]
theorem powT_round (n : Int) {m : Nat} (hm : 0 < m) : powT (n + m) m = powT n m := by
  have h1 := powT_mod n hm
  have h2 := powT_mod (n + m) hm
  rw [Int.add_emod_right] at h2
  omega
theorem conj_it {f c h : Nat → Nat} {N : Nat} (P : Pm N f) (C : Pm N c) (hc : ∀ i, i < N → h (c i) = c (f i)) {i : Nat} (hi : i < N) : ∀ k, it h k (c i) = c (it f k i)
  | 0 => rfl
  | k + 1 => by
    simp only [it]
    rw [conj_it P C hc hi k, hc _ (P.it_lt hi k)]
theorem conj_per {f c h : Nat → Nat} {N : Nat} (P : Pm N f) (C : Pm N c) (hc : ∀ i, i < N → h (c i) = c (f i)) {i : Nat} (hi : i < N) : per h N (c i) = per f N i := by
  have h1 : (fun m => it h (m + 1) (c i) == c i) = (fun m => it f (m + 1) i == i) := by
    funext m
    rw [Bool.eq_iff_iff, beq_iff_eq, beq_iff_eq, conj_it P C hc hi]
    exact ⟨fun e => C.inj _ _ (P.it_lt hi _) hi e, fun e => by rw [e]⟩
  unfold per
  rw [h1]
theorem conj_lens {f c h : Nat → Nat} {N : Nat} (P : Pm N f) (C : Pm N c) (hc : ∀ i, i < N → h (c i) = c (f i)) : lenL h N N = lenL f N N := by
  unfold lenL
  refine List.map_congr_left fun x hx => ?_
  have h1 := sumN_perm C (fun i => if per h N i = x then 1 else 0)
  rw [← h1]
  congr 1
  exact sumN_congr N fun i hi => by rw [conj_per P C hc hi]
end Go.Proofs.Ytgfdddknajeknaa
