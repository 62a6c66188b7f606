/-
  Digits of a number, the first seed, what the longest period is; the walks over parterreref1.Digits, FullOf and recur.Full. Conditions: ranges as each theorem states.
-/
import Derived.Test.YtlnfkkapepgilaaRper2
namespace Go.Proofs.Ytlnfkkapepgilaa
set_option linter.unusedVariables false
open Go.RowKit

/-- What is left of n after k digits. -/
def dq (p n : Int) : Nat → Int
  | 0 => n
  | k + 1 => dq p n k / p
def digL (p n : Int) (k : Nat) : List Int := (List.range k).map fun i => dq p n i % p
theorem dig_len (p n : Int) (k : Nat) : (digL p n k).length = k := by simp [digL]
theorem dig_succ (p n : Int) (k : Nat) : digL p n (k + 1) = digL p n k ++ [dq p n k % p] := by simp [digL, List.range_succ]
theorem dig_mem {p n : Int} (hp : 0 < p) {k : Nat} : ∀ x ∈ digL p n k, 0 ≤ x ∧ x < p := by
  intro x hx
  simp only [digL, List.mem_map] at hx
  obtain ⟨i, _, rfl⟩ := hx
  exact ⟨Int.emod_nonneg _ (by omega), Int.emod_lt_of_pos _ hp⟩
theorem dq_bd {p n : Int} (hp : 2 ≤ p) (hn : 0 ≤ n) : ∀ k, 0 ≤ dq p n k ∧ dq p n k ≤ n
  | 0 => by simp only [dq]; omega
  | k + 1 => by
    have ih := dq_bd hp hn k
    simp only [dq]
    refine ⟨Int.ediv_nonneg ih.1 (by omega), Int.le_trans (Int.ediv_le_self _ ih.1) ih.2⟩
/-- Digits so far, then noughts. -/
def partL (p n : Int) (k i : Nat) : List Int := digL p n i ++ List.replicate (k - i) 0
theorem part_len {p n : Int} {k i : Nat} (h : i ≤ k) : (partL p n k i).length = k := by simp [partL, dig_len]; omega
theorem part_zero (p n : Int) (k : Nat) : partL p n k 0 = List.replicate k 0 := by simp [partL, digL]
theorem part_all (p n : Int) (k : Nat) : partL p n k k = digL p n k := by simp [partL]
theorem part_set {p n : Int} {k i : Nat} (h : i < k) : (partL p n k i).set i (dq p n i % p) = partL p n k (i + 1) := by
  unfold partL
  rw [List.set_append_right _ _ (by rw [dig_len]; exact Nat.le_refl _), dig_len, Nat.sub_self, show k - i = (k - (i + 1)) + 1 by omega, List.replicate_succ, List.set_cons_zero, dig_succ, List.append_assoc]
  rfl

/-- 0, .., 0, 1. -/
def seedL (k : Nat) : List Int := (List.replicate k 0).set (k - 1) 1
theorem seed_len (k : Nat) : (seedL k).length = k := by simp [seedL]
theorem seed_mem {p : Int} (hp : 2 ≤ p) {k : Nat} : ∀ x ∈ seedL k, 0 ≤ x ∧ x < p := by
  intro x hx
  rcases List.mem_or_eq_of_mem_set hx with h | h
  · have := List.eq_of_mem_replicate h; omega
  · omega
theorem full_recur {p : Int} (h : smallB p = true) {k : Nat} (h1 : 1 ≤ k) (h8 : k ≤ 8) (n : Int) : Recur p (digL p n k) (seedL k) := by
  have := small_cases h
  exact ⟨by omega, by omega, by rw [dig_len]; exact h1, by rw [dig_len]; exact h8, by rw [seed_len, dig_len], dig_mem (by omega), seed_mem (by omega)⟩

/-- What is known of all taps: their rows' periods; the first N have none of the longest. -/
structure FullK (p : Int) (k S N : Nat) (aF bF : Nat → Nat) : Prop where
  sm : smallB p = true
  k1 : 1 ≤ k
  k8 : k ≤ 8
  hS : p ^ k = (S : Int)
  s2 : S ≤ 2000
  per : ∀ n, n ≤ N → PerOf p (digL p n k) (seedL k) (aF n) (bF n) ∧ aF n + bF n ≤ S
  nN : N ≤ S
  no : ∀ m, m < N → ¬ (aF m = 0 ∧ bF m = S - 1)

theorem digits_ok (p : Int) (n k : Nat) (w : World) (hp : 2 ≤ p) (hp7 : p ≤ 7) (hn : n ≤ 2000) (hk : k ≤ 8) :
    Calls Try.prog 48 #[.int .i64 n, .int .i64 p, .int .i64 k] w fun e w' => (∃ v, e = .returned v ∧ OI w.heap.size w' v (digL p n k)) ∧ Below w.heap.size w w' := by
  have HQ := hid (dq_bd (p := p) (n := n) hp (by omega))
  have HL := hid (dig_len p n)
  have HS := hid (dig_succ p n)
  have H0 : Hid (dq p n 0 = n) := hid rfl
  have H1 : Hid (∀ i, dq p n (i + 1) = dq p n i / p) := hid (fun i => rfl)
  have hp0 : ¬ p = 0 := by omega
  have D0 : Hid (digL p n 0 = []) := hid rfl
  generalize digL p n = D at *
  go_enter Try.func48, Try.ntmps48
  go_wp2
  go_loopw [7, 8, 0] (fun v i m wr => ∃ j : Nat, j ≤ k ∧ i = .int .i64 j ∧ m = .int .i64 (dq p n j) ∧ OI w.heap.size wr v (D j) ∧ Below w.heap.size w wr) (fun _ i _ _ => k - (intOf i).toNat)
  case atStart => exact ⟨0, Nat.zero_le _, rfl, by rw [H0.out], by rw [D0.out]; exact OI.nil _ _, Below.refl _ _⟩
  case round =>
    obtain ⟨j, hj, rfl, rfl, hown, hb⟩ := hrel
    by_cases hlt : j < k
    · have hB := hb.size
      obtain ⟨q1, q2⟩ := HQ.out j
      have HSJ := hid (HS.out j)
      have HLJ := hid (HL.out j)
      have H1J := hid (H1.out j)
      clear H0 H1 D0 HS HQ
      generalize dq p n j = q at *
      have ht : q.tmod p = q % p := Int.tmod_eq_emod_of_nonneg q1
      have htd : q.tdiv p = q / p := Int.tdiv_eq_ediv_of_nonneg q1
      have q3 : 0 ≤ q % p := Int.emod_nonneg _ hp0
      have q4 : q % p < p := Int.emod_lt_of_pos _ (by omega)
      have q5 : 0 ≤ q / p := Int.ediv_nonneg q1 (by omega)
      have q6 : q / p ≤ q := Int.ediv_le_self _ q1
      have hl2 : (D j).length ≤ 1000000000000 := by rw [HLJ.out]; omega
      go_wp2_with (at_builtin; refine wpList_appi wr _ _ 30 rfl rfl Try.underlying30 Try.info3 w.heap.size _ _ rfl hown rfl hl2 hB ?_; intro g c w1 hown1 hg1 hg2 hg3)
      go_roundw
      case rel => exact ⟨j + 1, by omega, by go_num, by rw [H1J.out], hown1.cast (by rw [HSJ.out]), hown.grown hb hg1 hB⟩
      case measure => simp [intOf]; omega
    · obtain rfl : j = k := by omega
      go_wp2
      go_ret
      exact ⟨⟨_, rfl, hown⟩, hb⟩
end Go.Proofs.Ytlnfkkapepgilaa
