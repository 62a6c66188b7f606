/-
  The walks over slices.Index and slices.Contains of integers. Condition: the slice can be read.
-/
import Derived.Test.YtgfdddknajeknaaDoorLieP
namespace Go.Proofs.YtgfdddknajeknaaDoor
set_option linter.unusedVariables false
open Go.RowKit

set_option maxRecDepth 100000 in
theorem index_any (v : Value) (l : List Int) (x : Int) (w : World) (hl : Sl w v l) :
    Calls Tryd.prog 42 #[v, .int .i64 x] w fun e w' => (∃ r : Int, e = .returned (.int .i64 r) ∧ decide (0 ≤ r) = decide (x ∈ l)) ∧ w = w' := by
  have HN := hid (fun h => lies_not (l := l) (x := x) h)
  have HY := hid (fun i hi h => lies_yes (l := l) (x := x) (i := i) hi h)
  obtain ⟨a, c, N, rfl, hN, hl1, hl2⟩ := hl.open
  rw [hN.out] at HN HY
  clear hl
  generalize decide (x ∈ l) = D at *
  go_enter Tryd.func42, Tryd.ntmps42
  go_wp2
  go_loop [8] (fun i => ∃ k : Nat, k ≤ N ∧ i = .int .i64 k ∧ Hid (∀ j, j < k → l[j]?.getD 0 ≠ x)) (fun i => N - (intOf i).toNat)
  case atStart => exact ⟨0, Nat.zero_le _, rfl, hid (fun j hj => by omega)⟩
  case round =>
    obtain ⟨k, hk, rfl, hH⟩ := hrel
    by_cases hlt : k < N
    · obtain ⟨b, off, rfl, hb, hc⟩ := hl2 (by omega)
      have hca := hc k hlt
      have HNX : Hid (l[k]?.getD 0 ≠ x → ∀ j, j < k + 1 → l[j]?.getD 0 ≠ x) := hid (fun h j hj => by
        by_cases e : j = k
        · rw [e]; exact h
        · exact hH.out j (by omega))
      have HYK := hid (HY.out k hlt)
      clear hc hl2 hH
      generalize l[k]?.getD 0 = y at *
      by_cases he : y = x
      · subst he
        have HE := hid (HYK.out rfl)
        have hq : (y == y) = true := by simp
        go_wp2
        go_ret
        exact ⟨⟨_, rfl, by rw [HE.out]; exact decide_eq_true (by omega)⟩, rfl⟩
      · have hq : (x == y) = false := by simpa using fun h => he h.symm
        have HE := hid (HNX.out he)
        clear he HNX
        go_wp2
        go_round
        case rel => exact ⟨k + 1, by omega, by go_num, HE⟩
        case measure => simp [intOf] <;> omega
    · obtain rfl : k = N := by omega
      have HE := hid (HN.out hH.out)
      clear hl2 hH
      go_wp2
      go_ret
      exact ⟨⟨_, rfl, by rw [HE.out]; rfl⟩, rfl⟩
set_option maxRecDepth 100000 in
theorem containsI_any (v : Value) (l : List Int) (x : Int) (w : World) (hl : Sl w v l) :
    Calls Tryd.prog 31 #[v, .int .i64 x] w fun e w' => e = .returned (.bool (decide (x ∈ l))) ∧ w = w' := by
  have HI := hid (index_any v l x w hl)
  clear hl
  generalize decide (x ∈ l) = D at *
  go_enter Tryd.func31, Tryd.ntmps31
  go_wp2_with fail
  refine HI.out.mono ?_
  rintro e w1 ⟨⟨r, rfl, hr⟩, rfl⟩
  have HR := hid hr
  clear hr
  go_wp2
  go_ret
  exact ⟨by rw [← HR.out]; rfl, rfl⟩
end Go.Proofs.YtgfdddknajeknaaDoor
