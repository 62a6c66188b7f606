/-
  Walks over word.check and parterreref4.WordFault: what is wrong with a word. Condition: the slice can be read.
-/
import Derived.Test.YtiohfgofoklncaaSlib
namespace Go.Proofs.Ytiohfgofoklncaa
open Go.RowKit

/-- No letter. -/
def badLetter (x : Int) : Bool := decide (x < 0) || decide (10 ≤ x)
def wordFault (l : List Int) : Int := if 4096 < l.length then 3 else if l.any badLetter = true then 1 else 0

theorem check1_any (x : Int) (w : World) : Calls Try.prog 42 #[.int .i64 x] w fun e w' => e = .returned (.bool (badLetter x)) ∧ w = w' := by
  by_cases h1 : x < 0
  · have HB : Hid (badLetter x = true) := hid (by simp [badLetter, h1])
    go_enter Try.func42, Try.ntmps42
    go_wp2
    go_ret
    exact ⟨by rw [HB.out]; rfl, rfl⟩
  by_cases h2 : 10 ≤ x
  · have HB : Hid (badLetter x = true) := hid (by simp [badLetter, h2])
    go_enter Try.func42, Try.ntmps42
    go_wp2
    go_ret
    exact ⟨by rw [HB.out]; rfl, rfl⟩
  · have HB : Hid (badLetter x = false) := hid (by simp only [badLetter, Bool.or_eq_false_iff, decide_eq_false_iff_not]; omega)
    go_enter Try.func42, Try.ntmps42
    go_wp2
    go_ret
    exact ⟨by rw [HB.out]; rfl, rfl⟩

theorem check1_tests (w : World) : Tests 42 #[] badLetter w where
  enter := run_callFunc_own Try.func42 (by kernel_rfl) (by kernel_rfl)
  calls := fun x _ => check1_any x w

theorem check_any (v : Value) (l : List Int) (w : World) (hl : Sl w v l) (hb : ∀ x ∈ l, I64 x) :
    Calls Try.prog 31 #[v] w fun e w' => e = .returned (.int .i64 (wordFault l)) ∧ w = w' := by
  have H := hid (containsFunc_any _ _ _ v l w hl hb (check1_tests w))
  obtain ⟨a, k, N, rfl, hN, hl1, hl2⟩ := hl.open
  have HW := hid (show wordFault l = if 4096 < N then 3 else if l.any badLetter = true then 1 else 0 by rw [← hN.out]; rfl)
  clear hl hb hl2
  by_cases h4 : 4096 < N
  · go_enter Try.func31, Try.ntmps31
    go_wp2
    go_ret
    exact ⟨by rw [HW.out, if_pos h4]; rfl, rfl⟩
  · go_enter Try.func31, Try.ntmps31
    go_wp2_with fail
    refine H.out.mono ?_
    rintro e w' ⟨rfl, rfl⟩
    cases hp : l.any badLetter with
    | true =>
      have HP := hid hp
      clear hp
      go_wp2
      go_ret
      exact ⟨by rw [HW.out, if_neg h4, if_pos HP.out]; rfl, rfl⟩
    | false =>
      have HP := hid hp
      clear hp
      go_wp2
      go_ret
      exact ⟨by rw [HW.out, if_neg h4, if_neg (by rw [HP.out]; simp)]; rfl, rfl⟩

theorem wordfault_any (v : Value) (l : List Int) (w : World) (hl : Sl w v l) :
    Calls Try.prog 16 #[v] w fun e w' => e = .returned (.int .i64 (wordFault l)) ∧ ∃ n, w' = w.drewN n := by
  obtain ⟨a, k, N, rfl, hN, hl1, hl2⟩ := hl.open
  have HW := hid (show wordFault l = if 4096 < N then 3 else if l.any badLetter = true then 1 else 0 by rw [← hN.out]; rfl)
  by_cases h4 : 4096 < N
  · clear hl hl2
    go_enter Try.func16, Try.ntmps16
    go_wp2
    go_ret
    exact ⟨by rw [HW.out, if_pos h4]; rfl, 0, rfl⟩
  · have HT : Hid (∀ k : Nat, k < N → badLetter (l[k]?.getD 0) = true → wordFault l = 1) := by
      intro k hk hp
      rw [HW.out, if_neg h4, if_pos (any_true (by rw [hN.out]; exact hk) hp)]
    have HF : Hid ((∀ k : Nat, k < N → badLetter (l[k]?.getD 0) = false) → wordFault l = 0) := by
      intro h
      rw [HW.out, if_neg h4, if_neg (by rw [any_false (by rw [hN.out]; exact h)]; simp)]
    clear hl
    go_enter Try.func16, Try.ntmps16
    go_wp2
    go_loop [3] (fun i => ∃ k : Nat, k ≤ N ∧ i = .int .i64 k ∧ Hid (∀ j : Nat, j < k → badLetter (l[j]?.getD 0) = false)) (fun i => N - (intOf i).toNat)
    case atStart => exact ⟨0, Nat.zero_le _, rfl, hid (fun j hj => by omega)⟩
    case round =>
      obtain ⟨k, hk, rfl, hno⟩ := hrel
      by_cases hlt : k < N
      · obtain ⟨b, off, rfl, hb, hc⟩ := hl2 (by omega)
        have c1 := hc k hlt
        clear hc hl2
        by_cases h1 : l[k]?.getD 0 < 0
        · have HP := hid (HT.out k hlt (by simp [badLetter, h1]))
          go_wp2
          go_ret
          exact ⟨by rw [HP.out]; rfl, 0, rfl⟩
        by_cases h2 : 9 < l[k]?.getD 0
        · have HP := hid (HT.out k hlt (by simp [badLetter]; omega))
          go_wp2
          go_ret
          exact ⟨by rw [HP.out]; rfl, 0, rfl⟩
        · have HP : Hid (badLetter (l[k]?.getD 0) = false) := hid (by simp only [badLetter, Bool.or_eq_false_iff, decide_eq_false_iff_not]; omega)
          go_wp2
          go_round
          case rel => exact ⟨k + 1, by omega, by go_num, hid (fun j hj => by
            by_cases e : j = k
            · rw [e]; exact HP.out
            · exact hno.out j (by omega))⟩
          case measure => simp [intOf] <;> omega
      · obtain rfl : k = N := by omega
        have HP := hid (HF.out hno.out)
        go_wp2
        go_ret
        exact ⟨by rw [HP.out]; rfl, 0, rfl⟩
end Go.Proofs.Ytiohfgofoklncaa
