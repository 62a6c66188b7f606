/-
  Do numbers rise? The walks over subset.rises, Rank's test of a number, parterreref4.RankFault. Condition: the slice can be read.
-/
import Derived.Test.YtdbfmjlnalaobaaSlib
import Derived.Test.YtdbfmjlnalaobaaBase
import Derived.Deep.QuietTactic
import Derived.BigQuiet
namespace Go.Proofs.Ytdbfmjlnalaobaa
set_option linter.unusedVariables false
open Go.RowKit

/-- The first k numbers rise. -/
def riseTo (l : List Int) : Nat → Bool
  | 0 => true
  | k + 1 => riseTo l k && (k == 0 || decide (l[k - 1]?.getD 0 < l[k]?.getD 0))
def riseB (l : List Int) : Bool := riseTo l l.length
theorem rise_step (l : List Int) (k : Nat) : riseTo l (k + 2) = (riseTo l (k + 1) && decide (l[k]?.getD 0 < l[k + 1]?.getD 0)) := by simp [riseTo]
theorem rise_one (l : List Int) : riseTo l 1 = true := by simp [riseTo]
theorem rise_no {l : List Int} {a : Nat} (h : riseTo l a = false) : ∀ b, a ≤ b → riseTo l b = false
  | 0, hb => by rw [show a = 0 by omega] at h; exact h
  | b + 1, hb => by
    by_cases e : a = b + 1
    · rw [← e]; exact h
    · simp only [riseTo]
      rw [rise_no h b (by omega)]
      rfl

theorem rises_any (v : Value) (l : List Int) (w : World) (hl : Sl w v l) :
    Calls Try.prog 38 #[v] w fun e w' => e = .returned (.bool (riseB l)) ∧ ∃ n, w' = w.drewN n := by
  obtain ⟨a, c, N, rfl, hN, hl1, hl2⟩ := hl.open
  have HS := hid (rise_step l)
  have H1 := hid (rise_one l)
  have H0 : Hid (riseTo l 0 = true) := hid rfl
  have HR : Hid (riseB l = riseTo l N) := hid (by rw [← hN.out]; rfl)
  have HF := hid (fun a (h : riseTo l a = false) (ha : a ≤ N) => rise_no h N ha)
  rw [HR.out]
  clear hl HR
  generalize riseTo l = R at *
  go_enter Try.func38, Try.ntmps38
  go_wp2
  go_loopw [3] (fun i wr => ∃ k q : Nat, (k + 1 ≤ N ∨ k = 0) ∧ i = .int .i64 ((k : Int) + 1) ∧ Hid (R (k + 1) = true) ∧ wr = w.drewN q) (fun i _ => N + 2 - (intOf i).toNat)
  case atStart => exact ⟨0, 0, .inr rfl, rfl, hid H1.out, rfl⟩
  case round =>
    obtain ⟨k, q, hk, rfl, hr, rfl⟩ := hrel
    by_cases hlt : k + 1 < N
    · obtain ⟨b, off, rfl, hb, hc⟩ := hl2 (by omega)
      have c1 := hc (k + 1) hlt
      have c0 := hc k (by omega)
      clear hc hl2
      have hs := HS.out k
      rw [hr.out, Bool.true_and] at hs
      have HSK := hid hs
      clear hs
      generalize l[k + 1]?.getD 0 = x at *
      generalize l[k]?.getD 0 = y at *
      by_cases hxy : y < x
      · have HX : Hid (R (k + 1 + 1) = true) := hid (by rw [HSK.out]; simpa using hxy)
        go_wp2
        go_quiet (fail)
        go_wp2
        go_roundw
        case rel => exact ⟨k + 1, q + nq, .inl (by omega), by go_num, HX, rfl⟩
        case measure => simp [intOf] <;> omega
      · have HX : Hid (R N = false) := hid (HF.out (k + 2) (by rw [HSK.out]; simpa using hxy) (by omega))
        go_wp2
        go_quiet (fail)
        go_wp2
        go_ret
        exact ⟨by rw [HX.out]; rfl, q + nq, by simp⟩
    · have HX : Hid (R N = true) := hid (by
        rcases hk with h | h
        · rw [show N = k + 1 by omega]; exact hr.out
        · rcases Nat.lt_or_ge N 1 with h2 | h2
          · rw [show N = 0 by omega]; exact H0.out
          · rw [show N = k + 1 by omega]; exact hr.out)
      clear hl2
      go_wp2
      go_ret
      exact ⟨by rw [HX.out]; rfl, q, rfl⟩

def badNum (x : Int) : Bool := decide (x < 0) || decide (60 < x)
def rankE (l : List Int) : Int := if 30 < l.length then 3 else if l.any badNum = true then 1 else if riseB l = true then 0 else 2

theorem rank1_any (x : Int) (w : World) : Calls Try.prog 43 #[.int .i64 x] w fun e w' => e = .returned (.bool (badNum x)) ∧ w = w' := by
  by_cases h1 : x < 0
  · have HB : Hid (badNum x = true) := hid (by simp [badNum, h1])
    go_enter Try.func43, Try.ntmps43
    go_wp2
    go_ret
    exact ⟨by rw [HB.out]; rfl, rfl⟩
  · have HB : Hid (badNum x = decide (60 < x)) := hid (by simp [badNum, h1])
    go_enter Try.func43, Try.ntmps43
    go_wp2
    go_ret
    exact ⟨by rw [HB.out]; rfl, rfl⟩
theorem rank1_tests (w : World) : Tests 43 #[] badNum w where
  enter := run_callFunc_own Try.func43 (by kernel_rfl) (by kernel_rfl)
  calls := fun x _ => rank1_any x w

theorem rankfault_any (v : Value) (l : List Int) (w : World) (hl : Sl w v l) :
    Calls Try.prog 20 #[v] w fun e w' => e = .returned (.int .i64 (rankE l)) ∧ ∃ n, w' = w.drewN n := by
  obtain ⟨a, c, N, rfl, hN, hl1, hl2⟩ := hl.open
  have HW := hid (show rankE l = if 30 < N then 3 else if l.any badNum = true then 1 else if riseB l = true then 0 else 2 by rw [← hN.out]; rfl)
  by_cases h4 : 30 < N
  · clear hl hl2
    go_enter Try.func20, Try.ntmps20
    go_wp2
    go_ret
    exact ⟨by rw [HW.out, if_pos h4]; rfl, 0, rfl⟩
  · have HT : Hid (∀ k : Nat, k < N → badNum (l[k]?.getD 0) = true → rankE l = 1) := by
      intro k hk hp
      rw [HW.out, if_neg h4, if_pos (any_true (by rw [hN.out]; exact hk) hp)]
    have HF : Hid ((∀ k : Nat, k < N → badNum (l[k]?.getD 0) = false) → rankE l = if riseB l = true then 0 else 2) := by
      intro h
      rw [HW.out, if_neg h4, if_neg (by rw [any_false (by rw [hN.out]; exact h)]; simp)]
    have HS := hid (rise_step l)
    have H1 := hid (rise_one l)
    have H0 : Hid (riseTo l 0 = true) := hid rfl
    have HR : riseB l = riseTo l N := by rw [← hN.out]; rfl
    have HN := hid (fun a (h : riseTo l a = false) (ha : a ≤ N) => rise_no h N ha)
    rw [HR] at HF
    clear hl HW HR
    generalize riseTo l = R at *
    generalize rankE l = RE at *
    go_enter Try.func20, Try.ntmps20
    go_wp2
    go_loop [3] (fun i => ∃ k : Nat, k ≤ N ∧ i = .int .i64 k ∧ Hid (∀ j : Nat, j < k → badNum (l[j]?.getD 0) = false)) (fun i => N - (intOf i).toNat)
    case atStart => exact ⟨0, Nat.zero_le _, rfl, hid (fun j hj => by omega)⟩
    case round =>
      obtain ⟨k, hk, rfl, hno⟩ := hrel
      by_cases hlt : k < N
      · obtain ⟨b, off, rfl, hb, hc⟩ := hl2 (by omega)
        have c1 := hc k hlt
        clear hc hl2
        by_cases h1 : l[k]?.getD 0 < 0
        · have HP := hid (HT.out k hlt (by simp [badNum, h1]))
          go_wp2
          go_ret
          exact ⟨by rw [HP.out]; rfl, 0, rfl⟩
        by_cases h2 : 60 < l[k]?.getD 0
        · have HP := hid (HT.out k hlt (by simp [badNum, h2]))
          go_wp2
          go_ret
          exact ⟨by rw [HP.out]; rfl, 0, rfl⟩
        · have HP : Hid (badNum (l[k]?.getD 0) = false) := hid (by simp only [badNum, Bool.or_eq_false_iff, decide_eq_false_iff_not]; omega)
          go_wp2
          go_round
          case rel => exact ⟨k + 1, by omega, by go_num, hid (fun j hj => by
            by_cases e : j = k
            · rw [e]; exact HP.out
            · exact hno.out j (by omega))⟩
          case measure => simp [intOf] <;> omega
      · obtain rfl : k = N := by omega
        have HP := hid (HF.out hno.out)
        clear HF HT hno
        go_wp2
        go_loopw [4] (fun i wr => ∃ m q : Nat, (m + 1 ≤ k ∨ m = 0) ∧ i = .int .i64 ((m : Int) + 1) ∧ Hid (R (m + 1) = true) ∧ wr = w.drewN q) (fun i _ => k + 2 - (intOf i).toNat)
        case atStart => exact ⟨0, 0, .inr rfl, rfl, hid H1.out, rfl⟩
        case round =>
          obtain ⟨m, q, hm, rfl, hr, rfl⟩ := hrel
          by_cases hlt : m + 1 < k
          · obtain ⟨b, off, rfl, hb, hc⟩ := hl2 (by omega)
            have c1 := hc (m + 1) hlt
            have c0 := hc m (by omega)
            clear hc hl2
            have hs := HS.out m
            rw [hr.out, Bool.true_and] at hs
            have HSK := hid hs
            clear hs
            generalize l[m + 1]?.getD 0 = x at *
            generalize l[m]?.getD 0 = y at *
            by_cases hxy : y < x
            · have HX : Hid (R (m + 1 + 1) = true) := hid (by rw [HSK.out]; simpa using hxy)
              go_wp2
              go_quiet (fail)
              go_wp2
              go_roundw
              case rel => exact ⟨m + 1, q + nq, .inl (by omega), by go_num, HX, rfl⟩
              case measure => simp [intOf] <;> omega
            · have HX : Hid (R k = false) := hid (HN.out (m + 2) (by rw [HSK.out]; simpa using hxy) (by omega))
              rw [HX.out] at HP
              go_wp2
              go_quiet (fail)
              go_wp2
              go_ret
              exact ⟨by rw [HP.out]; rfl, q + nq, by simp⟩
          · have HX : Hid (R k = true) := hid (by
              rcases hm with h | h
              · rw [show k = m + 1 by omega]; exact hr.out
              · rcases Nat.lt_or_ge k 1 with h2 | h2
                · rw [show k = 0 by omega]; exact H0.out
                · rw [show k = m + 1 by omega]; exact hr.out)
            rw [HX.out] at HP
            clear hl2
            go_wp2
            go_ret
            exact ⟨by rw [HP.out]; rfl, q, rfl⟩
end Go.Proofs.Ytdbfmjlnalaobaa
