/-
  What is wrong with a family of sets: the walks over subset.Check, its test of a set, and parterreref4.FamilyFault. Condition: the slice can be read.
-/
import Derived.Test.YtdbfmjlnalaobaaSrise
namespace Go.Proofs.Ytdbfmjlnalaobaa
set_option linter.unusedVariables false
open Go.RowKit

def badSet (n : Nat) (x : Int) : Bool := decide (x < 0) || decide (((2 ^ n : Nat) : Int) ≤ x)
def famE (n : Int) (l : List Int) : Int := if n < 0 ∨ 12 < n then 1 else if 4096 < l.length then 3 else if l.any (badSet n.toNat) = true then 1 else if riseB l = true then 0 else 2
theorem pow12 {n : Nat} (h : n ≤ 12) : 1 ≤ 2 ^ n ∧ 2 ^ n ≤ 4096 := ⟨Nat.pos_of_ne_zero (by simp), Nat.pow_le_pow_right (n := 2) (by omega) h⟩

theorem check1_any (n : Nat) (hn : n ≤ 12) (x : Int) (b : Nat) (w : World) (hc : w.cell? ⟨b, 0, none⟩ = some (.int .i64 n)) :
    Calls Try.prog 37 #[.int .i64 x, .pointer (some ⟨b, 0, none⟩)] w fun e w' => e = .returned (.bool (badSet n x)) ∧ w = w' := by
  have h2 : (2 : Int) ^ n = ((2 ^ n : Nat) : Int) := by simp
  obtain ⟨p1, p2⟩ := pow12 hn
  by_cases h1 : x < 0
  · have HB : Hid (badSet n x = true) := hid (by simp [badSet, h1])
    go_enter Try.func37, Try.ntmps37
    go_wp2
    go_ret
    exact ⟨by rw [HB.out]; rfl, rfl⟩
  · have HB : Hid (badSet n x = decide (((2 ^ n : Nat) : Int) ≤ x)) := hid (by unfold badSet; rw [decide_eq_false h1, Bool.false_or])
    generalize 2 ^ n = P at *
    go_enter Try.func37, Try.ntmps37
    go_wp2
    go_ret
    exact ⟨by rw [HB.out]; rfl, rfl⟩
theorem check1_tests (n : Nat) (hn : n ≤ 12) (b : Nat) (w : World) (hc : w.cell? ⟨b, 0, none⟩ = some (.int .i64 n)) : Tests 37 #[.pointer (some ⟨b, 0, none⟩)] (badSet n) w where
  enter := run_callFunc_own Try.func37 (by kernel_rfl) (by kernel_rfl)
  calls := fun x _ => check1_any n hn x b w hc

theorem check_fam (n : Int) (v : Value) (l : List Int) (w : World) (hl : Sl w v l) (hb : ∀ x ∈ l, I64 x) :
    Calls Try.prog 12 #[.int .i64 n, v] w fun e w' => e = .returned (.int .i64 (famE n l)) ∧ Below w.heap.size w w' := by
  have hb1 : Below w.heap.size w (w.alloc (.cells #[.int .i64 n] 3)) := (Below.refl _ _).alloc (Nat.le_refl _) _
  have HB1 := hid hb1
  by_cases h1 : n < 0
  · have HW : Hid (famE n l = 1) := hid (by unfold famE; rw [if_pos (.inl h1)])
    clear hl hb hb1
    go_enter Try.func12, Try.ntmps12
    go_wp2
    go_ret
    exact ⟨by rw [HW.out]; rfl, HB1.out⟩
  by_cases h2 : 12 < n
  · have HW : Hid (famE n l = 1) := hid (by unfold famE; rw [if_pos (.inr h2)])
    clear hl hb hb1
    go_enter Try.func12, Try.ntmps12
    go_wp2
    go_ret
    exact ⟨by rw [HW.out]; rfl, HB1.out⟩
  obtain ⟨m, rfl⟩ : ∃ m : Nat, n = (m : Int) := ⟨n.toNat, by omega⟩
  have H1 := hid (containsFunc_any _ _ _ v l _ (hl.below hb1) hb (check1_tests m (by omega) w.heap.size _ (lit_cell _ _ _)))
  have H2 := hid (rises_any v l _ (hl.below hb1))
  have HW : famE (m : Int) l = if 4096 < l.length then 3 else if l.any (badSet m) = true then 1 else if riseB l = true then 0 else 2 := by unfold famE; rw [if_neg (by omega)]; rfl
  obtain ⟨a, c, N, rfl, hN, hl1, hl2⟩ := hl.open
  rw [hN.out] at HW
  clear hl hb hb1 hl2
  by_cases h4 : 4096 < N
  · rw [if_pos h4] at HW
    rw [HW]
    clear HW H1 H2
    go_enter Try.func12, Try.ntmps12
    go_wp2
    go_ret
    exact ⟨rfl, HB1.out⟩
  · rw [if_neg h4] at HW
    rw [HW]
    clear HW
    generalize l.any (badSet m) = z at *
    generalize riseB l = r at *
    go_enter Try.func12, Try.ntmps12
    go_wp2_with fail
    refine H1.out.mono ?_
    rintro e w1 ⟨rfl, rfl⟩
    cases z with
    | true =>
      go_wp2
      go_ret
      exact ⟨rfl, HB1.out⟩
    | false =>
      go_wp2_with fail
      refine H2.out.mono ?_
      rintro e w1 ⟨rfl, q, rfl⟩
      cases r with
      | true =>
        go_wp2
        go_ret
        exact ⟨rfl, below_drewN HB1.out q⟩
      | false =>
        go_wp2
        go_ret
        exact ⟨rfl, below_drewN HB1.out q⟩

theorem famfault_any (n : Int) (v : Value) (l : List Int) (w : World) (hl : Sl w v l) :
    Calls Try.prog 11 #[.int .i64 n, v] w fun e w' => e = .returned (.int .i64 (famE n l)) ∧ ∃ q, w' = w.drewN q := by
  by_cases h1 : n < 0
  · have HW : Hid (famE n l = 1) := hid (by unfold famE; rw [if_pos (.inl h1)])
    clear hl
    go_enter Try.func11, Try.ntmps11
    go_wp2
    go_ret
    exact ⟨by rw [HW.out]; rfl, 0, rfl⟩
  by_cases h2 : 12 < n
  · have HW : Hid (famE n l = 1) := hid (by unfold famE; rw [if_pos (.inr h2)])
    clear hl
    go_enter Try.func11, Try.ntmps11
    go_wp2
    go_ret
    exact ⟨by rw [HW.out]; rfl, 0, rfl⟩
  obtain ⟨m, rfl⟩ : ∃ m : Nat, n = (m : Int) := ⟨n.toNat, by omega⟩
  have HW : famE (m : Int) l = if 4096 < l.length then 3 else if l.any (badSet m) = true then 1 else if riseB l = true then 0 else 2 := by unfold famE; rw [if_neg (by omega)]; rfl
  obtain ⟨a, c, N, rfl, hN, hl1, hl2⟩ := hl.open
  rw [hN.out] at HW
  by_cases h4 : 4096 < N
  · rw [if_pos h4] at HW
    rw [HW]
    clear HW hl hl2
    go_enter Try.func11, Try.ntmps11
    go_wp2
    go_ret
    exact ⟨rfl, 0, rfl⟩
  · rw [if_neg h4] at HW
    have HT : Hid (∀ k : Nat, k < N → badSet m (l[k]?.getD 0) = true → famE m l = 1) := by
      intro k hk hp
      rw [HW, if_pos (any_true (by rw [hN.out]; exact hk) hp)]
    have HF : Hid ((∀ k : Nat, k < N → badSet m (l[k]?.getD 0) = false) → famE m l = if riseB l = true then 0 else 2) := by
      intro h
      rw [HW, if_neg (by rw [any_false (by rw [hN.out]; exact h)]; simp)]
    have HS := hid (rise_step l)
    have H1 := hid (rise_one l)
    have H0 : Hid (riseTo l 0 = true) := hid rfl
    have HR : riseB l = riseTo l N := by rw [← hN.out]; rfl
    have HN := hid (fun a (h : riseTo l a = false) (ha : a ≤ N) => rise_no h N ha)
    have h2p : (2 : Int) ^ m = ((2 ^ m : Nat) : Int) := by simp
    obtain ⟨p1, p2⟩ := pow12 (n := m) (by omega)
    have HBS : Hid (∀ x, badSet m x = (decide (x < 0) || decide (((2 ^ m : Nat) : Int) ≤ x))) := hid (fun x => rfl)
    rw [HR] at HF
    clear hl HW HR
    generalize badSet m = BS at *
    generalize 2 ^ m = P at *
    generalize riseTo l = R at *
    generalize famE m l = RE at *
    go_enter Try.func11, Try.ntmps11
    go_wp2
    go_loopw [5] (fun i wr => ∃ k q : Nat, k ≤ N ∧ i = .int .i64 k ∧ Hid (∀ j : Nat, j < k → BS (l[j]?.getD 0) = false) ∧ wr = w.drewN q) (fun i _ => N - (intOf i).toNat)
    case atStart => exact ⟨0, 0, Nat.zero_le _, rfl, hid (fun j hj => by omega), rfl⟩
    case round =>
      obtain ⟨k, q, hk, rfl, hno, rfl⟩ := hrel
      by_cases hlt : k < N
      · obtain ⟨b, off, rfl, hb, hc⟩ := hl2 (by omega)
        have c1 := hc k hlt
        have HBK := hid (HBS.out (l[k]?.getD 0))
        have HTK := hid (HT.out k hlt)
        have HNK := hid (fun (h : BS (l[k]?.getD 0) = false) j (hj : j < k + 1) => (show BS (l[j]?.getD 0) = false from by
            by_cases e : j = k
            · rw [e]; exact h
            · exact hno.out j (by omega)))
        clear hc hl2 hno
        generalize l[k]?.getD 0 = x at *
        by_cases h1 : x < 0
        · have HP := hid (HTK.out (by rw [HBK.out, decide_eq_true h1]; rfl))
          have hd1 : decide (x < 0) = true := by simpa using h1
          go_wp2
          go_quiet (fail)
          go_wp2
          go_ret
          exact ⟨by rw [HP.out]; rfl, q + nq, by simp⟩
        have hd1 : decide (x < 0) = false := by simpa using h1
        by_cases h2 : (P : Int) ≤ x
        · have HP := hid (HTK.out (by rw [HBK.out, decide_eq_true h2]; simp))
          go_wp2
          go_quiet (fail)
          go_wp2
          go_ret
          exact ⟨by rw [HP.out]; rfl, q + nq, by simp⟩
        · have HP : Hid (BS x = false) := hid (by rw [HBK.out, decide_eq_false h1, decide_eq_false h2]; rfl)
          go_wp2
          go_quiet (fail)
          go_wp2
          go_roundw
          case rel => exact ⟨k + 1, q + nq, by omega, by go_num, hid (HNK.out HP.out), rfl⟩
          case measure => simp [intOf] <;> omega
      · obtain rfl : k = N := by omega
        have HP := hid (HF.out hno.out)
        clear HF HT hno
        obtain ⟨w0, hw0⟩ : ∃ w0, w0 = w.drewN q := ⟨_, rfl⟩
        go_wp2
        go_loopw [6] (fun i wr => ∃ t q2 : Nat, (t + 1 ≤ k ∨ t = 0) ∧ i = .int .i64 ((t : Int) + 1) ∧ Hid (R (t + 1) = true) ∧ wr = w.drewN q2) (fun i _ => k + 2 - (intOf i).toNat)
        case atStart => exact ⟨0, q, .inr rfl, rfl, hid H1.out, rfl⟩
        case round =>
          obtain ⟨t, q2, hm, rfl, hr, rfl⟩ := hrel
          by_cases hlt : t + 1 < k
          · obtain ⟨b, off, rfl, hb, hc⟩ := hl2 (by omega)
            have c1 := hc (t + 1) hlt
            have c0 := hc t (by omega)
            clear hc hl2
            have hs := HS.out t
            rw [hr.out, Bool.true_and] at hs
            have HSK := hid hs
            clear hs
            generalize l[t + 1]?.getD 0 = x at *
            generalize l[t]?.getD 0 = y at *
            by_cases hxy : y < x
            · have HX : Hid (R (t + 1 + 1) = true) := hid (by rw [HSK.out]; simpa using hxy)
              go_wp2
              go_quiet (fail)
              go_wp2
              go_roundw
              case rel => exact ⟨t + 1, q2 + nq, .inl (by omega), by go_num, HX, rfl⟩
              case measure => simp [intOf] <;> omega
            · have HX : Hid (R k = false) := hid (HN.out (t + 2) (by rw [HSK.out]; simpa using hxy) (by omega))
              rw [HX.out] at HP
              go_wp2
              go_quiet (fail)
              go_wp2
              go_ret
              exact ⟨by rw [HP.out]; rfl, q2 + nq, by simp⟩
          · have HX : Hid (R k = true) := hid (by
              rcases hm with h | h
              · rw [show k = t + 1 by omega]; exact hr.out
              · rcases Nat.lt_or_ge k 1 with h2 | h2
                · rw [show k = 0 by omega]; exact H0.out
                · rw [show k = t + 1 by omega]; exact hr.out)
            rw [HX.out] at HP
            clear hl2
            go_wp2
            go_ret
            exact ⟨by rw [HP.out]; rfl, q2, rfl⟩
end Go.Proofs.Ytdbfmjlnalaobaa
