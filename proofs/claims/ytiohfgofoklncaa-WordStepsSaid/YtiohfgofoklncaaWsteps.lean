/-
  The walk over parterrelaw4.WordSteps: for every n it returns true. No condition.
-/
import Derived.Test.YtiohfgofoklncaaWgrays2
import Derived.Test.YtiohfgofoklncaaWfact
namespace Go.Proofs.Ytiohfgofoklncaa
open Go.RowKit

def stepOk (n i : Nat) : Bool :=
  let d := gray i ^^^ gray ((i + 1) % 2 ^ n)
  decide (placeF 13 (gray i) = i) && decide (gray i < 2 ^ n) && decide (d &&& (d - 1) = 0) && decide (n = 0 ∨ 1 ≤ d) && decide (d < 4096)
theorem steps_all : ∀ n, n < 13 → ∀ i, i < 2 ^ n → stepOk n i = true := fun n h i hi =>
  allB_spec (allB_spec (f := fun n => allB (stepOk n) (2 ^ n)) (n := 13) (by decide +kernel) n h) i hi

theorem step_parts {n i : Nat} (h : n < 13) (hi : i < 2 ^ n) : placeF 13 (gray i) = i ∧ gray i < 2 ^ n ∧ ((gray i ^^^ gray ((i + 1) % 2 ^ n)) &&& ((gray i ^^^ gray ((i + 1) % 2 ^ n)) - 1) = 0) ∧ (n = 0 ∨ 1 ≤ gray i ^^^ gray ((i + 1) % 2 ^ n)) ∧ gray i ^^^ gray ((i + 1) % 2 ^ n) < 4096 := by
  have := steps_all n h i hi
  simp only [stepOk, Bool.and_eq_true, decide_eq_true_eq] at this
  exact ⟨this.1.1.1.1, this.1.1.1.2, this.1.1.2, this.1.2, this.2⟩

theorem wordSteps_bad (w : World) (n : Int) (h : n < 0 ∨ 12 < n) :
    Calls Try.prog 9 #[.int .i64 n] w fun e w' => e = .returned (.bool true) ∧ Below w.heap.size w w' := by
  go_enter Try.func9, Try.ntmps9
  go_wp2_with fail
  refine (wordFact_any w).mono ?_
  rintro e w1 ⟨rfl, hb1⟩
  go_wp2_with fail
  refine (gray_no n _ h).mono ?_
  rintro e w' ⟨rfl, rfl⟩
  go_wp2
  go_ret
  exact ⟨rfl, hb1⟩

theorem grays_get {m i : Nat} (h : i < m) : (grays m).getD i 0 = ((gray i : Nat) : Int) := by simp [grays, h]

set_option maxRecDepth 100000 in
set_option maxHeartbeats 1000000 in
theorem wordSteps_ok (w : World) (n : Nat) (hn : n ≤ 12) :
    Calls Try.prog 9 #[.int .i64 n] w fun e w' => e = .returned (.bool true) ∧ Below w.heap.size w w' := by
  have hm := pow_le12 hn
  have hm0 : 0 < 2 ^ n := Nat.pow_pos (by decide)
  have HS := hid (fun i => step_parts (n := n) (i := i) (by omega))
  have HP := hid (fun (w : World) (x : Nat) => place_yes n x w hn)
  have HG := hid (fun (w : World) => gray_yes n w hn)
  generalize 2 ^ n = m at *
  go_enter Try.func9, Try.ntmps9
  go_wp2_with fail
  refine (wordFact_any w).mono ?_
  rintro e w1 ⟨rfl, hb1⟩
  go_wp2_with fail
  refine (HG.out _).mono ?_
  rintro e w2 ⟨v, rfl, hown, hb2⟩
  have hlen := grays_len m
  obtain ⟨g, c, rfl, hg1, hg2⟩ := hown.form (by omega)
  rw [hlen] at hown ⊢
  have hbb := hb1.trans (hb2.mono hb1.size)
  have HL := hid hlen
  clear hb2 hlen
  go_wp2_with (at_make; refine wpList_mk (w := w2) _ _ 42 4 (.bool false) 1 rfl rfl Try.underlying42 Try.info4 rfl (by decide) w2.heap.size _ m rfl rfl rfl (by omega) (Nat.le_refl _) ?_; intro w3 hs3 hgr3 hz3)
  have hs0 : Ow 4 w2.heap.size w3 (.slice (some ⟨w2.heap.size, 0, none⟩) m m) (seenL m 0) := by rw [← seenL_zero]; exact hs3
  have hb3 : Below w.heap.size w w3 := hbb.grown hgr3 hbb.size (fun k h => by cases h)
  have ho3 := hown.kept hgr3 (.inr (by simp [Value.ownBlock]))
  clear hs3 hgr3 hown
  go_loopw [7] (fun i wr => ∃ (k s : Nat), k ≤ m ∧ i = .int .i64 k ∧ OI w1.heap.size wr (.slice (some ⟨g, 0, none⟩) m c) (grays m) ∧ Ow 4 w2.heap.size wr (.slice (some ⟨w2.heap.size, 0, none⟩) m m) (seenL m s) ∧ Hid (∀ c, s.testBit c = true → ∃ j, j < k ∧ c = gray j) ∧ Below w.heap.size w wr) (fun i _ => m - (intOf i).toNat)
  case atStart => exact ⟨0, 0, Nat.zero_le _, rfl, ho3, hs0, hid (fun c h => by simp at h), hb3⟩
  case round =>
    obtain ⟨k, s, hk, rfl, ho, hse, hmask, hb⟩ := hrel
    clear ho3 hs0 hb3
    by_cases hlt : k < m
    · obtain ⟨q1, q2, q3, q4, q5⟩ := HS.out k hlt
      have hmod : (k + 1) % m < m := Nat.mod_lt _ hm0
      have hi1 : 0 ≤ ((k : Int) + 1) % (m : Int) := Int.emod_nonneg _ (by omega)
      have hi2 : ((k : Int) + 1) % (m : Int) < (m : Int) := Int.emod_lt_of_pos _ (by omega)
      have c1 := ho.cell k (by rw [HL.out]; exact hlt)
      have c2 := ho.cell ((k + 1) % m) (by rw [HL.out]; exact hmod)
      rw [grays_get hlt] at c1
      rw [grays_get hmod] at c2
      have hsb : s.testBit (gray k) = false := by
        cases h : s.testBit (gray k) with
        | false => rfl
        | true =>
          obtain ⟨j, hj, he⟩ := hmask.out _ h
          exfalso
          have h1 := (HS.out j (by omega)).1
          rw [← he, q1] at h1
          omega
      have c3 := hse.cell (gray k) (by rw [seenL_len]; exact q2)
      rw [seenL_get q2, hsb] at c3
      have f3 := hse.frozen (gray k)
      have hst := hse.stored (gray k) (.bool true)
      rw [seenL_set q2] at hst
      have HMASK : Hid (∀ c, (s ||| 2 ^ gray k).testBit c = true → ∃ j, j < k + 1 ∧ c = gray j) := by
        intro c hc
        rw [Nat.testBit_or, Nat.testBit_two_pow] at hc
        simp only [Bool.or_eq_true, decide_eq_true_eq] at hc
        rcases hc with hc | hc
        · obtain ⟨j, hj, he⟩ := hmask.out c hc
          exact ⟨j, by omega, he⟩
        · exact ⟨k, by omega, hc.symm⟩
      obtain ⟨hst1, hst2⟩ := hst
      have ho4 := ho.kept hst2 (.inr (by simp [Value.ownBlock]; omega))
      have hbs := hb.grown hst2 hb.size (fun k' e => by cases e; exact hbb.size)
      have hgb : gray k < 4096 := by omega
      have hgb2 : gray ((k + 1) % m) < 4096 := by have := (HS.out _ hmod).2.1; omega
      have HX := hid (xor_i64 (gray k) (gray ((k + 1) % m)) (by omega) (by omega))
      have PL := hid (fun w => HP.out w (gray k) q2)
      have Q1 := hid q1
      have Q3 := hid q3
      clear q1 q3 hsb
      generalize hD : gray k ^^^ gray ((k + 1) % m) = D at *
      generalize hgk : gray k = gk at *
      generalize hgk2 : gray ((k + 1) % m) = gk2 at *
      have HD := hid hD
      have HK := hid hgk
      have HK2 := hid hgk2
      clear hD hgk hgk2 hmask hst2
      have hgk0 : (gk : Int) < (m : Int) := by omega
      have hgk3 : ((k : Int) != (k : Int)) = false := by simp
      rcases Nat.eq_zero_or_pos D with h0 | h0
      · have hn0 : ¬ 0 < (n : Int) := by omega
        have HX2 := hid (show bits .xor .i64 (gk : Int) (gk2 : Int) = 0 by rw [HX.out, h0]; rfl)
        have HZ := hid (show bits .and .i64 0 (-1) = 0 by decide)
        clear h0
        go_wp2
        go_quiet (fail)
        rw [HX2.out]
        go_wp2_with fail
        refine (PL.out _).mono ?_
        rintro e w' ⟨rfl, rfl⟩
        rw [Q1.out]
        go_wp2
        go_roundw
        case rel => exact ⟨k + 1, s ||| 2 ^ gk, by omega, by go_num, ho4, hst1, HMASK, below_same hbs⟩
        case measure => simp [intOf] <;> omega
      · have HX2 := hid (show bits .xor .i64 (gk : Int) (gk2 : Int) = (D : Int) from HX.out)
        have HZ : Hid (bits .and .i64 (D : Int) ((D : Int) - 1) = 0) := hid (by
          have := and_i64 D (D - 1) (by omega) (by omega)
          rw [Q3.out] at this
          rw [show ((D - 1 : Nat) : Int) = (D : Int) - 1 by omega] at this
          exact this)
        have hD0 : ((D : Int) == 0) = false := by simp; omega
        go_wp2
        go_quiet (fail)
        rw [HX2.out]
        go_wp2_with fail
        refine (PL.out _).mono ?_
        rintro e w' ⟨rfl, rfl⟩
        rw [Q1.out]
        go_wp2
        go_roundw
        case rel => exact ⟨k + 1, s ||| 2 ^ gk, by omega, by go_num, ho4, hst1, HMASK, below_same hbs⟩
        case measure => simp [intOf] <;> omega
    · go_wp2
      go_ret
      exact ⟨rfl, hb⟩
theorem wordSteps_walk (w : World) (n : Int) (_ : I64 n) :
    Calls Try.prog 9 #[.int .i64 n] w fun e w' => e = .returned (.bool true) ∧ Below w.heap.size w w' := by
  by_cases h : n < 0 ∨ 12 < n
  · exact wordSteps_bad w n h
  · obtain ⟨n, rfl⟩ : ∃ m : Nat, n = (m : Int) := ⟨n.toNat, by omega⟩
    exact wordSteps_ok w n (by omega)
end Go.Proofs.Ytiohfgofoklncaa
