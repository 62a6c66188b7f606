/-
  The walks over recur.modulo, fit, Check, check, power and parterreref1.small, below, TapsFault, RunFault, States: what is wrong with a recurrence; powers below a bound. Conditions: the slices can be read; ranges as each theorem states.
-/
import Derived.Test.YtlnfkkapepgilaaSlib
namespace Go.Proofs.Ytlnfkkapepgilaa
set_option linter.unusedVariables false
open Go.RowKit

/-- A prime number from 2 to 7. -/
def smallB (p : Int) : Bool := decide (p = 2) || decide (p = 3) || decide (p = 5) || decide (p = 7)
theorem small_cases {p : Int} (h : smallB p = true) : p = 2 ∨ p = 3 ∨ p = 5 ∨ p = 7 := by
  simp only [smallB, Bool.or_eq_true, decide_eq_true_eq] at h
  omega
theorem small_any (p : Int) (w : World) :
    Calls Try.prog 43 #[.int .i64 p] w fun e w' => e = .returned (.bool (smallB p)) ∧ w = w' := by
  by_cases h2 : p = 2
  · subst h2; go_enter Try.func43, Try.ntmps43; go_wp2; go_ret; exact ⟨rfl, rfl⟩
  by_cases h3 : p = 3
  · subst h3; go_enter Try.func43, Try.ntmps43; go_wp2; go_ret; exact ⟨rfl, rfl⟩
  by_cases h5 : p = 5
  · subst h5; go_enter Try.func43, Try.ntmps43; go_wp2; go_ret; exact ⟨rfl, rfl⟩
  by_cases h7 : p = 7
  · subst h7; go_enter Try.func43, Try.ntmps43; go_wp2; go_ret; exact ⟨rfl, rfl⟩
  have HB : Hid (smallB p = false) := hid (by simp [smallB, h2, h3, h5, h7])
  have e2 : (p == 2) = false := by simpa using h2
  have e3 : (p == 3) = false := by simpa using h3
  have e5 : (p == 5) = false := by simpa using h5
  have e7 : (p == 7) = false := by simpa using h7
  clear h2 h3 h5 h7
  go_enter Try.func43, Try.ntmps43
  go_wp2
  go_ret
  exact ⟨by rw [HB.out]; rfl, rfl⟩
theorem modulo_any (p : Int) (w : World) :
    Calls Try.prog 39 #[.int .i64 p] w fun e w' => e = .returned (.bool (smallB p)) ∧ w = w' := by
  by_cases h2 : p = 2
  · subst h2; go_enter Try.func39, Try.ntmps39; go_wp2; go_ret; exact ⟨rfl, rfl⟩
  by_cases h3 : p = 3
  · subst h3; go_enter Try.func39, Try.ntmps39; go_wp2; go_ret; exact ⟨rfl, rfl⟩
  by_cases h5 : p = 5
  · subst h5; go_enter Try.func39, Try.ntmps39; go_wp2; go_ret; exact ⟨rfl, rfl⟩
  by_cases h7 : p = 7
  · subst h7; go_enter Try.func39, Try.ntmps39; go_wp2; go_ret; exact ⟨rfl, rfl⟩
  have HB : Hid (smallB p = false) := hid (by simp [smallB, h2, h3, h5, h7])
  have e2 : (p == 2) = false := by simpa using h2
  have e3 : (p == 3) = false := by simpa using h3
  have e5 : (p == 5) = false := by simpa using h5
  have e7 : (p == 7) = false := by simpa using h7
  clear h2 h3 h5 h7
  go_enter Try.func39, Try.ntmps39
  go_wp2
  go_ret
  exact ⟨by rw [HB.out]; rfl, rfl⟩

/-- Not a number modulo p. -/
def offB (p x : Int) : Bool := decide (x < 0) || decide (p ≤ x)
def fitB (p : Int) (l : List Int) : Bool := !l.any (offB p)
theorem fit_mem {p : Int} {l : List Int} (h : fitB p l = true) : ∀ x ∈ l, 0 ≤ x ∧ x < p := by
  intro x hx
  simp only [fitB, Bool.not_eq_true', List.any_eq_false] at h
  have := h x hx
  simp [offB] at this
  omega
theorem fit_get {p : Int} {l : List Int} (h : fitB p l = true) {k : Nat} (hk : k < l.length) : 0 ≤ l[k]?.getD 0 ∧ l[k]?.getD 0 < p := by
  have := fit_mem h l[k] (List.getElem_mem hk)
  simpa [hk] using this

theorem fit1_any (p x : Int) (b : Nat) (w : World) (hc : w.cell? ⟨b, 0, none⟩ = some (.int .i64 p)) :
    Calls Try.prog 52 #[.int .i64 x, .pointer (some ⟨b, 0, none⟩)] w fun e w' => e = .returned (.bool (offB p x)) ∧ w = w' := by
  by_cases h1 : x < 0
  · have HB : Hid (offB p x = true) := hid (by simp [offB, h1])
    go_enter Try.func52, Try.ntmps52
    go_wp2
    go_ret
    exact ⟨by rw [HB.out]; rfl, rfl⟩
  · have HB : Hid (offB p x = decide (p ≤ x)) := hid (by simp [offB, h1])
    go_enter Try.func52, Try.ntmps52
    go_wp2
    go_ret
    exact ⟨by rw [HB.out]; rfl, rfl⟩
theorem fit1_tests (p : Int) (b : Nat) (w : World) (hc : w.cell? ⟨b, 0, none⟩ = some (.int .i64 p)) : Tests 52 #[.pointer (some ⟨b, 0, none⟩)] (offB p) w where
  enter := run_callFunc_own Try.func52 (by kernel_rfl) (by kernel_rfl)
  calls := fun x _ => fit1_any p x b w hc

theorem fit_any (p : Int) (v : Value) (l : List Int) (w : World) (hl : Sl w v l) (hb : ∀ x ∈ l, I64 x) :
    Calls Try.prog 40 #[.int .i64 p, v] w fun e w' => e = .returned (.bool (fitB p l)) ∧ Below w.heap.size w w' := by
  have hb1 : Below w.heap.size w (w.alloc (.cells #[.int .i64 p] 3)) := (Below.refl _ _).alloc (Nat.le_refl _) _
  have H := hid (containsFunc_any _ _ _ v l _ (hl.below hb1) hb (fit1_tests p w.heap.size _ (lit_cell _ _ _)))
  have HB : Hid (fitB p l = !l.any (offB p)) := hid rfl
  generalize l.any (offB p) = z at *
  have HB1 := hid hb1
  clear hl hb1
  go_enter Try.func40, Try.ntmps40
  go_wp2_with fail
  refine H.out.mono ?_
  rintro e w' ⟨rfl, rfl⟩
  go_wp2
  go_ret
  exact ⟨by rw [HB.out]; rfl, HB1.out⟩

theorem below_any (p : Int) (v : Value) (l : List Int) (w : World) (hl : Sl w v l) :
    Calls Try.prog 44 #[v, .int .i64 p] w fun e w' => e = .returned (.bool (fitB p l)) ∧ ∃ n, w' = w.drewN n := by
  obtain ⟨a, k, N, rfl, hN, hl1, hl2⟩ := hl.open
  have HT : Hid (∀ k : Nat, k < N → offB p (l[k]?.getD 0) = true → fitB p l = false) := by
    intro k hk hp
    unfold fitB
    rw [any_true (by rw [hN.out]; exact hk) hp]
    rfl
  have HF : Hid ((∀ k : Nat, k < N → offB p (l[k]?.getD 0) = false) → fitB p l = true) := by
    intro h
    unfold fitB
    rw [any_false (by rw [hN.out]; exact h)]
    rfl
  clear hl
  go_enter Try.func44, Try.ntmps44
  go_wp2
  go_loop [5] (fun i => ∃ k : Nat, k ≤ N ∧ i = .int .i64 k ∧ Hid (∀ j : Nat, j < k → offB p (l[j]?.getD 0) = false)) (fun i => N - (intOf i).toNat)
  case atStart => exact ⟨0, Nat.zero_le _, rfl, hid (fun j hj => by omega)⟩
  case round =>
    obtain ⟨k, hk, rfl, hno⟩ := hrel
    by_cases hlt : k < N
    · obtain ⟨b, off, rfl, hb, hc⟩ := hl2 (by omega)
      have c1 := hc k hlt
      clear hc hl2
      by_cases h1 : l[k]?.getD 0 < 0
      · have HP := hid (HT.out k hlt (by simp [offB, h1]))
        go_wp2
        go_ret
        exact ⟨by rw [HP.out]; rfl, 0, rfl⟩
      by_cases h2 : p ≤ l[k]?.getD 0
      · have HP := hid (HT.out k hlt (by simp [offB]; omega))
        go_wp2
        go_ret
        exact ⟨by rw [HP.out]; rfl, 0, rfl⟩
      · have HP : Hid (offB p (l[k]?.getD 0) = false) := hid (by simp only [offB, Bool.or_eq_false_iff, decide_eq_false_iff_not]; omega)
        go_wp2
        go_round
        case rel => exact ⟨k + 1, by omega, by go_num, hid (fun j hj => by
          by_cases e : j = k
          · rw [e]; exact HP.out
          · exact hno.out j (by omega))⟩
        case measure => simp [intOf] <;> omega
    · obtain rfl : k = N := by omega
      have HP := hid (HF.out hno.out)
      go_wp2
      go_ret
      exact ⟨by rw [HP.out]; rfl, 0, rfl⟩

/-- What is wrong with a recurrence. -/
def tapsE (p : Int) (l : List Int) : Int := if smallB p = false then 1 else if l.length = 0 ∨ 8 < l.length then 2 else if fitB p l = false then 1 else 0
def runE (p : Int) (l m : List Int) : Int := if tapsE p l ≠ 0 then tapsE p l else if m.length ≠ l.length then 2 else if fitB p m = false then 1 else 0

theorem tapsfault_any (p : Int) (v : Value) (l : List Int) (w : World) (hl : Sl w v l) :
    Calls Try.prog 24 #[.int .i64 p, v] w fun e w' => e = .returned (.int .i64 (tapsE p l)) ∧ ∃ n, w' = w.drewN n := by
  have HS := hid (small_any p w)
  have HBL := hid (below_any p v l w hl)
  obtain ⟨a, k, N, rfl, hN, hl1, hl2⟩ := hl.open
  have HE := hid (show tapsE p l = if smallB p = false then 1 else if N = 0 ∨ 8 < N then 2 else if fitB p l = false then 1 else 0 by rw [← hN.out]; rfl)
  clear hl hl2
  generalize tapsE p l = z at *
  generalize smallB p = s at *
  generalize fitB p l = f at *
  cases s with
  | false =>
    obtain rfl := HE.out
    go_enter Try.func24, Try.ntmps24
    go_wp2_with fail
    refine HS.out.mono ?_
    rintro e w' ⟨rfl, rfl⟩
    go_wp2
    go_ret
    exact ⟨rfl, 0, rfl⟩
  | true =>
    by_cases h0 : N = 0
    · subst h0
      obtain rfl := HE.out
      go_enter Try.func24, Try.ntmps24
      go_wp2_with fail
      refine HS.out.mono ?_
      rintro e w' ⟨rfl, rfl⟩
      go_wp2
      go_ret
      exact ⟨rfl, 0, rfl⟩
    have hn0 : ((N : Int) == 0) = false := by simp; omega
    by_cases h8 : 8 < N
    · have HZ : Hid (z = 2) := hid (by rw [HE.out]; simp [h8])
      clear h0
      go_enter Try.func24, Try.ntmps24
      go_wp2_with fail
      refine HS.out.mono ?_
      rintro e w' ⟨rfl, rfl⟩
      go_wp2
      go_ret
      exact ⟨by rw [HZ.out]; rfl, 0, rfl⟩
    · cases f with
      | false =>
        have HZ : Hid (z = 1) := hid (by rw [HE.out]; simp [h8, h0])
        clear h0
        go_enter Try.func24, Try.ntmps24
        go_wp2_with fail
        refine HS.out.mono ?_
        rintro e w' ⟨rfl, rfl⟩
        go_wp2_with fail
        refine HBL.out.mono ?_
        rintro e w' ⟨rfl, n, rfl⟩
        go_wp2
        go_ret
        exact ⟨by rw [HZ.out]; rfl, n, rfl⟩
      | true =>
        have HZ : Hid (z = 0) := hid (by rw [HE.out]; simp [h8, h0])
        clear h0
        go_enter Try.func24, Try.ntmps24
        go_wp2_with fail
        refine HS.out.mono ?_
        rintro e w' ⟨rfl, rfl⟩
        go_wp2_with fail
        refine HBL.out.mono ?_
        rintro e w' ⟨rfl, n, rfl⟩
        go_wp2
        go_ret
        exact ⟨by rw [HZ.out]; rfl, n, rfl⟩

theorem rcheck_any (p : Int) (v : Value) (l : List Int) (w : World) (hl : Sl w v l) (hb : ∀ x ∈ l, I64 x) :
    Calls Try.prog 25 #[.int .i64 p, v] w fun e w' => e = .returned (.int .i64 (tapsE p l)) ∧ Below w.heap.size w w' := by
  have HS := hid (modulo_any p w)
  have HBL := hid (fit_any p v l w hl hb)
  obtain ⟨a, k, N, rfl, hN, hl1, hl2⟩ := hl.open
  have HE := hid (show tapsE p l = if smallB p = false then 1 else if N = 0 ∨ 8 < N then 2 else if fitB p l = false then 1 else 0 by rw [← hN.out]; rfl)
  clear hl hl2
  generalize tapsE p l = z at *
  generalize smallB p = s at *
  generalize fitB p l = f at *
  cases s with
  | false =>
    obtain rfl := HE.out
    go_enter Try.func25, Try.ntmps25
    go_wp2_with fail
    refine HS.out.mono ?_
    rintro e w' ⟨rfl, rfl⟩
    go_wp2
    go_ret
    exact ⟨rfl, Below.refl _ _⟩
  | true =>
    by_cases h0 : N = 0
    · subst h0
      obtain rfl := HE.out
      go_enter Try.func25, Try.ntmps25
      go_wp2_with fail
      refine HS.out.mono ?_
      rintro e w' ⟨rfl, rfl⟩
      go_wp2
      go_ret
      exact ⟨rfl, Below.refl _ _⟩
    have hn0 : ((N : Int) == 0) = false := by simp; omega
    by_cases h8 : 8 < N
    · have HZ : Hid (z = 2) := hid (by rw [HE.out]; simp [h8])
      clear h0
      go_enter Try.func25, Try.ntmps25
      go_wp2_with fail
      refine HS.out.mono ?_
      rintro e w' ⟨rfl, rfl⟩
      go_wp2
      go_ret
      exact ⟨by rw [HZ.out]; rfl, Below.refl _ _⟩
    · cases f with
      | false =>
        have HZ : Hid (z = 1) := hid (by rw [HE.out]; simp [h8, h0])
        clear h0
        go_enter Try.func25, Try.ntmps25
        go_wp2_with fail
        refine HS.out.mono ?_
        rintro e w' ⟨rfl, rfl⟩
        go_wp2_with fail
        refine HBL.out.mono ?_
        rintro e w' ⟨rfl, hb1⟩
        go_wp2
        go_ret
        exact ⟨by rw [HZ.out]; rfl, hb1⟩
      | true =>
        have HZ : Hid (z = 0) := hid (by rw [HE.out]; simp [h8, h0])
        clear h0
        go_enter Try.func25, Try.ntmps25
        go_wp2_with fail
        refine HS.out.mono ?_
        rintro e w' ⟨rfl, rfl⟩
        go_wp2_with fail
        refine HBL.out.mono ?_
        rintro e w' ⟨rfl, hb1⟩
        go_wp2
        go_ret
        exact ⟨by rw [HZ.out]; rfl, hb1⟩

theorem runfault_any (p : Int) (v u : Value) (l m : List Int) (w : World) (hl : Sl w v l) (hm : Sl w u m) :
    Calls Try.prog 26 #[.int .i64 p, v, u] w fun e w' => e = .returned (.int .i64 (runE p l m)) ∧ ∃ n, w' = w.drewN n := by
  have HT := hid (fun w' (h : Sl w' v l) => tapsfault_any p v l w' h)
  have HBL := hid (fun w' (h : Sl w' u m) => below_any p u m w' h)
  have HL := hid hl
  have HM := hid hm
  obtain ⟨a, k, N, rfl, hN, hl1, hl2⟩ := hl.open
  obtain ⟨a', k', M, rfl, hM, hm1, hm2⟩ := hm.open
  have HE := hid (show runE p l m = if tapsE p l ≠ 0 then tapsE p l else if M ≠ N then 2 else if fitB p m = false then 1 else 0 by rw [← hN.out, ← hM.out]; rfl)
  clear hl hl2 hm hm2
  generalize runE p l m = z at *
  generalize tapsE p l = t at *
  generalize fitB p m = f at *
  by_cases h0 : t = 0
  · subst h0
    by_cases h1 : M = N
    · subst h1
      have hmm : ((M : Int) != (M : Int)) = false := by simp
      cases f with
      | false =>
        have HZ : Hid (z = 1) := hid (by rw [HE.out]; simp)
        go_enter Try.func26, Try.ntmps26
        go_wp2_with fail
        refine (HT.out _ HL.out).mono ?_
        rintro e w' ⟨rfl, n, rfl⟩
        go_wp2_with fail
        refine (HBL.out _ (HM.out.drewN _)).mono ?_
        rintro e w' ⟨rfl, n2, rfl⟩
        go_wp2
        go_ret
        exact ⟨by rw [HZ.out]; rfl, _, rfl⟩
      | true =>
        have HZ : Hid (z = 0) := hid (by rw [HE.out]; simp)
        go_enter Try.func26, Try.ntmps26
        go_wp2_with fail
        refine (HT.out _ HL.out).mono ?_
        rintro e w' ⟨rfl, n, rfl⟩
        go_wp2_with fail
        refine (HBL.out _ (HM.out.drewN _)).mono ?_
        rintro e w' ⟨rfl, n2, rfl⟩
        go_wp2
        go_ret
        exact ⟨by rw [HZ.out]; rfl, _, rfl⟩
    · have hmm : ((M : Int) != (N : Int)) = true := by simp; omega
      have HZ : Hid (z = 2) := hid (by rw [HE.out]; simp [h1])
      clear h1
      go_enter Try.func26, Try.ntmps26
      go_wp2_with fail
      refine (HT.out _ HL.out).mono ?_
      rintro e w' ⟨rfl, n, rfl⟩
      go_wp2
      go_ret
      exact ⟨by rw [HZ.out]; rfl, n, rfl⟩
  · have HZ : Hid (z = t) := hid (by rw [HE.out]; simp [h0])
    have hq : (t != 0) = true := by simpa using h0
    clear h0
    go_enter Try.func26, Try.ntmps26
    go_wp2_with fail
    refine (HT.out _ HL.out).mono ?_
    rintro e w' ⟨rfl, n, rfl⟩
    go_wp2
    go_ret
    exact ⟨by rw [HZ.out]; rfl, n, rfl⟩

theorem rcheck2_any (p : Int) (v u : Value) (l m : List Int) (w : World) (hl : Sl w v l) (hm : Sl w u m) (hb : ∀ x ∈ l, I64 x) (hb2 : ∀ x ∈ m, I64 x) :
    Calls Try.prog 49 #[.int .i64 p, v, u] w fun e w' => e = .returned (.int .i64 (runE p l m)) ∧ Below w.heap.size w w' := by
  have HT := hid (fun w' (h : Sl w' v l) => rcheck_any p v l w' h hb)
  have HBL := hid (fun w' (h : Sl w' u m) => fit_any p u m w' h hb2)
  have HL := hid hl
  have HM := hid hm
  obtain ⟨a, k, N, rfl, hN, hl1, hl2⟩ := hl.open
  obtain ⟨a', k', M, rfl, hM, hm1, hm2⟩ := hm.open
  have HE := hid (show runE p l m = if tapsE p l ≠ 0 then tapsE p l else if M ≠ N then 2 else if fitB p m = false then 1 else 0 by rw [← hN.out, ← hM.out]; rfl)
  clear hl hl2 hm hm2 hb hb2
  generalize runE p l m = z at *
  generalize tapsE p l = t at *
  generalize fitB p m = f at *
  by_cases h0 : t = 0
  · subst h0
    by_cases h1 : M = N
    · subst h1
      have hmm : ((M : Int) != (M : Int)) = false := by simp
      cases f with
      | false =>
        have HZ : Hid (z = 1) := hid (by rw [HE.out]; simp)
        go_enter Try.func49, Try.ntmps49
        go_wp2_with fail
        refine (HT.out _ HL.out).mono ?_
        rintro e w1 ⟨rfl, hb1⟩
        have HM1 := hid (HM.out.below hb1)
        have hz := hb1.size
        go_wp2_with fail
        refine (HBL.out _ HM1.out).mono ?_
        rintro e w2 ⟨rfl, hb2⟩
        go_wp2
        go_ret
        exact ⟨by rw [HZ.out]; rfl, hb1.trans (hb2.mono hz)⟩
      | true =>
        have HZ : Hid (z = 0) := hid (by rw [HE.out]; simp)
        go_enter Try.func49, Try.ntmps49
        go_wp2_with fail
        refine (HT.out _ HL.out).mono ?_
        rintro e w1 ⟨rfl, hb1⟩
        have HM1 := hid (HM.out.below hb1)
        have hz := hb1.size
        go_wp2_with fail
        refine (HBL.out _ HM1.out).mono ?_
        rintro e w2 ⟨rfl, hb2⟩
        go_wp2
        go_ret
        exact ⟨by rw [HZ.out]; rfl, hb1.trans (hb2.mono hz)⟩
    · have hmm : ((M : Int) != (N : Int)) = true := by simp; omega
      have HZ : Hid (z = 2) := hid (by rw [HE.out]; simp [h1])
      clear h1
      go_enter Try.func49, Try.ntmps49
      go_wp2_with fail
      refine (HT.out _ HL.out).mono ?_
      rintro e w1 ⟨rfl, hb1⟩
      go_wp2
      go_ret
      exact ⟨by rw [HZ.out]; rfl, hb1⟩
  · have HZ : Hid (z = t) := hid (by rw [HE.out]; simp [h0])
    have hq : (t != 0) = true := by simpa using h0
    clear h0
    go_enter Try.func49, Try.ntmps49
    go_wp2_with fail
    refine (HT.out _ HL.out).mono ?_
    rintro e w1 ⟨rfl, hb1⟩
    go_wp2
    go_ret
    exact ⟨by rw [HZ.out]; rfl, hb1⟩
end Go.Proofs.Ytlnfkkapepgilaa
