/-
  The law walk of parterrelaw4.SubsetMakes. No condition.
-/
import Derived.Test.YtdbfmjlnalaobaaChainsOf
import Derived.Test.YtdbfmjlnalaobaaCascOf
import Derived.Test.YtdbfmjlnalaobaaLists
namespace Go.Proofs.Ytdbfmjlnalaobaa
set_option linter.unusedVariables false
open Go.RowKit

def mcE (m k : Int) : Int := if m < 0 ∨ k < 1 ∨ 30 < k then 1 else if 1000000000 < m then 3 else 0
def mcL (m k : Int) : List Nat := if mcE m k = 0 then casc k.toNat m.toNat else []
def mcW (m k : Int) : Nat := if mcE m k = 0 then lsS k.toNat (casc k.toNat m.toNat) (casc k.toNat m.toNat).length else 0
theorem mc_cases (m k : Int) : ((m < 0 ∨ k < 1 ∨ 30 < k) ∧ mcE m k = 1 ∧ mcL m k = [] ∧ mcW m k = 0) ∨ (¬ (m < 0 ∨ k < 1 ∨ 30 < k) ∧ 1000000000 < m ∧ mcE m k = 3 ∧ mcL m k = [] ∧ mcW m k = 0) ∨
    (∃ m' k' : Nat, m = m' ∧ k = k' ∧ 1 ≤ k' ∧ k' ≤ 30 ∧ m' ≤ 1000000000 ∧ mcE m k = 0 ∧ mcL m k = casc k' m' ∧ mcW m k = lsS k' (casc k' m') (casc k' m').length) := by
  by_cases h : m < 0 ∨ k < 1 ∨ 30 < k
  · left
    have e : mcE m k = 1 := if_pos h
    exact ⟨h, e, by simp [mcL, e], by simp [mcW, e]⟩
  · right
    by_cases h2 : 1000000000 < m
    · left
      have e : mcE m k = 3 := by rw [mcE, if_neg h, if_pos h2]
      exact ⟨h, h2, e, by simp [mcL, e], by simp [mcW, e]⟩
    · right
      have e : mcE m k = 0 := by rw [mcE, if_neg h, if_neg h2]
      refine ⟨m.toNat, k.toNat, by omega, by omega, by omega, by omega, by omega, e, by rw [mcL, if_pos e], by rw [mcW, if_pos e]⟩

theorem Cascade_any (m k : Int) (w : World) :
    Calls Try.prog 25 #[.int .i64 m, .int .i64 k] w fun e w' => (∃ u, e = .returned (.tuple #[u, .int .i64 (mcE m k)]) ∧ OI w.heap.size w' u (natC (mcL m k))) ∧ Below w.heap.size w w' := by
  rcases mc_cases m k with ⟨h, e1, e2, _⟩ | ⟨h, h2, e1, e2, _⟩ | ⟨m', k', rfl, rfl, h1, h2, h3, e1, e2, _⟩
  · rw [e1, e2]
    refine (Cascade_bad m k w h).mono ?_
    rintro e w' ⟨rfl, hb⟩
    exact ⟨⟨_, rfl, OI.nil _ _⟩, hb⟩
  · rw [e1, e2]
    refine (Cascade_full m k w h h2).mono ?_
    rintro e w' ⟨rfl, hb⟩
    exact ⟨⟨_, rfl, OI.nil _ _⟩, hb⟩
  · rw [e1, e2]
    exact Cascade_ok m' k' w h1 h2 h3
theorem CascOf_any (m k : Int) (w : World) :
    Calls Try.prog 27 #[.int .i64 m, .int .i64 k] w fun e w' => (∃ u, e = .returned (.tuple #[u, .int .i64 (mcE m k)]) ∧ OI w.heap.size w' u (natC (mcL m k))) ∧ Below w.heap.size w w' := by
  rcases mc_cases m k with ⟨h, e1, e2, _⟩ | ⟨h, h2, e1, e2, _⟩ | ⟨m', k', rfl, rfl, h1, h2, h3, e1, e2, _⟩
  · rw [e1, e2]
    refine (CascOf_bad m k w h).mono ?_
    rintro e w' ⟨rfl, hb⟩
    exact ⟨⟨_, rfl, OI.nil _ _⟩, hb⟩
  · rw [e1, e2]
    refine (CascOf_full m k w h h2).mono ?_
    rintro e w' ⟨rfl, hb⟩
    exact ⟨⟨_, rfl, OI.nil _ _⟩, hb⟩
  · rw [e1, e2]
    exact CascOf_ok m' k' w h1 h2 h3
theorem Least_any (m k : Int) (w : World) :
    Calls Try.prog 26 #[.int .i64 m, .int .i64 k] w fun e w' => e = .returned (.tuple #[.int .i64 (mcW m k : Nat), .int .i64 (mcE m k)]) ∧ Below w.heap.size w w' := by
  rcases mc_cases m k with ⟨h, e1, _, e2⟩ | ⟨h, h2, e1, _, e2⟩ | ⟨m', k', rfl, rfl, h1, h2, h3, e1, _, e2⟩
  · rw [e1, e2]
    exact Least_bad m k w h
  · rw [e1, e2]
    exact Least_full m k w h h2
  · rw [e1, e2]
    exact Least_ok m' k' w h1 h2 h3
theorem LeastOf_any (v : Value) (m k : Int) (w : World) (hl : Sl w v (natC (mcL m k))) :
    Calls Try.prog 28 #[v, .int .i64 k] w fun e w' => e = .returned (.int .i64 (mcW m k : Nat)) ∧ ∃ q, w' = w.drewN q := by
  rcases mc_cases m k with ⟨h, _, e1, e2⟩ | ⟨h, h2, _, e1, e2⟩ | ⟨m', k', rfl, rfl, h1, h2, h3, _, e1, e2⟩
  · rw [e1] at hl
    rw [e2]
    exact LeastOf_nil v k w hl
  · rw [e1] at hl
    rw [e2]
    exact LeastOf_nil v k w hl
  · rw [e1] at hl
    rw [e2]
    exact LeastOf_ok v m' k' w h1 h2 h3 hl

def chE (n : Int) : Int := if n < 0 ∨ 10 < n then 1 else 0
def chLL (n : Int) : List (List Int) := if n < 0 ∨ 10 < n then [] else (chainsF n.toNat (2 ^ n.toNat)).map natA
theorem Chains_any (n : Int) (w : World) :
    Calls Try.prog 29 #[.int .i64 n] w fun e w' => (∃ u, e = .returned (.tuple #[u, .int .i64 (chE n)]) ∧ OL w.heap.size w'.heap.size w' u (chLL n)) ∧ Below w.heap.size w w' := by
  by_cases h : n < 0 ∨ 10 < n
  · rw [chE, chLL, if_pos h, if_pos h]
    refine (Chains_bad n w h).mono ?_
    rintro e w' ⟨rfl, hb⟩
    exact ⟨⟨_, rfl, OL.nil _ _ _⟩, hb⟩
  · rw [chE, chLL, if_neg h, if_neg h]
    have := Chains_ok n.toNat w (by omega)
    rwa [show ((n.toNat : Nat) : Int) = n by omega] at this
theorem ChainsOf_any (n : Int) (w : World) :
    Calls Try.prog 30 #[.int .i64 n] w fun e w' => (∃ u, e = .returned (.tuple #[u, .int .i64 (chE n)]) ∧ OL w.heap.size w'.heap.size w' u (chLL n)) ∧ Below w.heap.size w w' := by
  by_cases h : n < 0 ∨ 10 < n
  · rw [chE, chLL, if_pos h, if_pos h]
    refine (ChainsOf_bad n w h).mono ?_
    rintro e w' ⟨rfl, hb⟩
    exact ⟨⟨_, rfl, OL.nil _ _ _⟩, hb⟩
  · rw [chE, chLL, if_neg h, if_neg h]
    have := ChainsOf_ok n.toNat w (by omega)
    rwa [show ((n.toNat : Nat) : Int) = n by omega] at this

theorem chainsF_len (n : Nat) : ∀ t, ∀ c ∈ chainsF n t, c.length ≤ n + 1
  | 0, c, h => by simp [chainsF] at h
  | t + 1, c, h => by
    simp only [chainsF] at h
    split at h
    · exact chainsF_len n t c h
    · rcases List.mem_append.1 h with h | h
      · exact chainsF_len n t c h
      · simp at h
        rw [h, chL_len]
        have := aloneS_len t n
        omega
theorem chLL_len (n : Int) : (chLL n).length ≤ 1000000000000 := by
  unfold chLL
  split
  · simp
  · rw [List.length_map]
    have h1 := chains_len n.toNat (2 ^ n.toNat)
    have h2 : 2 ^ n.toNat ≤ 2 ^ 10 := Nat.pow_le_pow_right (by omega) (by omega)
    have h3 : (2 : Nat) ^ 10 = 1024 := by decide
    omega
theorem chLL_in (n : Int) (i : Nat) (hi : i < (chLL n).length) : ((chLL n).getD i []).length ≤ 17592186044416 := by
  have hm : (chLL n).getD i [] ∈ chLL n := by
    rw [List.getD_eq_getElem?_getD, List.getElem?_eq_getElem hi]
    exact List.getElem_mem _
  generalize (chLL n).getD i [] = c at *
  unfold chLL at hm
  split at hm
  · cases hm
  · rw [List.mem_map] at hm
    obtain ⟨d, hd, rfl⟩ := hm
    rw [natA_len]
    have := chainsF_len n.toNat _ d hd
    omega
theorem mcL_len (m k : Int) : (natC (mcL m k)).length ≤ 17592186044416 := by
  rw [natC_len]
  rcases mc_cases m k with ⟨_, _, e, _⟩ | ⟨_, _, _, e, _⟩ | ⟨m', k', rfl, rfl, h1, h2, h3, _, e, _⟩
  · rw [e]; decide
  · rw [e]; decide
  · rw [e]
    have := casc_len k' m'
    omega
theorem mcW_I64 (m k : Int) : mcW m k ≤ 900000000000 := by
  rcases mc_cases m k with ⟨_, _, _, e⟩ | ⟨_, _, _, _, e⟩ | ⟨m', k', rfl, rfl, h1, h2, h3, _, _, e⟩
  · rw [e]; decide
  · rw [e]; decide
  · rw [e]
    have h4 := casc_len k' m'
    have := ls_bd h3 h2 (casc k' m').length (Nat.le_refl _)
    have : (casc k' m').length * 30000000000 ≤ 30 * 30000000000 := Nat.mul_le_mul_right _ (by omega)
    omega

set_option maxRecDepth 100000 in
set_option maxHeartbeats 1000000 in
theorem subsetMakes_walk (w : World) (m : Int) (im : I64 m) (k : Int) (ik : I64 k) (n : Int) (iN : I64 n) :
    Calls Try.prog 5 #[.int .i64 m, .int .i64 k, .int .i64 n] w fun e w' => e = .returned (.bool true) ∧ Below w.heap.size w w' := by
  have H1 := hid (Cascade_any m k)
  have H2 := hid (Least_any m k)
  have H3 := hid (CascOf_any m k)
  have H4 := hid (fun v => LeastOf_any v m k)
  have H5 := hid (Chains_any n)
  have H6 := hid (ChainsOf_any n)
  have HL := hid (mcL_len m k)
  have HC1 := hid (chLL_len n)
  have HC2 := hid (chLL_in n)
  have q1 : (mcE m k != mcE m k) = false := by simp
  have q2 : ((mcW m k : Int) != (mcW m k : Int)) = false := by simp
  have q3 : (chE n == chE n) = true := by simp
  have HE1 := hid (ints_any)
  generalize mcL m k = L at *
  generalize mcE m k = E at *
  obtain ⟨W, hW⟩ : ∃ W : Int, W = (mcW m k : Nat) := ⟨_, rfl⟩
  rw [← hW] at H2 H4 q2
  clear hW
  generalize chLL n = C at *
  generalize chE n = E2 at *
  clear im ik iN
  go_enter Try.func5, Try.ntmps5
  go_wp2_with fail
  refine (H1.out w).mono ?_
  rintro e w1 ⟨⟨l, rfl, hl⟩, hb1⟩
  have B1 := hid (And.intro hb1 hl)
  clear hb1 hl
  go_wp2_with fail
  refine (H2.out w1).mono ?_
  rintro e w2 ⟨rfl, hb2⟩
  have B2 := hid (And.intro (B1.out.1.trans (hb2.mono B1.out.1.size)) (B1.out.2.below hb2))
  clear hb2
  go_wp2_with fail
  refine (H3.out w2).mono ?_
  rintro e w3 ⟨⟨x, rfl, hx⟩, hb3⟩
  have B3 := hid (And.intro (B2.out.1.trans (hb3.mono B2.out.1.size)) (And.intro ((B2.out.2.below hb3).sl HL.out) (hx.sl HL.out)))
  clear hb3 hx
  go_wp2_with fail
  refine (HE1.out _ _ _ _ w3 B3.out.2.1 B3.out.2.2).mono ?_
  rintro e w4 ⟨rfl, n4, rfl⟩
  have hd : decide (natC L = natC L) = true := by simp
  rw [hd]
  clear hd
  go_wp2_with fail
  refine (H4.out x _ (B3.out.2.2.drewN n4)).mono ?_
  rintro e w5 ⟨rfl, n5, rfl⟩
  have B5 := hid (below_drewN B3.out.1 (n4 + n5))
  go_wp2_with fail
  refine (H5.out _).mono ?_
  rintro e w6 ⟨⟨c, rfl, hc⟩, hb6⟩
  have B6 := hid (And.intro (B5.out.trans (hb6.mono B5.out.size)) hc)
  clear hb6 hc
  go_wp2_with fail
  refine (H6.out _).mono ?_
  rintro e w7 ⟨⟨d, rfl, hd⟩, hb7⟩
  have B7 := hid (And.intro (B6.out.1.trans (hb7.mono B6.out.1.size)) (And.intro ((B6.out.2.below hb7).rl HC1.out HC2.out) (hd.rl HC1.out HC2.out)))
  clear hb7 hd
  go_wp2_with fail
  refine (lists_any _ _ _ _ w7 B7.out.2.1 B7.out.2.2).mono ?_
  rintro e w8 ⟨rfl, n8, rfl⟩
  have hd : decide (C = C) = true := by simp
  rw [hd]
  clear hd
  go_wp2
  go_ret
  exact ⟨rfl, below_drewN B7.out.1 _⟩
end Go.Proofs.Ytdbfmjlnalaobaa
