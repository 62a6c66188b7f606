/-
  The least length's equations: none below, at it just one where it is told. No program in sight.
-/
import Derived.Test.YtlnfkkapepgilaaGauss
import Derived.Test.YtlnfkkapepgilaaLeast1
namespace Go.Proofs.Ytlnfkkapepgilaa
set_option linter.unusedVariables false

/-- The equations at length l. -/
def eqM (s : Nat → Int) (l i j : Nat) : Int := if j < l then s (l + i - 1 - j) else s (l + i)
def xC (x : Nat → Int) : Nat → Int
  | 0 => 1
  | j + 1 => -(x j)
theorem disc_row (s C x : Nat → Int) (l i : Nat) (h0 : C 0 = 1) (h : ∀ j, j < l → C (j + 1) = -(x j)) : disc s C l (l + i) = -(rowM (eqM s l i) x l) := by
  unfold disc rowM
  rw [show l + 1 = 1 + l by omega, sm_front, h0, Int.one_mul, Nat.sub_zero]
  rw [sm_congr (g := fun j => -(eqM s l i j * x j)) l (fun j hj => by
    unfold eqM
    rw [if_pos hj, show 1 + j = j + 1 by omega, h j hj, show l + i - (j + 1) = l + i - 1 - j by omega, Int.neg_mul, Int.mul_comm]), sm_neg]
  have : eqM s l i l = s (l + i) := by unfold eqM; rw [if_neg (by omega)]
  rw [this]
  omega
theorem sol_gen {p : Int} {s x : Nat → Int} {l N : Nat} (h : Sol p (N - l) l (eqM s l) x) : Gen p s (xC x) l N := by
  intro m h1 h2
  have := h (m - l) (by omega)
  have e := disc_row s (xC x) x l (m - l) rfl (fun j _ => rfl)
  rw [show l + (m - l) = m by omega] at e
  rw [e]
  exact (Int.dvd_neg).2 this
theorem gen_sol {p : Int} {s C : Nat → Int} {l N : Nat} (h0 : C 0 = 1) (h : Gen p s C l N) : Sol p (N - l) l (eqM s l) (fun j => -(C (j + 1))) := by
  intro i hi
  have e := disc_row s C (fun j => -(C (j + 1))) l i h0 (fun j _ => by omega)
  have := h (l + i) (by omega) (by omega)
  rw [e] at this
  exact (Int.dvd_neg).1 this
theorem least_nat (q : Nat → Prop) : ∀ n, q n → ∃ k, k ≤ n ∧ q k ∧ ∀ j, j < k → ¬ q j := by
  intro n
  induction n using Nat.strongRecOn with
  | ind n ih =>
    intro h
    by_cases hx : ∃ j, j < n ∧ q j
    · obtain ⟨j, h1, h2⟩ := hx
      obtain ⟨k, h3, h4, h5⟩ := ih j h1 h2
      exact ⟨k, by omega, h4, h5⟩
    · exact ⟨n, Nat.le_refl _, h, fun j hj hq => hx ⟨j, hj, hq⟩⟩
/-- One alone. -/
theorem bm_uniq {P : Nat} {s C B C1 C2 : Nat → Int} {N L g : Nat} {b : Int} (hp : smallB (P : Int) = true) (H : BM P s N C B L g b) (h2 : 2 * L ≤ N) (a1 : C1 0 = 1) (a2 : C2 0 = 1) (g1 : Gen P s C1 L N) (g2 : Gen P s C2 L N) : ∀ j, j ≤ L → (P : Int) ∣ C1 j - C2 j := by
  intro j0 hj0
  refine Classical.byContradiction fun hno => ?_
  obtain ⟨k, hk, hkn, hkl⟩ := least_nat (fun j => ¬ (P : Int) ∣ C1 j - C2 j) j0 hno
  have hkl' : ∀ j, j < k → (P : Int) ∣ C1 j - C2 j := fun j hj => Classical.byContradiction (hkl j hj)
  have hk0 : k ≠ 0 := fun h => hkn (by subst h; rw [a1, a2]; exact ⟨0, by omega⟩)
  have hsm := small_cases hp
  -- its inverse
  obtain ⟨v, hv⟩ : ∃ v : Int, (P : Int) ∣ (C1 k - C2 k) * v - 1 := by
    have hd0 := Int.emod_nonneg (C1 k - C2 k) (b := (P : Int)) (by omega)
    have hdp := Int.emod_lt_of_pos (C1 k - C2 k) (b := (P : Int)) (by omega)
    have hdn : (C1 k - C2 k) % (P : Int) ≠ 0 := fun h => hkn (Int.dvd_of_emod_eq_zero h)
    obtain ⟨v, _, _, hv, _⟩ := inv_ex (p := P) (a := ((C1 k - C2 k) % (P : Int)).toNat) hp (by omega) (by omega)
    refine ⟨(v : Int), ?_⟩
    have e1 : (P : Int) ∣ ((C1 k - C2 k) % (P : Int)) * (v : Int) - 1 := by
      have e2 := Nat.div_add_mod (((C1 k - C2 k) % (P : Int)).toNat * v) P
      rw [hv] at e2
      refine ⟨((((C1 k - C2 k) % (P : Int)).toNat * v / P : Nat) : Int), ?_⟩
      have e3 : ((C1 k - C2 k) % (P : Int)) * (v : Int) = ((((C1 k - C2 k) % (P : Int)).toNat * v : Nat) : Int) := by
        rw [Int.natCast_mul, Int.toNat_of_nonneg hd0]
      rw [e3, ← Int.natCast_mul]
      omega
    have e2 := Int.dvd_mul_of_dvd_left (c := (v : Int)) (dvd_emod_sub (P : Int) (C1 k - C2 k))
    rw [Int.sub_mul] at e2
    exact dvd_cast (Int.dvd_sub e1 e2) (by omega)
  let E : Nat → Int := fun i => if i = 0 then 1 else v * (C1 (k + i) - C2 (k + i))
  have hE : ∀ i, (P : Int) ∣ E i - v * (C1 (k + i) - C2 (k + i)) := fun i => by
    show (P : Int) ∣ (if i = 0 then 1 else v * (C1 (k + i) - C2 (k + i))) - _
    split
    · rename_i h
      subst h
      rw [Nat.add_zero, Int.mul_comm v]
      exact dvd_cast ((Int.dvd_neg).2 hv) (by omega)
    · rw [Int.sub_self]; exact Int.dvd_zero _
  have hgE : Gen P s E (L - k) (N - k) := by
    intro m h3 h4
    have d1 := g1 (m + k) (by omega) (by omega)
    have d2 := g2 (m + k) (by omega) (by omega)
    have d3 := Int.dvd_sub d1 d2
    unfold disc at d3
    have e1 : sm (fun i => C1 i * s (m + k - i)) (L + 1) - sm (fun i => C2 i * s (m + k - i)) (L + 1) = sm (fun i => (C1 i - C2 i) * s (m + k - i)) (L + 1) := by
      have := sm_add (fun i => C1 i * s (m + k - i)) (fun i => -(C2 i * s (m + k - i))) (L + 1)
      rw [sm_neg] at this
      rw [Int.sub_eq_add_neg, ← this]
      exact sm_congr _ fun i _ => by rw [Int.sub_mul]; omega
    rw [e1] at d3
    -- ahead of k nothing is left
    have e2 : (P : Int) ∣ sm (fun i => (C1 i - C2 i) * s (m + k - i)) (L + 1) - sm (fun i => if i < k then 0 else (C1 i - C2 i) * s (m + k - i)) (L + 1) := sm_dvd_sub _ fun i hi => by
      show (P : Int) ∣ (C1 i - C2 i) * s (m + k - i) - if i < k then 0 else (C1 i - C2 i) * s (m + k - i)
      split
      · rename_i h; rw [Int.sub_zero]; exact Int.dvd_mul_of_dvd_left (hkl' i h)
      · rw [Int.sub_self]; exact Int.dvd_zero _
    have e3 : sm (fun i => if i < k then 0 else (C1 i - C2 i) * s (m + k - i)) (L + 1) = sm (fun i => (C1 (k + i) - C2 (k + i)) * s (m - i)) (L - k + 1) := by
      rw [show L + 1 = k + (L - k + 1) by omega, sm_shift (fun i hi => if_pos hi)]
      exact sm_congr _ fun i _ => by rw [if_neg (by omega), show m + k - (k + i) = m - i by omega]
    rw [e3] at e2
    have e4 := Int.dvd_sub d3 e2
    rw [Int.sub_sub_self] at e4
    have e5 := Int.dvd_mul_of_dvd_right (b := v) e4
    have e6 : (P : Int) ∣ sm (fun i => E i * s (m - i)) (L - k + 1) - sm (fun i => v * ((C1 (k + i) - C2 (k + i)) * s (m - i))) (L - k + 1) := sm_dvd_sub _ fun i _ => by
      have := Int.dvd_mul_of_dvd_left (c := s (m - i)) (hE i)
      rw [Int.sub_mul, Int.mul_assoc] at this
      exact this
    rw [sm_mul] at e6
    have e7 := Int.dvd_add e6 e5
    rwa [Int.sub_add_cancel] at e7
  have hnN : ¬ Gen P s E (L - k) N := fun h => by
    have := H.mini E (L - k) rfl h
    omega
  -- the first that it misses
  have hex : ∃ n0, L - k ≤ n0 ∧ n0 < N ∧ ¬ (P : Int) ∣ disc s E (L - k) n0 := Classical.byContradiction fun hx => hnN fun m h3 h4 => Classical.byContradiction fun h5 => hx ⟨m, h3, h4, h5⟩
  obtain ⟨n1, hn1⟩ := hex
  obtain ⟨n0, _, ⟨h3, h4, h5⟩, h6⟩ := least_nat (fun n0 => L - k ≤ n0 ∧ n0 < N ∧ ¬ (P : Int) ∣ disc s E (L - k) n0) n1 hn1
  have hge : Gen P s E (L - k) n0 := fun m h7 h8 => Classical.byContradiction fun h9 => h6 m h8 ⟨h7, by omega, h9⟩
  have hNk : N - k ≤ n0 := Classical.byContradiction fun h => h5 (hgE n0 h3 (by omega))
  have := massey hge h5 (g1.mono (show n0 + 1 ≤ N by omega)) a1
  omega
section
variable {P : Nat} {s C B : Nat → Int} {N L g : Nat} {b : Int} {t : Int} {u : List Int}
theorem least_below (H : BM P s N C B L g b) {l : Nat} (hl : l < L) (h : SolvR P (N - l) l (eqM s l) t u) : t = 0 := by
  have hno : ∀ x, ¬ Sol P (N - l) l (eqM s l) x := fun x hx => by
    have := H.mini (xC x) l rfl (sol_gen hx)
    omega
  rcases h with h | ⟨_, _, x, _, hx, _⟩ | ⟨_, _, _, _, hx⟩
  · exact h.1
  · exact absurd hx (hno x)
  · exact absurd hx (hno _)
theorem least_at (hp : smallB (P : Int) = true) (H : BM P s N C B L g b) (h : SolvR P (N - L) L (eqM s L) t u) : t ≠ 0 ∧ (if L = 0 ∨ t = 2 then [] else u) = lsT P C L N := by
  have hs := gen_sol H.c0 H.gen
  have hsm := small_cases hp
  have hLN := H.ln
  rcases h with ⟨_, _, h⟩ | ⟨rfl, rfl, x, y, hx, hy, j, hj, hd⟩ | ⟨rfl, hR, hlen, hin, hx⟩
  · exact absurd hs (h _)
  · refine ⟨by omega, ?_⟩
    rw [if_pos (.inr rfl)]
    unfold lsT
    split
    · rfl
    · rename_i hc
      have h1 := bm_uniq hp H (by omega) (C1 := xC x) (C2 := xC y) rfl rfl (sol_gen hx) (sol_gen hy) (j + 1) (by omega)
      exact absurd (dvd_cast ((Int.dvd_neg).2 h1) (show -(-(x j) - -(y j)) = x j - y j by omega)) hd
  · refine ⟨by omega, ?_⟩
    unfold lsT
    by_cases h0 : L = 0
    · rw [if_pos (.inl h0), if_pos (.inl h0)]
    · rw [if_neg (by omega), if_neg (by omega)]
      refine List.ext_getElem (by rw [hlen, bmT_len]) fun j h1 h2 => ?_
      rw [bmT_len] at h2
      have e1 : u[j] = u.getD j 0 := by rw [List.getD_eq_getElem?_getD, List.getElem?_eq_getElem h1]; rfl
      have e2 : (bmT P C L)[j]'(by rw [bmT_len]; exact h2) = (bmT P C L).getD j 0 := by rw [List.getD_eq_getElem?_getD, List.getElem?_eq_getElem (by rw [bmT_len]; exact h2)]; rfl
      rw [e2, e1, bmT_get h2]
      have h3 := bm_uniq hp H (by omega) (C1 := xC (fun j => u.getD j 0)) (C2 := C) rfl H.c0 (sol_gen hx) H.gen (j + 1) (by omega)
      have h4 := hin _ (List.getElem_mem h1)
      rw [e1] at h4
      have h5 : (P : Int) ∣ (P - C (j + 1)) - u.getD j 0 := dvd_cast (Int.dvd_add (Int.dvd_refl (P : Int)) h3) (show (P : Int) + (-(u.getD j 0) - C (j + 1)) = _ by omega)
      have h6 : ((P : Int) - C (j + 1)) % P = u.getD j 0 % P := Int.emod_eq_emod_iff_emod_sub_eq_zero.2 (Int.emod_eq_zero_of_dvd h5)
      rw [h6, Int.emod_eq_of_lt h4.1 h4.2]
end
end Go.Proofs.Ytlnfkkapepgilaa
