/-
  Signs: pairs that are the wrong way round; products; cycles. No program in sight.
-/
import Derived.Test.YtgfdddknajeknaaDoorPm
namespace Go.Proofs.YtgfdddknajeknaaDoor
set_option linter.unusedVariables false

/-- Pairs that are the wrong way round. -/
def inv (f : Nat → Nat) (N : Nat) : Nat := sumN (fun j => sumN (fun i => if f j < f i then 1 else 0) j) N
theorem inv_congr {f g : Nat → Nat} {N : Nat} (h : ∀ i, i < N → f i = g i) : inv f N = inv g N :=
  sumN_congr N fun j hj => sumN_congr j fun i hi => by rw [h j hj, h i (by omega)]
theorem sumN_cut (g : Nat → Nat) {j : Nat} : ∀ N, j ≤ N → sumN (fun i => if i < j then g i else 0) N = sumN g j
  | 0, h => by obtain rfl : j = 0 := by omega
               rfl
  | N + 1, h => by
    by_cases e : j = N + 1
    · subst e
      exact sumN_congr _ fun i hi => if_pos hi
    · simp only [sumN]
      rw [sumN_cut g N (by omega), if_neg (by omega)]; omega
theorem sumN_tri (g : Nat → Nat → Nat) (N : Nat) : sumN (fun j => sumN (fun i => g i j) j) N = sumN (fun j => sumN (fun i => if i < j then g i j else 0) N) N :=
  sumN_congr N fun j hj => (sumN_cut (fun i => g i j) N (by omega)).symm
theorem Pm.surj {N : Nat} {g : Nat → Nat} (P : Pm N g) {x : Nat} (hx : x < N) : ∃ i, i < N ∧ g i = x := by
  have h := P.per_spec hx
  refine ⟨it g (per g N x - 1) x, P.it_lt hx _, ?_⟩
  have : g (it g (per g N x - 1) x) = it g (per g N x - 1 + 1) x := rfl
  rw [this, Nat.sub_add_cancel h.2.1]
  exact h.1
/-- Sums, taken in another order. -/
theorem sumN_perm {N : Nat} {g : Nat → Nat} (P : Pm N g) (h : Nat → Nat) : sumN (fun i => h (g i)) N = sumN h N := by
  have h1 : sumN (fun i => h (g i)) N = sumN (fun i => sumN (fun x => if x = g i then h x else 0) N) N := sumN_congr N fun i hi => (sumN_one (P.lt i hi) h).symm
  rw [h1, sumN_swap]
  refine sumN_congr N fun x hx => ?_
  obtain ⟨a, ha, he⟩ := P.surj hx
  have h2 : sumN (fun i => if x = g i then h x else 0) N = sumN (fun i => if i = a then h x else 0) N := sumN_congr N fun i hi => by
    by_cases e : i = a
    · subst e; rw [if_pos rfl, if_pos he.symm]
    · rw [if_neg e, if_neg]
      intro e2
      exact e (P.inj i a hi ha (by rw [he, e2]))
  rw [h2, sumN_one ha]

/-- Is the pair turned? -/
def turn (f : Nat → Nat) (x y : Nat) : Nat := if (x < y ∧ f y < f x) ∨ (y < x ∧ f x < f y) then 1 else 0
theorem turn_symm (f : Nat → Nat) (x y : Nat) : turn f x y = turn f y x := by
  unfold turn
  by_cases h : (x < y ∧ f y < f x) ∨ (y < x ∧ f x < f y)
  · rw [if_pos h, if_pos h.symm]
  · rw [if_neg h, if_neg (fun e => h e.symm)]
theorem turn_self (f : Nat → Nat) (x : Nat) : turn f x x = 0 := by
  unfold turn
  rw [if_neg (by omega)]
theorem sym_double (T : Nat → Nat → Nat) (hs : ∀ x y, T x y = T y x) (hz : ∀ x, T x x = 0) (N : Nat) : sumN (fun j => sumN (fun i => T i j) N) N = 2 * sumN (fun j => sumN (fun i => T i j) j) N := by
  have h1 : sumN (fun j => sumN (fun i => T i j) N) N = sumN (fun j => sumN (fun i => (if i < j then T i j else 0) + (if j < i then T i j else 0)) N) N := sumN_congr N fun j hj => sumN_congr N fun i hi => by
    rcases Nat.lt_trichotomy i j with h | h | h
    · rw [if_pos h, if_neg (by omega)]; omega
    · subst h; rw [hz, if_neg (by omega)]
    · rw [if_neg (by omega), if_pos h]; omega
  have h2 : sumN (fun j => sumN (fun i => if j < i then T i j else 0) N) N = sumN (fun j => sumN (fun i => if i < j then T i j else 0) N) N := by
    rw [sumN_swap]
    exact sumN_congr N fun i hi => sumN_congr N fun j hj => by rw [hs]
  rw [h1]
  have h3 : sumN (fun j => sumN (fun i => (if i < j then T i j else 0) + (if j < i then T i j else 0)) N) N = sumN (fun j => sumN (fun i => if i < j then T i j else 0) N + sumN (fun i => if j < i then T i j else 0) N) N := sumN_congr N fun j hj => sumN_add _ _ N
  rw [h3, sumN_add, h2, ← sumN_tri]
  omega
theorem turn_inv (f : Nat → Nat) (N : Nat) : sumN (fun j => sumN (fun i => turn f i j) j) N = inv f N :=
  sumN_congr N fun j hj => sumN_congr j fun i hi => by
    unfold turn
    by_cases h : f j < f i
    · rw [if_pos (.inl ⟨hi, h⟩), if_pos h]
    · rw [if_neg (by omega), if_neg h]
/-- Signs multiply. -/
theorem inv_comp {N : Nat} {f g : Nat → Nat} (P : Pm N f) (Q : Pm N g) : (inv (fun i => f (g i)) N) % 2 = (inv f N + inv g N) % 2 := by
  have h1 : sumN (fun j => sumN (fun i => turn f (g i) (g j)) j) N = inv f N := by
    have e1 := sym_double (fun i j => turn f (g i) (g j)) (fun x y => turn_symm f _ _) (fun x => turn_self f _) N
    have e2 := sym_double (turn f) (turn_symm f) (turn_self f) N
    have e3 : sumN (fun j => sumN (fun i => turn f (g i) (g j)) N) N = sumN (fun j => sumN (fun i => turn f i j) N) N := by
      have e4 : sumN (fun j => sumN (fun i => turn f (g i) (g j)) N) N = sumN (fun j => sumN (fun i => turn f i (g j)) N) N := sumN_congr N fun j hj => sumN_perm Q (fun x => turn f x (g j))
      rw [e4]
      exact sumN_perm Q (fun y => sumN (fun i => turn f i y) N)
    rw [turn_inv] at e2
    have : 2 * sumN (fun j => sumN (fun i => turn f (g i) (g j)) j) N = 2 * inv f N := by rw [← e1, ← e2, e3]
    omega
  have h2 : inv (fun i => f (g i)) N + 2 * sumN (fun j => sumN (fun i => if g j < g i ∧ f (g i) < f (g j) then 1 else 0) j) N = inv f N + inv g N := by
    rw [← h1]
    unfold inv
    rw [← sumN_mul, ← sumN_add, ← sumN_add]
    refine sumN_congr N fun j hj => ?_
    rw [← sumN_mul, ← sumN_add, ← sumN_add]
    refine sumN_congr j fun i hi => ?_
    have hne : g i ≠ g j := fun e => by have := Q.inj i j (by omega) hj e; omega
    have hne2 : f (g i) ≠ f (g j) := fun e => hne (P.inj _ _ (Q.lt i (by omega)) (Q.lt j hj) e)
    show (if f (g j) < f (g i) then 1 else 0) + 2 * _ = _
    unfold turn
    generalize g i = x at *
    generalize g j = y at *
    generalize f x = a at *
    generalize f y = b at *
    by_cases c1 : b < a
    · by_cases c2 : y < x
      · rw [if_pos c1, if_neg (by omega), if_neg (by omega), if_pos c2]
      · rw [if_pos c1, if_neg (by omega), if_pos (by omega), if_neg c2]
    · by_cases c2 : y < x
      · rw [if_neg c1, if_pos (by omega), if_pos (by omega), if_pos c2]
      · rw [if_neg c1, if_neg (by omega), if_neg (by omega), if_neg c2]
  omega

/-- Two places change. -/
def swp (p n i : Nat) : Nat := if i = p then n else if i = n then p else i
theorem swp_swp (p n i : Nat) : swp p n (swp p n i) = i := by
  unfold swp
  by_cases h1 : i = p
  · rw [if_pos h1]
    by_cases h2 : n = p
    · rw [if_pos h2]; omega
    · rw [if_neg h2, if_pos rfl]; omega
  · rw [if_neg h1]
    by_cases h2 : i = n
    · rw [if_pos h2, if_pos rfl]; omega
    · rw [if_neg h2, if_neg h1, if_neg h2]
theorem swp_lt {p n i N : Nat} (hp : p < N) (hn : n < N) (hi : i < N) : swp p n i < N := by
  unfold swp
  split
  · exact hn
  · split
    · exact hp
    · exact hi
theorem swp_pm {p n N : Nat} (hp : p < N) (hn : n < N) : Pm N (swp p n) := ⟨fun i hi => swp_lt hp hn hi, fun i j _ _ e => by rw [← swp_swp p n i, e, swp_swp]⟩
theorem sumN_gt (p : Nat) : ∀ n, sumN (fun j => if p < j then 1 else 0) n = n - (p + 1)
  | 0 => by simp [sumN]
  | n + 1 => by
    simp only [sumN]
    rw [sumN_gt p n]
    split <;> omega
theorem swp_inv {p N : Nat} (hp : p < N) : inv (swp p N) (N + 1) % 2 = 1 := by
  have h1 : ∀ j, j < N → sumN (fun i => if swp p N j < swp p N i then 1 else 0) j = if p < j then 1 else 0 := fun j hj => by
    by_cases e : p < j
    · rw [if_pos e]
      have : sumN (fun i => if swp p N j < swp p N i then 1 else 0) j = sumN (fun i => if i = p then 1 else 0) j := sumN_congr j fun i hi => by
        by_cases e2 : i = p
        · rw [if_pos e2, if_pos]
          unfold swp
          rw [if_neg (by omega), if_neg (by omega), if_pos e2]
          omega
        · rw [if_neg e2, if_neg]
          unfold swp
          rw [if_neg (by omega), if_neg (by omega), if_neg e2, if_neg (by omega)]
          omega
      rw [this, sumN_one e (fun _ => 1)]
    · rw [if_neg e]
      have : sumN (fun i => if swp p N j < swp p N i then 1 else 0) j = sumN (fun _ => 0) j := sumN_congr j fun i hi => by
        rw [if_neg]
        unfold swp
        by_cases e2 : j = p
        · rw [if_pos e2, if_neg (by omega), if_neg (by omega)]; omega
        · rw [if_neg e2, if_neg (by omega), if_neg (by omega), if_neg (by omega)]; omega
      rw [this, sumN_zero]
  have h2 : sumN (fun i => if swp p N N < swp p N i then 1 else 0) N = sumN (fun i => (if p < i then 1 else 0) + (if i = p then 1 else 0)) N := sumN_congr N fun i hi => by
    have hN : swp p N N = p := by unfold swp; rw [if_neg (by omega), if_pos rfl]
    rw [hN]
    by_cases e : i = p
    · have hs : swp p N i = N := by unfold swp; rw [if_pos e]
      rw [hs, if_pos hp, if_neg (by omega), if_pos e]
    · have hs : swp p N i = i := by unfold swp; rw [if_neg e, if_neg (by omega)]
      rw [hs, if_neg e]; omega
  unfold inv
  simp only [sumN]
  rw [sumN_congr N h1, h2, sumN_add, sumN_gt, sumN_one hp (fun _ => 1)]
  omega

/-- How many cycles. -/
def cycN (f : Nat → Nat) (N : Nat) : Nat := (List.range N).countP (leadB f N)
theorem cycN_len (f : Nat → Nat) (N : Nat) : (cycL f N N).length = cycN f N := by
  unfold cycL cycN
  rw [List.length_map, List.countP_eq_length_filter]
theorem cycN_le (f : Nat → Nat) (N : Nat) : cycN f N ≤ N := by
  unfold cycN
  exact Nat.le_trans List.countP_le_length (by simp)
theorem cycN_succ {f g : Nat → Nat} {N : Nat} (h : ∀ i, i < N → leadB f (N + 1) i = leadB g N i) : cycN f (N + 1) = cycN g N + if leadB f (N + 1) N then 1 else 0 := by
  unfold cycN
  rw [List.range_succ, List.countP_append]
  congr 1
  · exact List.countP_congr fun i hi => by rw [h i (List.mem_range.1 hi)]
  · cases hq : leadB f (N + 1) N <;> simp [hq]
theorem lead_eq {f g : Nat → Nat} {N M i : Nat} (P : Pm N f) (Q : Pm M g) (hi : i < N) (hi2 : i < M) (h : ∀ j, j < i → (Reach f j i ↔ Reach g j i)) : leadB f N i = leadB g M i := by
  rw [Bool.eq_iff_iff, P.lead_iff hi, Q.lead_iff hi2]
  exact ⟨fun h1 j hj hr => h1 j hj ((h j hj).2 hr), fun h1 j hj hr => h1 j hj ((h j hj).1 hr)⟩

/-- The last point taken out of its cycle. -/
def outN (f : Nat → Nat) (N i : Nat) : Nat := if f i = N then f N else f i
theorem out_pm {f : Nat → Nat} {N : Nat} (P : Pm (N + 1) f) (hN : f N ≠ N) : Pm N (outN f N) := by
  have hl := P.lt N (by omega)
  refine ⟨fun i hi => ?_, fun i j hi hj e => ?_⟩
  · unfold outN
    split
    · omega
    · have := P.lt i (by omega); omega
  · unfold outN at e
    by_cases h1 : f i = N
    · rw [if_pos h1] at e
      by_cases h2 : f j = N
      · exact P.inj i j (by omega) (by omega) (by rw [h1, h2])
      · rw [if_neg h2] at e
        have := P.inj N j (by omega) (by omega) e; omega
    · rw [if_neg h1] at e
      by_cases h2 : f j = N
      · rw [if_pos h2] at e
        have := P.inj i N (by omega) (by omega) e; omega
      · rw [if_neg h2] at e
        exact P.inj i j (by omega) (by omega) e
theorem out_reach {f : Nat → Nat} {N : Nat} (P : Pm (N + 1) f) (hN : f N ≠ N) : ∀ k i, i < N → it f k i < N → Reach (outN f N) i (it f k i) := by
  intro k
  induction k using Nat.strongRecOn with
  | _ k ih =>
    intro i hi hk
    rcases k with _ | k
    · exact Reach.refl i
    · have e1 : it f (k + 1) i = it f k (f i) := it_add f 1 i k
      rw [e1] at hk ⊢
      by_cases h : f i = N
      · rw [h] at hk ⊢
        rcases k with _ | k
        · simp only [it] at hk; omega
        · have e2 : it f (k + 1) N = it f k (f N) := it_add f 1 N k
          rw [e2] at hk ⊢
          have hl := P.lt N (by omega)
          have := ih k (by omega) (f N) (by omega) hk
          refine Reach.trans ⟨1, ?_⟩ this
          show f N = outN f N i
          unfold outN; rw [if_pos h]
      · have hl := P.lt i (by omega)
        have := ih k (by omega) (f i) (by omega) hk
        refine Reach.trans ⟨1, ?_⟩ this
        show f i = outN f N i
        unfold outN; rw [if_neg h]
theorem reach_out {f : Nat → Nat} {N : Nat} : ∀ k i, Reach f i (it (outN f N) k i)
  | 0, i => Reach.refl i
  | k + 1, i => by
    have ih := reach_out (f := f) (N := N) k i
    refine ih.trans ?_
    simp only [it]
    generalize it (outN f N) k i = x
    unfold outN
    split
    · rename_i h
      exact ⟨2, by simp only [it]; rw [h]⟩
    · exact ⟨1, rfl⟩

/-- As many turned pairs as the points less the cycles, by twos. -/
theorem sign_even : ∀ (N : Nat) (f : Nat → Nat), Pm N f → (N - cycN f N) % 2 = inv f N % 2
  | 0, f, _ => by rfl
  | N + 1, f, P => by
    by_cases hN : f N = N
    · have Q : Pm N f := ⟨fun i hi => by
        have h1 := P.lt i (by omega)
        have h2 : f i ≠ N := fun e => by have := P.inj i N (by omega) (by omega) (by rw [e, hN]); omega
        omega, fun i j hi hj e => P.inj i j (by omega) (by omega) e⟩
      have ih := sign_even N f Q
      have hle := cycN_le f N
      have hc := cycN_succ (f := f) (g := f) (N := N) (fun i hi => lead_eq P Q (by omega) hi (fun j hj => Iff.rfl))
      have hl : leadB f (N + 1) N = true := (P.lead_iff (by omega)).2 fun j hj hr => by
        obtain ⟨k, hk⟩ := P.reach_symm (by omega) hr
        have : ∀ k, it f k N = N := fun k => by
          induction k with
          | zero => rfl
          | succ k ih => simp only [it]; rw [ih, hN]
        rw [this k] at hk; omega
      rw [hl] at hc
      have hi : inv f (N + 1) = inv f N := by
        unfold inv
        simp only [sumN]
        rw [sumN_congr N (g := fun i => if f N < f i then 1 else 0) (h := fun _ => 0) (fun i hi => if_neg (by have := Q.lt i hi; omega)), sumN_zero]; omega
      rw [hc, hi, if_pos rfl, ← ih]
      congr 1
      omega
    · have Q := out_pm P hN
      have ih := sign_even N (outN f N) Q
      have hle := cycN_le (outN f N) N
      have hc := cycN_succ (f := f) (g := outN f N) (N := N) (fun i hi => lead_eq P Q (by omega) hi (fun j hj => by
        constructor
        · rintro ⟨k, hk⟩
          have := out_reach P hN k j (by omega) (by rw [← hk]; exact hi)
          rw [← hk] at this
          exact this
        · rintro ⟨k, hk⟩
          rw [hk]
          exact reach_out k j))
      have hfl := P.lt N (by omega)
      have hl : leadB f (N + 1) N = false := by
        cases h : leadB f (N + 1) N with
        | false => rfl
        | true => exact absurd (P.reach_symm (by omega) ⟨1, rfl⟩) ((P.lead_iff (by omega)).1 h (f N) (by omega))
      rw [hl] at hc
      obtain ⟨p, hp, hpe⟩ := P.surj (x := N) (by omega)
      have hpN : p ≠ N := fun e => hN (by rw [e] at hpe; exact hpe)
      have G : Pm (N + 1) (fun i => if i = N then N else outN f N i) := ⟨fun i hi => by
        show (if i = N then N else outN f N i) < N + 1
        split
        · omega
        · have := Q.lt i (by omega); omega, fun i j hi hj e => by
          have e' : (if i = N then N else outN f N i) = (if j = N then N else outN f N j) := e
          by_cases h1 : i = N
          · by_cases h2 : j = N
            · omega
            · rw [if_pos h1, if_neg h2] at e'
              have := Q.lt j (by omega); omega
          · by_cases h2 : j = N
            · rw [if_neg h1, if_pos h2] at e'
              have := Q.lt i (by omega); omega
            · rw [if_neg h1, if_neg h2] at e'
              exact Q.inj i j (by omega) (by omega) e'⟩
      have h1 := inv_comp G (swp_pm (p := p) (n := N) (N := N + 1) (by omega) (by omega))
      have h2 : inv (fun i => (fun i => if i = N then N else outN f N i) (swp p N i)) (N + 1) = inv f (N + 1) := inv_congr fun i hi => by
        show (if swp p N i = N then N else outN f N (swp p N i)) = f i
        by_cases e1 : i = p
        · have : swp p N i = N := by unfold swp; rw [if_pos e1]
          rw [if_pos this, e1, hpe]
        · by_cases e2 : i = N
          · have : swp p N i = p := by unfold swp; rw [if_neg e1, if_pos e2]
            rw [this, if_neg hpN]
            unfold outN
            rw [if_pos hpe, e2]
          · have : swp p N i = i := by unfold swp; rw [if_neg e1, if_neg e2]
            rw [this, if_neg e2]
            unfold outN
            rw [if_neg (fun e => e1 (P.inj i p hi hp (by rw [e, hpe])))]
      have h3 : inv (fun i => if i = N then N else outN f N i) (N + 1) = inv (outN f N) N := by
        have h4 : inv (fun i => if i = N then N else outN f N i) N = inv (outN f N) N := inv_congr fun i hi => if_neg (by omega)
        rw [← h4]
        have h6 : sumN (fun i => if (if N = N then N else outN f N N) < (if i = N then N else outN f N i) then 1 else 0) N = 0 := by
          rw [sumN_congr N (h := fun _ => 0) (fun i hi => if_neg (by rw [if_pos rfl, if_neg (by omega)]; have := Q.lt i hi; omega)), sumN_zero]
        show sumN _ N + sumN (fun i => if (if N = N then N else outN f N N) < (if i = N then N else outN f N i) then 1 else 0) N = sumN _ N
        rw [h6]; rfl
      have h5 := swp_inv (p := p) (N := N) (by omega)
      rw [h2, h3] at h1
      rw [hc, if_neg (by simp)]
      omega
end Go.Proofs.YtgfdddknajeknaaDoor
