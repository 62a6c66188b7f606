/-
  Orbits and stabilizers; the points that stay are, together, the order times the orbits (Cauchy, Frobenius). No program in sight.
-/
import Derived.Test.YtnbgnoimanpjnaaGfix
import Derived.Test.YtnbgnoimanpjnaaGcom
namespace Go.Proofs.Ytnbgnoimanpjnaa
set_option linter.unusedVariables false

/-- How many of a list move p to q. -/
def mvN (L : List (Nat → Nat)) (p q : Nat) : Nat := (L.filter fun a => a p == q).length
theorem count_split (n : Nat) (f : (Nat → Nat) → Nat) : ∀ L : List (Nat → Nat), (∀ a ∈ L, f a < n) → sumN (fun q => (L.filter fun a => f a == q).length) n = L.length
  | [], _ => by
    simp only [List.filter_nil, List.length_nil]
    exact sumN_zero n
  | a :: L, h => by
    have ih := count_split n f L (fun b hb => h b (by simp [hb]))
    have h1 : sumN (fun q => ((a :: L).filter fun a => f a == q).length) n = sumN (fun q => (if q = f a then 1 else 0) + (L.filter fun a => f a == q).length) n := by
      refine sumN_congr n fun q _ => ?_
      by_cases e : f a = q
      · rw [List.filter_cons, if_pos (by simp [e]), if_pos e.symm, List.length_cons]; omega
      · rw [List.filter_cons, if_neg (by simp [e]), if_neg (fun h => e h.symm)]; omega
    rw [h1, sumN_add, ih, sumN_one (h a (by simp)) (fun _ => 1)]
    simp only [List.length_cons]
    omega
theorem fix_sum (n : Nat) : ∀ L : List (Nat → Nat), sumN (fun p => mvN L p p) n = (L.map fun a => fixN a n).sum
  | [] => by
    have : sumN (fun p => mvN [] p p) n = sumN (fun _ => 0) n := sumN_congr n fun _ _ => rfl
    rw [this, sumN_zero]
    rfl
  | a :: L => by
    have ih := fix_sum n L
    have h1 : sumN (fun p => mvN (a :: L) p p) n = sumN (fun p => (if a p = p then 1 else 0) + mvN L p p) n := by
      refine sumN_congr n fun p _ => ?_
      unfold mvN
      by_cases e : a p = p
      · rw [List.filter_cons, if_pos (by simp [e]), if_pos e, List.length_cons]; omega
      · rw [List.filter_cons, if_neg (by simp [e]), if_neg e]; omega
    have h2 : ∀ k, sumN (fun p => if a p = p then 1 else 0) k = fixN a k := by
      intro k
      induction k with
      | zero => rfl
      | succ k ih => simp only [sumN]; rw [ih, fixN_succ]
    rw [h1, sumN_add, ih, h2]
    simp
theorem weigh_sum (n : Nat) (f : (Nat → Nat) → Nat) : ∀ L : List (Nat → Nat), (∀ a ∈ L, f a < n) → sumN (fun c => c * (L.filter fun a => f a == c).length) n = (L.map f).sum
  | [], _ => by
    simp only [List.filter_nil, List.length_nil, Nat.mul_zero]
    exact sumN_zero n
  | a :: L, h => by
    have ih := weigh_sum n f L (fun b hb => h b (by simp [hb]))
    have h1 : sumN (fun q => q * ((a :: L).filter fun a => f a == q).length) n = sumN (fun q => (if q = f a then q else 0) + q * (L.filter fun a => f a == q).length) n := by
      refine sumN_congr n fun q _ => ?_
      by_cases e : f a = q
      · rw [List.filter_cons, if_pos (by simp [e]), if_pos e.symm, List.length_cons, Nat.mul_add]; omega
      · rw [List.filter_cons, if_neg (by simp [e]), if_neg (fun h => e h.symm)]; omega
    rw [h1, sumN_add, ih, sumN_one (h a (by simp)) (fun q => q)]
    simp
section
variable {n : Nat} {ms : List (Nat → Nat)}
theorem mem_orb (p q : Nat) : q ∈ orbL n (GL n ms) p ↔ q < n ∧ ∃ a ∈ GL n ms, a p = q := by
  unfold orbL
  rw [List.mem_filter, List.mem_range, List.any_eq_true]
  simp only [beq_iff_eq]
theorem orb_self (hm : ∀ m ∈ ms, Mv n m) {p : Nat} (hp : p < n) : p ∈ orbL n (GL n ms) p := (mem_orb p p).2 ⟨hp, id, (mem_GL hm id).2 GenF.one, rfl⟩
theorem orb_symm (hm : ∀ m ∈ ms, Mv n m) {p q : Nat} (hp : p < n) (h : q ∈ orbL n (GL n ms) p) : p ∈ orbL n (GL n ms) q := by
  obtain ⟨_, a, ha, rfl⟩ := (mem_orb p q).1 h
  have hg := (mem_GL hm a).1 ha
  refine (mem_orb _ p).2 ⟨hp, bkF n a, (mem_GL hm _).2 (hg.bk hm), ?_⟩
  exact congrFun (comp_bk (hg.mv hm)) p
theorem orb_trans (hm : ∀ m ∈ ms, Mv n m) {p q r : Nat} (h : q ∈ orbL n (GL n ms) p) (k : r ∈ orbL n (GL n ms) q) : r ∈ orbL n (GL n ms) p := by
  obtain ⟨_, a, ha, rfl⟩ := (mem_orb p q).1 h
  obtain ⟨hr, b, hb, rfl⟩ := (mem_orb _ r).1 k
  exact (mem_orb p _).2 ⟨hr, compF a b, (mem_GL hm _).2 (((mem_GL hm a).1 ha).mul ((mem_GL hm b).1 hb)), rfl⟩
theorem mv_same (hm : ∀ m ∈ ms, Mv n m) {p q : Nat} (h : q ∈ orbL n (GL n ms) p) : mvN (GL n ms) p q = mvN (GL n ms) q q := by
  obtain ⟨_, b, hb, rfl⟩ := (mem_orb p q).1 h
  have hg := (mem_GL hm b).1 hb
  have P := hg.mv hm
  have hinj : ∀ x y, compF b x = compF b y → x = y := fun x y e => by
    have : compF (bkF n b) (compF b x) = compF (bkF n b) (compF b y) := by rw [e]
    rw [← comp_assoc, ← comp_assoc, bk_comp P] at this
    exact this
  unfold mvN
  have h2 : (((GL n ms).filter fun a => a (b p) == b p).map (compF b)).Nodup := by
    unfold List.Nodup
    rw [List.pairwise_map]
    exact ((GL_nodup n ms).filter _).imp fun h e => h (hinj _ _ e)
  rw [show ((GL n ms).filter fun a => a (b p) == b p).length = (((GL n ms).filter fun a => a (b p) == b p).map (compF b)).length by simp]
  refine same_len ((GL_nodup n ms).filter _) h2 fun x => ?_
  simp only [List.mem_filter, List.mem_map, mem_GL hm, beq_iff_eq]
  constructor
  · rintro ⟨hx, e⟩
    refine ⟨compF (bkF n b) x, ⟨(hg.bk hm).mul hx, ?_⟩, ?_⟩
    · have : bkF n b (b p) = p := congrFun (comp_bk P) p
      show x (bkF n b (b p)) = b p
      rw [this, e]
    · rw [← comp_assoc, comp_bk P]; rfl
  · rintro ⟨a, ⟨ha, e⟩, rfl⟩
    exact ⟨hg.mul ha, e⟩
/-- Over one orbit the stabilizers' orders sum up to the group's. -/
theorem orb_stab (hm : ∀ m ∈ ms, Mv n m) {p : Nat} (hp : p < n) : sumN (fun q => if (orbL n (GL n ms) p).contains q then mvN (GL n ms) q q else 0) n = (GL n ms).length := by
  rw [← count_split n (fun a => a p) (GL n ms) fun a ha => (((mem_GL hm a).1 ha).mv hm).pm.lt p hp]
  refine sumN_congr n fun q hq => ?_
  by_cases h : q ∈ orbL n (GL n ms) p
  · rw [if_pos (by rw [List.contains_iff_mem]; exact h), ← mv_same hm h]
    rfl
  · rw [if_neg (by rw [List.contains_iff_mem]; exact h)]
    symm
    refine List.length_eq_zero_iff.2 (List.filter_eq_nil_iff.2 fun a ha e => h ((mem_orb p q).2 ⟨hq, a, ha, by simpa using e⟩))
/-- Each list of the orbits is one point's orbit, of a point that was looked at. -/
theorem ors_mem {L : List (Nat → Nat)} : ∀ p, ∀ o ∈ orsL n L p, ∃ t, t < p ∧ o = orbL n L t
  | 0, o, h => by simp [orsL] at h
  | p + 1, o, h => by
    unfold orsL at h
    split at h
    · obtain ⟨t, ht, e⟩ := ors_mem p o h
      exact ⟨t, by omega, e⟩
    · rcases List.mem_append.1 h with h | h
      · obtain ⟨t, ht, e⟩ := ors_mem p o h
        exact ⟨t, by omega, e⟩
      · exact ⟨p, by omega, List.mem_singleton.1 h⟩
theorem ors_all (hm : ∀ m ∈ ms, Mv n m) : ∀ p, p ≤ n → ∀ q, q < p → (orsL n (GL n ms) p).any (fun o => o.contains q) = true
  | 0, _, q, h => by omega
  | p + 1, hp, q, hq => by
    have ih := ors_all hm p (by omega)
    unfold orsL
    split
    · rename_i h
      by_cases e : q = p
      · rw [e]; exact h
      · exact ih q (by omega)
    · rw [List.any_append]
      by_cases e : q = p
      · subst e
        simp [orb_self hm (show q < n by omega)]
      · rw [ih q (by omega)]
        rfl
theorem burn_sum (hm : ∀ m ∈ ms, Mv n m) : ∀ p, p ≤ n → sumN (fun q => if (orsL n (GL n ms) p).any (fun o => o.contains q) then mvN (GL n ms) q q else 0) n = (GL n ms).length * (orsL n (GL n ms) p).length
  | 0, _ => by
    have : sumN (fun q => if (orsL n (GL n ms) 0).any (fun o => o.contains q) then mvN (GL n ms) q q else 0) n = sumN (fun _ => 0) n := sumN_congr n fun q _ => by simp [orsL]
    rw [this, sumN_zero]
    simp [orsL]
  | p + 1, hp => by
    have ih := burn_sum hm p (by omega)
    rw [orsL]
    split
    · exact ih
    · rename_i hno
      rw [List.length_append, Nat.mul_add, ← ih]
      have h2 := orb_stab hm (show p < n by omega)
      rw [show (GL n ms).length * [orbL n (GL n ms) p].length = (GL n ms).length by simp]
      conv => rhs; rw [← h2]
      rw [← sumN_add]
      refine sumN_congr n fun q hq => ?_
      rw [List.any_append]
      by_cases h3 : q ∈ orbL n (GL n ms) p
      · have h4 : ¬ (orsL n (GL n ms) p).any (fun o => o.contains q) = true := by
          intro h5
          obtain ⟨o, ho, hqo⟩ := List.any_eq_true.1 h5
          rw [List.contains_iff_mem] at hqo
          obtain ⟨t, ht, rfl⟩ := ors_mem p o ho
          refine hno (List.any_eq_true.2 ⟨_, ho, ?_⟩)
          rw [List.contains_iff_mem]
          exact orb_trans hm hqo (orb_symm hm (by omega) h3)
        have h5 : (orsL n (GL n ms) p).any (fun o => o.contains q) = false := by simpa using h4
        rw [h5]
        simp [h3]
      · have h4 : (orbL n (GL n ms) p).contains q = false := by
          rw [← Bool.not_eq_true, List.contains_iff_mem]; exact h3
        simp only [List.any_cons, List.any_nil, h4, Bool.or_false, Bool.false_eq_true, if_false, Nat.add_zero]
theorem burnside (hm : ∀ m ∈ ms, Mv n m) : ((GL n ms).map fun a => fixN a n).sum = (GL n ms).length * (orsL n (GL n ms) n).length := by
  rw [← burn_sum hm n (Nat.le_refl _), ← fix_sum]
  exact sumN_congr n fun q hq => by rw [if_pos (ors_all hm n (Nat.le_refl _) q hq)]
end
end Go.Proofs.Ytnbgnoimanpjnaa
