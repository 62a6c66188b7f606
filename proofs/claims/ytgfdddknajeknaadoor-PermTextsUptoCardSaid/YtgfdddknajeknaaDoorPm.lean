/-
  Permutations of the numbers below n as functions: how often one goes till a point comes back, which points one comes to, the least ones. No program in sight.
-/
import Derived.Test.YtgfdddknajeknaaDoorPer
namespace Go.Proofs.YtgfdddknajeknaaDoor
set_option linter.unusedVariables false

structure Pm (n : Nat) (f : Nat → Nat) : Prop where
  lt : ∀ i, i < n → f i < n
  inj : ∀ i j, i < n → j < n → f i = f j → i = j

/-- k times. -/
def it (f : Nat → Nat) : Nat → Nat → Nat
  | 0, i => i
  | k + 1, i => f (it f k i)
theorem it_add (f : Nat → Nat) (a : Nat) (i : Nat) : ∀ b, it f (b + a) i = it f b (it f a i)
  | 0 => by rw [Nat.zero_add]; rfl
  | b + 1 => by rw [show b + 1 + a = (b + a) + 1 by omega]; simp only [it]; rw [it_add f a i b]
theorem it_one (f : Nat → Nat) (i : Nat) : it f 1 i = f i := rfl
section
variable {n : Nat} {f : Nat → Nat}
theorem Pm.it_lt (P : Pm n f) {i : Nat} (hi : i < n) : ∀ k, it f k i < n
  | 0 => hi
  | k + 1 => P.lt _ (P.it_lt hi k)
theorem Pm.it_inj (P : Pm n f) {i j : Nat} (hi : i < n) (hj : j < n) : ∀ k, it f k i = it f k j → i = j
  | 0, h => h
  | k + 1, h => P.it_inj hi hj k (P.inj _ _ (P.it_lt hi k) (P.it_lt hj k) h)
/-- The least m from 1 on with which a point comes back. -/
def per (f : Nat → Nat) (n i : Nat) : Nat := ((List.range n).find? (fun m => it f (m + 1) i == i)).getD 0 + 1
theorem Pm.per_spec (P : Pm n f) {i : Nat} (hi : i < n) : it f (per f n i) i = i ∧ 1 ≤ per f n i ∧ per f n i ≤ n ∧ ∀ k, 1 ≤ k → k < per f n i → it f k i ≠ i := by
  obtain ⟨a, b, hab, hb, he⟩ := pigeon n (fun k => it f k i) (fun k _ => P.it_lt hi k)
  have hback : it f (b - a) i = i := by
    have h1 : it f b i = it f a (it f (b - a) i) := by rw [← it_add]; congr 1; omega
    have h2 : it f a i = it f b i := he
    rw [h1] at h2
    exact (P.it_inj hi (P.it_lt hi _) a h2).symm
  cases hf : (List.range n).find? (fun m => it f (m + 1) i == i) with
  | none =>
    have := List.find?_eq_none.1 hf (b - a - 1) (List.mem_range.2 (by omega))
    rw [show b - a - 1 + 1 = b - a by omega] at this
    simp [hback] at this
  | some m =>
    obtain ⟨h1, h2, h3⟩ := List.find?_range_eq_some.1 hf
    have hp : per f n i = m + 1 := by unfold per; rw [hf]; rfl
    rw [hp]
    refine ⟨by simpa using h1, by omega, by have := List.mem_range.1 h2; omega, fun k hk1 hk2 e => ?_⟩
    have := h3 (k - 1) (by omega)
    rw [show k - 1 + 1 = k by omega] at this
    simp [e] at this
theorem Pm.it_mul (P : Pm n f) {i : Nat} (hi : i < n) : ∀ k, it f (k * per f n i) i = i
  | 0 => by simp [it]
  | k + 1 => by rw [Nat.succ_mul, it_add, (P.per_spec hi).1, P.it_mul hi k]
theorem Pm.it_mod (P : Pm n f) {i : Nat} (hi : i < n) (k : Nat) : it f k i = it f (k % per f n i) i := by
  have h := Nat.mod_add_div k (per f n i)
  conv => lhs; rw [← h, Nat.mul_comm, it_add, P.it_mul hi]
theorem Pm.it_back (P : Pm n f) {i : Nat} (hi : i < n) (k : Nat) : it f k i = i ↔ k % per f n i = 0 := by
  obtain ⟨h1, h2, _, h4⟩ := P.per_spec hi
  rw [P.it_mod hi k]
  constructor
  · intro h
    rcases Nat.eq_zero_or_pos (k % per f n i) with h0 | h0
    · exact h0
    · exact absurd h (h4 _ h0 (Nat.mod_lt _ h2))
  · intro h; rw [h]; rfl
theorem Pm.it_unlike (P : Pm n f) {i a b : Nat} (hi : i < n) (hb : b < per f n i) (hab : a < b) : it f a i ≠ it f b i := by
  intro h
  have h1 : it f b i = it f a (it f (b - a) i) := by rw [← it_add]; congr 1; omega
  rw [h1] at h
  exact (P.per_spec hi).2.2.2 (b - a) (by omega) (by omega) (P.it_inj hi (P.it_lt hi _) a h).symm

/-- One comes from i to x. -/
def Reach (f : Nat → Nat) (i x : Nat) : Prop := ∃ k, x = it f k i
theorem Reach.refl (i : Nat) : Reach f i i := ⟨0, rfl⟩
theorem Reach.trans {i j x : Nat} (h : Reach f i j) (g : Reach f j x) : Reach f i x := by
  obtain ⟨a, rfl⟩ := h
  obtain ⟨b, rfl⟩ := g
  exact ⟨b + a, (it_add f a i b).symm⟩
theorem Pm.reach_symm (P : Pm n f) {i x : Nat} (hi : i < n) (h : Reach f i x) : Reach f x i := by
  obtain ⟨k, rfl⟩ := h
  have h2 := (P.per_spec hi).2.1
  refine ⟨k * per f n i - k, ?_⟩
  rw [← it_add, Nat.sub_add_cancel (Nat.le_mul_of_pos_right k h2), P.it_mul hi]
theorem Pm.reach_lt (P : Pm n f) {i x : Nat} (hi : i < n) (h : Reach f i x) : x < n := by
  obtain ⟨k, rfl⟩ := h
  exact P.it_lt hi k
theorem Pm.reach_small (P : Pm n f) {i x : Nat} (hi : i < n) (h : Reach f i x) : ∃ k, k < per f n i ∧ x = it f k i := by
  obtain ⟨k, rfl⟩ := h
  exact ⟨k % per f n i, Nat.mod_lt _ (P.per_spec hi).2.1, P.it_mod hi k⟩
/-- All points of one cycle come back alike. -/
theorem Pm.per_reach (P : Pm n f) {i x : Nat} (hi : i < n) (h : Reach f i x) : per f n x = per f n i := by
  obtain ⟨a, rfl⟩ := h
  have h1 : (fun m => it f (m + 1) (it f a i) == it f a i) = (fun m => it f (m + 1) i == i) := by
    funext m
    rw [Bool.eq_iff_iff, beq_iff_eq, beq_iff_eq, ← it_add, show m + 1 + a = a + (m + 1) by omega, it_add]
    constructor
    · exact fun h => P.it_inj (P.it_lt hi _) hi a h
    · exact fun h => by rw [h]
  unfold per
  rw [h1]
theorem Pm.reach_iff (P : Pm n f) {i x : Nat} (hi : i < n) (hx : x < n) : Reach f i x ↔ Reach f x i := ⟨P.reach_symm hi, P.reach_symm hx⟩

/-- What one comes to, from i on. -/
def orb (f : Nat → Nat) (m i : Nat) : List Nat := (List.range m).map fun k => it f k i
theorem orb_len (f : Nat → Nat) (m i : Nat) : (orb f m i).length = m := by simp [orb]
theorem orb_succ (f : Nat → Nat) (m i : Nat) : orb f (m + 1) i = orb f m i ++ [it f m i] := by simp [orb, List.range_succ]
/-- Does none ahead come to it? -/
def leadB (f : Nat → Nat) (n i : Nat) : Bool := (List.range i).all fun j => !(orb f (per f n j) j).contains i
theorem Pm.mem_orb (P : Pm n f) {i x : Nat} (hi : i < n) : x ∈ orb f (per f n i) i ↔ Reach f i x := by
  simp only [orb, List.mem_map, List.mem_range]
  constructor
  · rintro ⟨k, _, rfl⟩; exact ⟨k, rfl⟩
  · intro h
    obtain ⟨k, hk, rfl⟩ := P.reach_small hi h
    exact ⟨k, hk, rfl⟩
theorem Pm.lead_iff (P : Pm n f) {i : Nat} (hi : i < n) : leadB f n i = true ↔ ∀ j, j < i → ¬ Reach f j i := by
  simp only [leadB, List.all_eq_true, List.mem_range, Bool.not_eq_true', List.contains_eq_mem, decide_eq_false_iff_not]
  constructor
  · exact fun h j hj hr => h j hj ((P.mem_orb (by omega)).2 hr)
  · exact fun h j hj hr => h j hj ((P.mem_orb (by omega)).1 hr)
theorem Pm.lead_not (P : Pm n f) {i : Nat} (hi : i < n) (h : leadB f n i = false) : ∃ j, j < i ∧ Reach f j i :=
  Classical.byContradiction fun hno => by
    have := (P.lead_iff hi).2 fun j hj hr => hno ⟨j, hj, hr⟩
    rw [h] at this; cases this
/-- The cycles, up to k. -/
def cycL (f : Nat → Nat) (n k : Nat) : List (List Nat) := ((List.range k).filter (leadB f n)).map fun i => orb f (per f n i) i
theorem cycL_succ (f : Nat → Nat) (n k : Nat) : cycL f n (k + 1) = cycL f n k ++ (if leadB f n k then [orb f (per f n k) k] else []) := by
  unfold cycL
  rw [List.range_succ, List.filter_append, List.map_append]
  congr 1
  cases h : leadB f n k <;> simp [h]

/-- Sums of so many. -/
def sumN (g : Nat → Nat) : Nat → Nat
  | 0 => 0
  | k + 1 => sumN g k + g k
theorem sumN_congr {g h : Nat → Nat} : ∀ k, (∀ i, i < k → g i = h i) → sumN g k = sumN h k
  | 0, _ => rfl
  | k + 1, e => by simp only [sumN]; rw [sumN_congr k (fun i hi => e i (by omega)), e k (by omega)]
theorem sumN_add (g h : Nat → Nat) : ∀ k, sumN (fun i => g i + h i) k = sumN g k + sumN h k
  | 0 => rfl
  | k + 1 => by simp only [sumN]; rw [sumN_add g h k]; omega
theorem sumN_zero : ∀ k, sumN (fun _ => 0) k = 0
  | 0 => rfl
  | k + 1 => by simp only [sumN]; rw [sumN_zero k]
theorem sumN_mul (c : Nat) (g : Nat → Nat) : ∀ k, sumN (fun i => c * g i) k = c * sumN g k
  | 0 => by simp [sumN]
  | k + 1 => by simp only [sumN]; rw [sumN_mul c g k, Nat.mul_add]
theorem sumN_swap (g : Nat → Nat → Nat) (m : Nat) : ∀ k, sumN (fun i => sumN (fun j => g i j) m) k = sumN (fun j => sumN (fun i => g i j) k) m
  | 0 => by simp only [sumN]; rw [sumN_zero]
  | k + 1 => by
    simp only [sumN]
    rw [sumN_swap g m k, ← sumN_add]
theorem sumN_one {k a : Nat} (h : a < k) (g : Nat → Nat) : sumN (fun i => if i = a then g i else 0) k = g a := by
  induction k with
  | zero => omega
  | succ k ih =>
    simp only [sumN]
    by_cases e : k = a
    · subst e
      rw [sumN_congr k (h := fun _ => 0) (fun i hi => if_neg (by omega)), sumN_zero, if_pos rfl]; omega
    · rw [ih (by omega), if_neg e]; omega
theorem sumN_mem : ∀ (L : List Nat), L.Nodup → (∀ x ∈ L, x < n) → sumN (fun i => if L.contains i then 1 else 0) n = L.length
  | [], _, _ => by
    have : sumN (fun i => if ([] : List Nat).contains i then 1 else 0) n = sumN (fun _ => 0) n := sumN_congr n (fun i _ => by simp)
    rw [this, sumN_zero]; rfl
  | x :: L, hn, hl => by
    have hn' := List.nodup_cons.1 hn
    have ih := sumN_mem L hn'.2 (fun y hy => hl y (by simp [hy]))
    have : sumN (fun i => if (x :: L).contains i then 1 else 0) n = sumN (fun i => (if i = x then 1 else 0) + (if L.contains i then 1 else 0)) n := by
      refine sumN_congr n fun i _ => ?_
      by_cases e : i = x
      · subst e
        have h1 : L.contains i = false := by simpa using hn'.1
        rw [h1]
        simp
      · have h2 : (x :: L).contains i = L.contains i := by simp [e]
        rw [h2]; simp [e]
    rw [this, sumN_add, ih, sumN_one (hl x (by simp)) (fun _ => 1), List.length_cons]; omega
theorem Pm.orb_nodup (P : Pm n f) {i : Nat} (hi : i < n) : (orb f (per f n i) i).Nodup := by
  rw [List.nodup_iff_pairwise_ne, List.pairwise_iff_getElem]
  intro a b ha hb hab
  rw [orb_len] at ha hb
  simp only [orb, List.getElem_map, List.getElem_range]
  exact P.it_unlike hi hb hab
theorem Pm.orb_lt (P : Pm n f) {i : Nat} (hi : i < n) : ∀ x ∈ orb f (per f n i) i, x < n := fun x hx => P.reach_lt hi ((P.mem_orb hi).1 hx)
theorem Pm.orb_count (P : Pm n f) {i : Nat} (hi : i < n) : sumN (fun x => if (orb f (per f n i) i).contains x then 1 else 0) n = per f n i := by
  rw [sumN_mem _ (P.orb_nodup hi) (P.orb_lt hi), orb_len]
/-- Each point has one least point that comes to it. -/
theorem Pm.one_lead (P : Pm n f) {i : Nat} (hi : i < n) : ∃ a, a < n ∧ ∀ j, j < n → ((leadB f n j = true ∧ Reach f j i) ↔ j = a) := by
  obtain ⟨a, ⟨ha, hr⟩, hl⟩ := least_of (P := fun a => a < n ∧ Reach f a i) ⟨i, hi, Reach.refl i⟩
  have hlead : leadB f n a = true := (P.lead_iff ha).2 fun j hj h => hl j hj ⟨by omega, h.trans hr⟩
  refine ⟨a, ha, fun j hj => ⟨fun ⟨h1, h2⟩ => ?_, fun e => by subst e; exact ⟨hlead, hr⟩⟩⟩
  rcases Nat.lt_trichotomy j a with h | h | h
  · exact absurd ⟨hj, h2⟩ (hl j h)
  · exact h
  · exact absurd (hr.trans (P.reach_symm hj h2)) ((P.lead_iff hj).1 h1 a h)
/-- How many points come back after c times: c times as many as there are cycles of c. -/
theorem Pm.lens (P : Pm n f) (c : Nat) : sumN (fun i => if per f n i = c then 1 else 0) n = c * sumN (fun j => if leadB f n j = true ∧ per f n j = c then 1 else 0) n := by
  have h1 : sumN (fun i => if per f n i = c then 1 else 0) n = sumN (fun i => sumN (fun j => if leadB f n j = true ∧ per f n j = c then (if (orb f (per f n j) j).contains i then 1 else 0) else 0) n) n := by
    refine sumN_congr n fun i hi => ?_
    obtain ⟨a, ha, hj⟩ := P.one_lead hi
    obtain ⟨hla, hra⟩ := (hj a ha).2 rfl
    have hpa := P.per_reach ha hra
    have h2 : sumN (fun j => if leadB f n j = true ∧ per f n j = c then (if (orb f (per f n j) j).contains i then 1 else 0) else 0) n = sumN (fun j => if j = a then (if per f n i = c then 1 else 0) else 0) n := by
      refine sumN_congr n fun j hjn => ?_
      by_cases e : j = a
      · subst e
        rw [if_pos rfl, hpa]
        have hc : (orb f (per f n j) j).contains i = true := by simpa using (P.mem_orb ha).2 hra
        by_cases hcc : per f n j = c
        · rw [if_pos ⟨hla, hcc⟩, hc, if_pos hcc]; rfl
        · rw [if_neg (fun h => hcc h.2), if_neg hcc]
      · rw [if_neg e]
        by_cases hl : leadB f n j = true ∧ per f n j = c
        · rw [if_pos hl, if_neg]
          intro hcon
          exact e ((hj j hjn).1 ⟨hl.1, (P.mem_orb hjn).1 (by simpa using hcon)⟩)
        · rw [if_neg hl]
    rw [h2, sumN_one ha]
  rw [h1, sumN_swap, ← sumN_mul]
  refine sumN_congr n fun j hjn => ?_
  by_cases hl : leadB f n j = true ∧ per f n j = c
  · rw [if_pos hl, sumN_congr n (h := fun x => if (orb f (per f n j) j).contains x then 1 else 0) (fun i _ => if_pos hl), P.orb_count hjn, hl.2]; omega
  · rw [if_neg hl, sumN_congr n (h := fun _ => 0) (fun i _ => if_neg hl), sumN_zero]; rfl
end
end Go.Proofs.YtgfdddknajeknaaDoor
