/-
  The law parterrelaw1.CountContent: for every input it returns true, and what it was handed reads afterwards as before. No condition.
-/
import Derived.Test.YtnbgnoimanpjnaaCsum
import Derived.Test.YtnbgnoimanpjnaaPsgn
import Derived.Test.YtnbgnoimanpjnaaCcol
import Derived.Test.YtnbgnoimanpjnaaClone
import Derived.Test.YtnbgnoimanpjnaaGmem
import Derived.Deep.Cut
import Derived.Test.YtnbgnoimanpjnaaWints
import Derived.Test.YtnbgnoimanpjnaaGlord
import Derived.ProofKit
import Derived.OpenShut
import Derived.SizedLaws
/-
  A group that moves what has numbers: what stays is, together, the order times the classes (Cauchy, Frobenius). No program in sight.
-/
namespace Go.Proofs.Ytnbgnoimanpjnaa
set_option linter.unusedVariables false

/-- Numbers below N are moved by what makers make; those of which P says so stay among themselves. -/
structure Acts (n : Nat) (ms : List (Nat → Nat)) (N : Nat) (A : (Nat → Nat) → Nat → Nat) (P : Nat → Bool) : Prop where
  lt : ∀ a, GenF ms a → ∀ p, p < N → A a p < N
  one : ∀ p, p < N → A id p = p
  mul : ∀ a b, GenF ms a → GenF ms b → ∀ p, p < N → A (compF a b) p = A b (A a p)
  keep : ∀ a, GenF ms a → ∀ p, p < N → P (A a p) = P p
/-- Moved to q by some; the least of its class; how many move p to q. -/
def orB (L : List (Nat → Nat)) (A : (Nat → Nat) → Nat → Nat) (p q : Nat) : Bool := L.any fun a => A a p == q
def ldB (L : List (Nat → Nat)) (A : (Nat → Nat) → Nat → Nat) (p : Nat) : Bool := (List.range p).all fun q => !(orB L A p q)
def avN (L : List (Nat → Nat)) (A : (Nat → Nat) → Nat → Nat) (p q : Nat) : Nat := (L.filter fun a => A a p == q).length
/-- How many numbers stay; how many classes there are. -/
def stN (A : (Nat → Nat) → Nat → Nat) (N : Nat) (P : Nat → Bool) (a : Nat → Nat) : Nat := sumN (fun p => if P p = true ∧ A a p = p then 1 else 0) N
def clN (L : List (Nat → Nat)) (A : (Nat → Nat) → Nat → Nat) (N : Nat) (P : Nat → Bool) : Nat := sumN (fun p => if P p = true ∧ ldB L A p = true then 1 else 0) N
section
variable {n N : Nat} {ms : List (Nat → Nat)} {A : (Nat → Nat) → Nat → Nat} {P : Nat → Bool}
theorem mem_orB (hm : ∀ m ∈ ms, Mv n m) (p q : Nat) : orB (GL n ms) A p q = true ↔ ∃ a, GenF ms a ∧ A a p = q := by
  unfold orB
  rw [List.any_eq_true]
  simp only [beq_iff_eq, mem_GL hm]
theorem orB_symm (hm : ∀ m ∈ ms, Mv n m) (H : Acts n ms N A P) {p q : Nat} (hp : p < N) (h : orB (GL n ms) A p q = true) : orB (GL n ms) A q p = true := by
  obtain ⟨a, ha, rfl⟩ := (mem_orB hm p q).1 h
  refine (mem_orB hm _ p).2 ⟨bkF n a, ha.bk hm, ?_⟩
  rw [← H.mul a _ ha (ha.bk hm) p hp, comp_bk (ha.mv hm), H.one p hp]
theorem orB_trans (hm : ∀ m ∈ ms, Mv n m) (H : Acts n ms N A P) {p q r : Nat} (hp : p < N) (h : orB (GL n ms) A p q = true) (k : orB (GL n ms) A q r = true) : orB (GL n ms) A p r = true := by
  obtain ⟨a, ha, rfl⟩ := (mem_orB hm p q).1 h
  obtain ⟨b, hb, rfl⟩ := (mem_orB hm _ r).1 k
  exact (mem_orB hm p _).2 ⟨compF a b, ha.mul hb, H.mul a b ha hb p hp⟩
theorem orB_lt (hm : ∀ m ∈ ms, Mv n m) (H : Acts n ms N A P) {p q : Nat} (hp : p < N) (h : orB (GL n ms) A p q = true) : q < N := by
  obtain ⟨a, ha, rfl⟩ := (mem_orB hm p q).1 h
  exact H.lt a ha p hp
theorem av_same (hm : ∀ m ∈ ms, Mv n m) (H : Acts n ms N A P) {p q : Nat} (hp : p < N) (h : orB (GL n ms) A p q = true) : avN (GL n ms) A p q = avN (GL n ms) A q q := by
  obtain ⟨b, hg, rfl⟩ := (mem_orB hm p q).1 h
  have Q := hg.mv hm
  have hinj : ∀ x y, compF b x = compF b y → x = y := fun x y e => by
    have : compF (bkF n b) (compF b x) = compF (bkF n b) (compF b y) := by rw [e]
    rw [← comp_assoc, ← comp_assoc, bk_comp Q] at this
    exact this
  unfold avN
  have h2 : (((GL n ms).filter fun a => A a (A b p) == A b p).map (compF b)).Nodup := by
    unfold List.Nodup
    rw [List.pairwise_map]
    exact ((GL_nodup n ms).filter _).imp fun h e => h (hinj _ _ e)
  rw [show ((GL n ms).filter fun a => A a (A b p) == A b p).length = (((GL n ms).filter fun a => A a (A b p) == A b p).map (compF b)).length by simp]
  refine same_len ((GL_nodup n ms).filter _) h2 fun x => ?_
  simp only [List.mem_filter, List.mem_map, mem_GL hm, beq_iff_eq]
  constructor
  · rintro ⟨hx, e⟩
    refine ⟨compF (bkF n b) x, ⟨(hg.bk hm).mul hx, ?_⟩, ?_⟩
    · have h3 : A (bkF n b) (A b p) = p := by rw [← H.mul b _ hg (hg.bk hm) p hp, comp_bk Q, H.one p hp]
      rw [H.mul _ x (hg.bk hm) hx _ (H.lt b hg p hp), h3, e]
    · rw [← comp_assoc, comp_bk Q]; rfl
  · rintro ⟨a, ⟨ha, e⟩, rfl⟩
    exact ⟨hg.mul ha, by rw [H.mul b a hg ha p hp]; exact e⟩
theorem split_at (N : Nat) (f : (Nat → Nat) → Nat) : ∀ L : List (Nat → Nat), (∀ a ∈ L, f a < N) → sumN (fun q => (L.filter fun a => f a == q).length) N = L.length
  | [], _ => by
    simp only [List.filter_nil, List.length_nil]
    exact sumN_zero N
  | a :: L, h => by
    have ih := split_at N f L (fun b hb => h b (by simp [hb]))
    have h1 : sumN (fun q => ((a :: L).filter fun a => f a == q).length) N = sumN (fun q => (if q = f a then 1 else 0) + (L.filter fun a => f a == q).length) N := by
      refine sumN_congr N fun q _ => ?_
      by_cases e : f a = q
      · rw [List.filter_cons, if_pos (by simp [e]), if_pos e.symm, List.length_cons]; omega
      · rw [List.filter_cons, if_neg (by simp [e]), if_neg (fun h => e h.symm)]; omega
    rw [h1, sumN_add, ih, sumN_one (h a (by simp)) (fun _ => 1)]
    simp only [List.length_cons]
    omega
/-- Over one class the stabilizers' orders sum up to the group's. -/
theorem or_stab (hm : ∀ m ∈ ms, Mv n m) (H : Acts n ms N A P) {p : Nat} (hp : p < N) : sumN (fun q => if orB (GL n ms) A p q = true then avN (GL n ms) A q q else 0) N = (GL n ms).length := by
  rw [← split_at N (fun a => A a p) (GL n ms) fun a ha => H.lt a ((mem_GL hm a).1 ha) p hp]
  refine sumN_congr N fun q hq => ?_
  by_cases h : orB (GL n ms) A p q = true
  · rw [if_pos h, ← av_same hm H hp h]
    rfl
  · rw [if_neg h]
    symm
    refine List.length_eq_zero_iff.2 (List.filter_eq_nil_iff.2 fun a ha e => h ((mem_orB hm p q).2 ⟨a, (mem_GL hm a).1 ha, by simpa using e⟩))
theorem ld_iff (L : List (Nat → Nat)) (A : (Nat → Nat) → Nat → Nat) (p : Nat) : ldB L A p = true ↔ ∀ q, q < p → ¬ orB L A p q = true := by
  unfold ldB
  rw [List.all_eq_true]
  simp only [List.mem_range, Bool.not_eq_true', Bool.not_eq_true]
/-- Each has one least that comes to it. -/
theorem one_ld (hm : ∀ m ∈ ms, Mv n m) (H : Acts n ms N A P) {p : Nat} (hp : p < N) (hP : P p = true) : ∃ l, l < N ∧ ∀ j, j < N → ((P j = true ∧ ldB (GL n ms) A j = true ∧ orB (GL n ms) A j p = true) ↔ j = l) := by
  obtain ⟨l, ⟨hl, hr⟩, hmin⟩ := least_of (P := fun l => l < N ∧ orB (GL n ms) A l p = true) ⟨p, hp, (mem_orB hm p p).2 ⟨id, GenF.one, H.one p hp⟩⟩
  have hlead : ldB (GL n ms) A l = true := (ld_iff _ _ l).2 fun q hq h => hmin q hq ⟨by omega, orB_trans hm H (by omega) (orB_symm hm H hl h) hr⟩
  have hPl : ∀ j, j < N → orB (GL n ms) A j p = true → P j = true := fun j hj h => by
    obtain ⟨a, ha, e⟩ := (mem_orB hm j p).1 h
    rw [← H.keep a ha j hj, e, hP]
  refine ⟨l, hl, fun j hj => ⟨fun ⟨_, h1, h2⟩ => ?_, fun e => by subst e; exact ⟨hPl j hj hr, hlead, hr⟩⟩⟩
  rcases Nat.lt_trichotomy j l with h | h | h
  · exact absurd ⟨hj, h2⟩ (hmin j h)
  · exact h
  · exact absurd (orB_trans hm H hj h2 (orB_symm hm H hl hr)) ((ld_iff _ _ j).1 h1 l h)
theorem burn_count (hm : ∀ m ∈ ms, Mv n m) (H : Acts n ms N A P) : ((GL n ms).map fun a => stN A N P a).sum = (GL n ms).length * clN (GL n ms) A N P := by
  have h1 : ∀ L : List (Nat → Nat), (L.map fun a => stN A N P a).sum = sumN (fun p => if P p = true then avN L A p p else 0) N := by
    intro L
    induction L with
    | nil =>
      rw [sumN_congr N (h := fun _ => 0) (fun p _ => by simp [avN]), sumN_zero]
      rfl
    | cons a L ih =>
      rw [List.map_cons, List.sum_cons, ih]
      unfold stN
      rw [← sumN_add]
      refine sumN_congr N fun p _ => ?_
      by_cases hP : P p = true
      · rw [if_pos hP, if_pos hP]
        unfold avN
        by_cases e : A a p = p
        · rw [if_pos ⟨hP, e⟩, List.filter_cons, if_pos (by simp [e]), List.length_cons]; omega
        · rw [if_neg (fun h => e h.2), List.filter_cons, if_neg (by simp [e])]; omega
      · rw [if_neg (fun h => hP h.1), if_neg hP, if_neg hP]
  rw [h1]
  have h2 : sumN (fun p => if P p = true then avN (GL n ms) A p p else 0) N = sumN (fun p => sumN (fun l => if P l = true ∧ ldB (GL n ms) A l = true then (if orB (GL n ms) A l p = true then avN (GL n ms) A p p else 0) else 0) N) N := by
    refine sumN_congr N fun p hp => ?_
    by_cases hP : P p = true
    · rw [if_pos hP]
      obtain ⟨l, hl, hj⟩ := one_ld hm H hp hP
      refine Eq.trans (sumN_one hl (fun _ => avN (GL n ms) A p p)).symm (sumN_congr N fun j hjN => ?_)
      by_cases e : j = l
      · obtain ⟨a1, a2, a3⟩ := (hj j hjN).2 e
        rw [if_pos e, if_pos ⟨a1, a2⟩, if_pos a3]
      · rw [if_neg e]
        by_cases h3 : P j = true ∧ ldB (GL n ms) A j = true
        · rw [if_pos h3, if_neg (fun h => e ((hj j hjN).1 ⟨h3.1, h3.2, h⟩))]
        · rw [if_neg h3]
    · rw [if_neg hP, sumN_congr N (h := fun _ => 0) (fun l hl => ?_), sumN_zero]
      by_cases h3 : P l = true ∧ ldB (GL n ms) A l = true
      · rw [if_pos h3, if_neg]
        intro h
        obtain ⟨a, ha, e⟩ := (mem_orB hm l p).1 h
        exact hP (by rw [← e, H.keep a ha l hl]; exact h3.1)
      · rw [if_neg h3]
  rw [h2, sumN_swap]
  unfold clN
  rw [← sumN_mul]
  refine sumN_congr N fun l hl => ?_
  by_cases h3 : P l = true ∧ ldB (GL n ms) A l = true
  · rw [if_pos h3, Nat.mul_one, ← or_stab hm H hl]
    exact sumN_congr N fun p _ => if_pos h3
  · rw [if_neg h3, sumN_congr N (h := fun _ => 0) (fun p _ => if_neg h3), sumN_zero, Nat.mul_zero]
end
end Go.Proofs.Ytnbgnoimanpjnaa
/-
  Digits of numbers, the lowest first. No program in sight.
-/
namespace Go.Proofs.Ytnbgnoimanpjnaa
set_option linter.unusedVariables false

/-- The number of m digits from the i-th on, the lowest first. -/
def numF (P : Nat) (x : Nat → Nat) (i : Nat) : Nat → Nat
  | 0 => 0
  | m + 1 => x i + P * numF P x (i + 1) m
theorem numF_lt {P : Nat} {x : Nat → Nat} {N : Nat} (h : ∀ i, i < N → x i < P) : ∀ m i, i + m ≤ N → numF P x i m < P ^ m
  | 0, _, _ => by simp [numF]
  | m + 1, i, hi => by
    have h1 := numF_lt h m (i + 1) (by omega)
    have h2 := h i (by omega)
    have h3 : P * (numF P x (i + 1) m + 1) ≤ P * P ^ m := Nat.mul_le_mul (Nat.le_refl _) h1
    rw [numF, Nat.pow_succ, Nat.mul_comm (P ^ m) P]
    rw [Nat.mul_add] at h3
    omega
theorem numF_inj {P : Nat} {x y : Nat → Nat} {N : Nat} (h : ∀ i, i < N → x i < P) (h' : ∀ i, i < N → y i < P) : ∀ m i, i + m ≤ N → numF P x i m = numF P y i m → ∀ j, i ≤ j → j < i + m → x j = y j
  | 0, _, _, _, j, h1, h2 => by omega
  | m + 1, i, hi, e, j, h1, h2 => by
    have hx := h i (by omega)
    have hy := h' i (by omega)
    unfold numF at e
    have e0 : x i = y i := by
      have := congrArg (· % P) e
      simp only [Nat.add_mul_mod_self_left, Nat.mod_eq_of_lt hx, Nat.mod_eq_of_lt hy] at this
      exact this
    by_cases hj : j = i
    · rw [hj, e0]
    · refine numF_inj h h' m (i + 1) (by omega) ?_ j (by omega) (by omega)
      rw [e0] at e
      exact Nat.eq_of_mul_eq_mul_left (by omega) (Nat.add_left_cancel e)
theorem numF_congr {P : Nat} {x y : Nat → Nat} : ∀ m i, (∀ j, i ≤ j → j < i + m → x j = y j) → numF P x i m = numF P y i m
  | 0, _, _ => rfl
  | m + 1, i, h => by
    rw [numF, numF, h i (Nat.le_refl _) (by omega), numF_congr m (i + 1) fun j h1 h2 => h j (by omega) (by omega)]
theorem pow7 {P N : Nat} (hP : P ≤ 7) (hN : N ≤ 7) : P ^ N ≤ 823543 := Nat.le_trans (Nat.pow_le_pow_left hP N) (Nat.le_trans (Nat.pow_le_pow_right (by omega) hN) (by decide))
/-- The i-th digit. -/
def dgt (k c i : Nat) : Nat := c / k ^ i % k
theorem dgt_lt {k : Nat} (hk : 1 ≤ k) (c i : Nat) : dgt k c i < k := Nat.mod_lt _ hk
theorem dgt_zero (k c : Nat) : dgt k c 0 = c % k := by
  unfold dgt
  rw [Nat.pow_zero, Nat.div_one]
theorem dgt_succ (k c i : Nat) : dgt k c (i + 1) = dgt k (c / k) i := by
  unfold dgt
  rw [Nat.pow_succ, Nat.mul_comm, Nat.div_div_eq_div_mul]
theorem num_shift (k : Nat) (x : Nat → Nat) : ∀ m i, numF k x (i + 1) m = numF k (fun j => x (j + 1)) i m
  | 0, _ => rfl
  | m + 1, i => by rw [numF, numF, num_shift k x m (i + 1)]
theorem dgt_num {k : Nat} (hk : 1 ≤ k) : ∀ m {x : Nat → Nat}, (∀ i, i < m → x i < k) → ∀ {j}, j < m → dgt k (numF k x 0 m) j = x j
  | 0, _, _, j, h => by omega
  | m + 1, x, hx, j, h => by
    have h0 := hx 0 (by omega)
    rw [numF, num_shift]
    cases j with
    | zero => rw [dgt_zero, Nat.add_mul_mod_self_left, Nat.mod_eq_of_lt h0]
    | succ j =>
      rw [dgt_succ, Nat.add_mul_div_left _ _ (by omega), Nat.div_eq_of_lt h0, Nat.zero_add]
      exact dgt_num hk m (x := fun j => x (j + 1)) (fun i hi => hx (i + 1) (by omega)) (by omega)
theorem num_dgt {k : Nat} (hk : 1 ≤ k) : ∀ m c, c < k ^ m → numF k (dgt k c) 0 m = c
  | 0, c, h => by
    rw [Nat.pow_zero] at h
    rw [numF]
    omega
  | m + 1, c, h => by
    rw [numF, num_shift, dgt_zero]
    have h1 : numF k (fun j => dgt k c (j + 1)) 0 m = numF k (dgt k (c / k)) 0 m := numF_congr m 0 fun j _ _ => dgt_succ k c j
    rw [h1, num_dgt hk m (c / k) (by rw [Nat.div_lt_iff_lt_mul (by omega)]; rw [Nat.pow_succ] at h; exact h)]
    exact Nat.mod_add_div c k
theorem dgt_ext {k : Nat} (hk : 1 ≤ k) {m c c' : Nat} (h : c < k ^ m) (h' : c' < k ^ m) (e : ∀ j, j < m → dgt k c j = dgt k c' j) : c = c' := by
  rw [← num_dgt hk m c h, ← num_dgt hk m c' h']
  exact numF_congr m 0 fun j _ hj => e j (by omega)
theorem sum_range' (g : Nat → Nat) : ∀ m, ((List.range m).map g).sum = sumN g m
  | 0 => rfl
  | m + 1 => by
    rw [List.range_succ, List.map_append, List.sum_append, sum_range' g m]
    simp [sumN]
theorem sumN_filter (p : Nat → Prop) [DecidablePred p] : ∀ m, sumN (fun c => if p c then 1 else 0) m = ((List.range m).filter fun c => decide (p c)).length
  | 0 => rfl
  | m + 1 => by
    rw [sumN, sumN_filter p m, List.range_succ, List.filter_append, List.length_append]
    congr 1
    by_cases h : p m
    · rw [if_pos h, List.filter_cons_of_pos (by simp [h])]; rfl
    · rw [if_neg h, List.filter_cons_of_neg (by simp [h])]; rfl
end Go.Proofs.Ytnbgnoimanpjnaa
/-
  Colourings as numbers, and how permutations move them; those that one leaves: a colour for each cycle. No program in sight.
-/
namespace Go.Proofs.Ytnbgnoimanpjnaa
set_option linter.unusedVariables false

/-- A colouring moved: the colour of i goes to a i. -/
def colA (n k : Nat) (a : Nat → Nat) (c : Nat) : Nat := numF k (fun j => dgt k c (bkF n a j)) 0 n
theorem bk_lt {n : Nat} {a : Nat → Nat} (P : Mv n a) {j : Nat} (h : j < n) : bkF n a j < n := by
  apply Classical.byContradiction
  intro hge
  have h1 := congrFun (bk_comp P) j
  have h2 := P.st (bkF n a j) (by omega)
  have h3 : a (bkF n a j) = j := h1
  omega
theorem col_dgt {n k : Nat} (hk : 1 ≤ k) {a : Nat → Nat} {c j : Nat} (hj : j < n) : dgt k (colA n k a c) j = dgt k c (bkF n a j) :=
  dgt_num hk n (fun i _ => dgt_lt hk c _) hj
theorem col_lt {n k : Nat} (hk : 1 ≤ k) (a : Nat → Nat) (c : Nat) : colA n k a c < k ^ n := numF_lt (N := n) (fun i _ => dgt_lt hk c _) n 0 (by omega)
theorem col_acts {n k : Nat} (hk : 1 ≤ k) {ms : List (Nat → Nat)} (hm : ∀ m ∈ ms, Mv n m) (P : Nat → Bool) (hP : ∀ a, GenF ms a → ∀ c, c < k ^ n → P (colA n k a c) = P c) : Acts n ms (k ^ n) (colA n k) P where
  lt a _ c _ := col_lt hk a c
  one c hc := by
    refine dgt_ext hk (col_lt hk id c) hc fun j hj => ?_
    rw [col_dgt hk hj]
    congr 1
    have : id (bkF n id j) = j := congrFun (bk_comp (id_mv n)) j
    exact this
  mul a b ha hb c hc := by
    refine dgt_ext hk (col_lt hk _ c) (col_lt hk _ _) fun j hj => ?_
    have Q := hb.mv hm
    rw [col_dgt hk hj, col_dgt hk hj, col_dgt hk (bk_lt Q hj), bk_mul (ha.mv hm) Q]
    rfl
  keep := hP
/-- It stays just if each point has the colour of the next one. -/
theorem col_fix {n k : Nat} (hk : 1 ≤ k) {a : Nat → Nat} (P : Mv n a) {c : Nat} (hc : c < k ^ n) : colA n k a c = c ↔ ∀ i, i < n → dgt k c (a i) = dgt k c i := by
  constructor
  · intro h i hi
    have h1 := col_dgt hk (a := a) (c := c) (P.pm.lt i hi)
    rw [h] at h1
    rw [h1]
    congr 1
    exact congrFun (comp_bk P) i
  · intro h
    refine dgt_ext hk (col_lt hk a c) hc fun j hj => ?_
    rw [col_dgt hk hj, ← h _ (bk_lt P hj)]
    congr 1
    exact congrFun (bk_comp P) j

/-- The leaders of the cycles; which of them leads a point. -/
def ldL (n : Nat) (a : Nat → Nat) : List Nat := (List.range n).filter (leadB a n)
def lrI (n : Nat) (a : Nat → Nat) (i : Nat) : Nat := (ldL n a).findIdx fun l => (orb a (per a n l) l).contains i
theorem nodup_inj {l : List Nat} (h : l.Nodup) {i j : Nat} (hi : i < l.length) (hj : j < l.length) (e : l.getD i 0 = l.getD j 0) : i = j := by
  have gd : ∀ j (hj : j < l.length), l.getD j 0 = l[j] := fun j hj => by rw [List.getD_eq_getElem?_getD, List.getElem?_eq_getElem hj]; rfl
  rw [gd i hi, gd j hj] at e
  rw [List.nodup_iff_pairwise_ne, List.pairwise_iff_getElem] at h
  rcases Nat.lt_trichotomy i j with h1 | h1 | h1
  · exact absurd e (h i j hi hj h1)
  · exact h1
  · exact absurd e.symm (h j i hj hi h1)
section
variable {n : Nat} {a : Nat → Nat} (Q : Pm n a)
include Q
omit Q in
theorem mem_ldL {l : Nat} : l ∈ ldL n a ↔ l < n ∧ leadB a n l = true := by
  unfold ldL
  rw [List.mem_filter, List.mem_range]
omit Q in
theorem ldL_nodup : (ldL n a).Nodup := (List.nodup_range (n := n)).filter _
theorem lr_spec {i : Nat} (hi : i < n) : lrI n a i < (ldL n a).length ∧ Reach a ((ldL n a).getD (lrI n a i) 0) i := by
  obtain ⟨l, hl, h⟩ := Q.one_lead hi
  obtain ⟨h1, h2⟩ := (h l hl).2 rfl
  have hex : ∃ x ∈ ldL n a, (orb a (per a n x) x).contains i = true := ⟨l, mem_ldL.2 ⟨hl, h1⟩, by rw [List.contains_iff_mem]; exact (Q.mem_orb hl).2 h2⟩
  have hlt := List.findIdx_lt_length_of_exists hex
  have hq := List.findIdx_getElem (p := fun l => (orb a (per a n l) l).contains i) (xs := ldL n a) (w := hlt)
  refine ⟨hlt, ?_⟩
  have gd : ∀ j (h : j < (ldL n a).length), (ldL n a).getD j 0 = (ldL n a)[j] := fun j h => by rw [List.getD_eq_getElem?_getD, List.getElem?_eq_getElem h]; rfl
  have e := gd _ hlt
  have hm := mem_ldL.1 (List.getElem_mem hlt)
  rw [← e] at hm hq
  rw [List.contains_iff_mem] at hq
  exact (Q.mem_orb hm.1).1 hq
omit Q in
theorem ld_at {j : Nat} (hj : j < (ldL n a).length) : (ldL n a).getD j 0 < n ∧ leadB a n ((ldL n a).getD j 0) = true := by
  have e : (ldL n a).getD j 0 = (ldL n a)[j] := by
    rw [List.getD_eq_getElem?_getD, List.getElem?_eq_getElem hj]
    rfl
  rw [e]
  exact mem_ldL.1 (List.getElem_mem hj)
theorem lr_uniq {i j : Nat} (hi : i < n) (hj : j < (ldL n a).length) (h : Reach a ((ldL n a).getD j 0) i) : lrI n a i = j := by
  obtain ⟨h1, h2⟩ := lr_spec Q hi
  obtain ⟨l, hl, hu⟩ := Q.one_lead hi
  obtain ⟨a1, a2⟩ := ld_at h1
  obtain ⟨b1, b2⟩ := ld_at hj
  have e1 := (hu _ a1).1 ⟨a2, h2⟩
  have e2 := (hu _ b1).1 ⟨b2, h⟩
  exact nodup_inj ldL_nodup h1 hj (by rw [e1, e2])
theorem lr_step {i : Nat} (hi : i < n) : lrI n a (a i) = lrI n a i := by
  obtain ⟨h1, h2⟩ := lr_spec Q hi
  exact lr_uniq Q (Q.lt i hi) h1 (h2.trans ⟨1, rfl⟩)
theorem lr_lead {j : Nat} (hj : j < (ldL n a).length) : lrI n a ((ldL n a).getD j 0) = j := lr_uniq Q (ld_at hj).1 hj (Reach.refl _)
/-- What stays has one colour all along a cycle. -/
theorem same_reach {x : Nat → Nat} (h : ∀ i, i < n → x (a i) = x i) {i j : Nat} (hi : i < n) (hr : Reach a i j) : x j = x i := by
  obtain ⟨t, rfl⟩ := hr
  induction t with
  | zero => rfl
  | succ t ih => exact (h _ (Q.it_lt hi t)).trans ih
end
/-- A colour for each cycle gives a colouring. -/
def phi (n k : Nat) (a : Nat → Nat) (e : Nat) : Nat := numF k (fun i => dgt k e (lrI n a i)) 0 n
theorem sumN_list (g : Nat → Nat) (N : Nat) : sumN g N = ((List.range N).map g).sum := (sum_range' g N).symm
theorem cyK_len {n : Nat} (hn : n ≤ 7) {a : Nat → Nat} (P : Pm n a) : cyK n a = (ldL n a).length := by
  rw [cyc_lead hn P]
  unfold ldL
  have : ∀ m, sumN (fun j => if leadB a n j = true then 1 else 0) m = ((List.range m).filter (leadB a n)).length := by
    intro m
    induction m with
    | zero => rfl
    | succ m ih =>
      rw [sumN, ih, List.range_succ, List.filter_append, List.length_append]
      congr 1
      by_cases h : leadB a n m = true
      · rw [if_pos h, List.filter_cons_of_pos h]; rfl
      · rw [if_neg h, List.filter_cons_of_neg h]; rfl
  exact this n
/-- Those that stay, among those of which P says so: as many as there are colours of the cycles whose colouring P likes. -/
theorem st_count {n k : Nat} (hk : 1 ≤ k) {a : Nat → Nat} (Q : Mv n a) (P : Nat → Bool) : stN (colA n k) (k ^ n) P a = sumN (fun e => if P (phi n k a e) = true then 1 else 0) (k ^ (ldL n a).length) := by
  have hphi : ∀ e, phi n k a e < k ^ n := fun e => numF_lt (N := n) (fun i _ => dgt_lt hk e _) n 0 (by omega)
  have hd : ∀ e i, i < n → dgt k (phi n k a e) i = dgt k e (lrI n a i) := fun e i hi => dgt_num hk n (fun i _ => dgt_lt hk e _) hi
  have hfix : ∀ e, colA n k a (phi n k a e) = phi n k a e := fun e => (col_fix hk Q (hphi e)).2 fun i hi => by
    rw [hd e _ (Q.pm.lt i hi), hd e i hi, lr_step Q.pm hi]
  have hinj : ∀ e e', e < k ^ (ldL n a).length → e' < k ^ (ldL n a).length → phi n k a e = phi n k a e' → e = e' := fun e e' he he' h => by
    refine dgt_ext hk he he' fun j hj => ?_
    have h1 := (ld_at hj).1
    have h2 := hd e _ h1
    have h3 := hd e' _ h1
    rw [lr_lead Q.pm hj] at h2 h3
    rw [← h2, ← h3, h]
  have hsur : ∀ c, c < k ^ n → colA n k a c = c → ∃ e, e < k ^ (ldL n a).length ∧ phi n k a e = c := fun c hc h => by
    have hs := (col_fix hk Q hc).1 h
    refine ⟨numF k (fun j => dgt k c ((ldL n a).getD j 0)) 0 (ldL n a).length, numF_lt (N := (ldL n a).length) (fun i _ => dgt_lt hk c _) _ 0 (by omega), ?_⟩
    refine dgt_ext hk (hphi _) hc fun i hi => ?_
    obtain ⟨h1, h2⟩ := lr_spec Q.pm hi
    rw [hd _ i hi, dgt_num hk _ (fun i _ => dgt_lt hk c _) h1]
    exact (same_reach Q.pm (x := dgt k c) hs (ld_at h1).1 h2).symm
  -- both are lengths of lists with the same members
  have e1 : stN (colA n k) (k ^ n) P a = ((List.range (k ^ n)).filter fun c => P c && decide (colA n k a c = c)).length := by
    unfold stN
    rw [sumN_filter]
    congr 1
    exact List.filter_congr fun c _ => by simp
  have e2 : sumN (fun e => if P (phi n k a e) = true then 1 else 0) (k ^ (ldL n a).length) = ((List.range (k ^ (ldL n a).length)).filter fun e => P (phi n k a e)).length := by
    rw [sumN_filter]
    congr 1
    exact List.filter_congr fun c _ => by simp
  rw [e1, e2, show ((List.range (k ^ (ldL n a).length)).filter fun e => P (phi n k a e)).length = (((List.range (k ^ (ldL n a).length)).filter fun e => P (phi n k a e)).map (phi n k a)).length by rw [List.length_map]]
  refine List.Perm.length_eq ((List.perm_ext_iff_of_nodup ((List.nodup_range (n := k ^ n)).filter _) ?_).2 fun c => ?_)
  · unfold List.Nodup
    rw [List.pairwise_map]
    refine List.Pairwise.imp_of_mem (R := fun x y => x ≠ y) (fun {x y} hx hy hne h => hne (hinj x y (List.mem_range.1 (List.mem_filter.1 hx).1) (List.mem_range.1 (List.mem_filter.1 hy).1) h)) ((List.nodup_range (n := k ^ (ldL n a).length)).filter _)
  · rw [List.mem_filter, List.mem_map, List.mem_range, Bool.and_eq_true, decide_eq_true_eq]
    constructor
    · rintro ⟨hc, hp, hf⟩
      obtain ⟨e, he, rfl⟩ := hsur c hc hf
      exact ⟨e, List.mem_filter.2 ⟨List.mem_range.2 he, hp⟩, rfl⟩
    · rintro ⟨e, he, rfl⟩
      exact ⟨hphi e, (List.mem_filter.1 he).2, hfix e⟩
/-- All of them. -/
theorem st_all {n k : Nat} (hk : 1 ≤ k) (hn : n ≤ 7) {a : Nat → Nat} (Q : Mv n a) : stN (colA n k) (k ^ n) (fun _ => true) a = k ^ cyK n a := by
  rw [st_count hk Q, cyK_len hn Q.pm]
  have : ∀ m, sumN (fun e => if (fun _ : Nat => true) (phi n k a e) = true then 1 else 0) m = m := by
    intro m
    induction m with
    | zero => rfl
    | succ m ih => rw [sumN, ih]; rfl
  exact this _
theorem col_burn {n k : Nat} (hk : 1 ≤ k) (hn : n ≤ 7) {ms : List (Nat → Nat)} (hm : ∀ m ∈ ms, Mv n m) : colS n (GL n ms) k = (GL n ms).length * clN (GL n ms) (colA n k) (k ^ n) (fun _ => true) := by
  rw [← burn_count hm (col_acts hk hm (fun _ => true) fun _ _ _ _ => rfl)]
  unfold colS
  congr 1
  exact List.map_congr_left fun a ha => (st_all hk hn (((mem_GL hm a).1 ha).mv hm)).symm
end Go.Proofs.Ytnbgnoimanpjnaa
/-
  Colourings of a content: as many of each colour as asked. No program in sight.
-/
namespace Go.Proofs.Ytnbgnoimanpjnaa
set_option linter.unusedVariables false

/-- The lengths of the cycles of a kind, up to i. -/
def lsL (f : Nat → Nat) (i : Nat) : List Nat := (List.range i).flatMap fun c => List.replicate (f c) c
theorem lsL_succ (f : Nat → Nat) (i : Nat) : lsL f (i + 1) = lsL f i ++ List.replicate (f i) i := by
  unfold lsL
  rw [List.range_succ, List.flatMap_append]
  simp
theorem lsL_len (f : Nat → Nat) : ∀ i, (lsL f i).length = sumN f i
  | 0 => rfl
  | i + 1 => by rw [lsL_succ, List.length_append, List.length_replicate, lsL_len f i]; rfl
theorem lsL_lt (f : Nat → Nat) (i : Nat) : ∀ x ∈ lsL f i, x < i := fun x hx => by
  unfold lsL at hx
  rw [List.mem_flatMap] at hx
  obtain ⟨c, hc, h⟩ := hx
  rw [List.mem_range] at hc
  rw [List.eq_of_mem_replicate h]
  exact hc
theorem lsL_count (f : Nat → Nat) (x : Nat) : ∀ i, (lsL f i).count x = if x < i then f x else 0
  | 0 => rfl
  | i + 1 => by
    rw [lsL_succ, List.count_append, lsL_count f x i, List.count_replicate]
    by_cases e : i = x
    · subst e
      rw [if_neg (by omega), if_pos (by simp), if_pos (by omega), Nat.zero_add]
    · rw [if_neg (c := (i == x) = true) (by simpa using e), Nat.add_zero]
      by_cases h : x < i
      · rw [if_pos h, if_pos (by omega)]
      · rw [if_neg h, if_neg (by omega)]
/-- How many ways to give each cycle a colour, so many points of each. -/
def waysN : List Nat → List Nat → Nat
  | [], _ => 1
  | l :: ls, m => sumN (fun c => if l ≤ m.getD c 0 then waysN ls (m.set c (m.getD c 0 - l)) else 0) m.length
theorem getD_set (m : List Nat) (c d x : Nat) (hc : c < m.length) : (m.set c x).getD d 0 = if c = d then x else m.getD d 0 := by
  rw [List.getD_eq_getElem?_getD, List.getElem?_set]
  by_cases e : c = d
  · subst e
    rw [if_pos rfl, if_pos hc, if_pos rfl]
    rfl
  · rw [if_neg e, if_neg e, List.getD_eq_getElem?_getD]
theorem ways_two_steps (a b : Nat) (ls m : List Nat) : waysN (a :: b :: ls) m = sumN (fun c => sumN (fun d => if a ≤ m.getD c 0 ∧ b ≤ (m.set c (m.getD c 0 - a)).getD d 0 then waysN ls ((m.set c (m.getD c 0 - a)).set d ((m.set c (m.getD c 0 - a)).getD d 0 - b)) else 0) m.length) m.length := by
  rw [waysN]
  refine sumN_congr _ fun c _ => ?_
  by_cases h : a ≤ m.getD c 0
  · rw [if_pos h, waysN, List.length_set]
    refine sumN_congr _ fun d _ => ?_
    by_cases h2 : b ≤ (m.set c (m.getD c 0 - a)).getD d 0
    · rw [if_pos h2, if_pos ⟨h, h2⟩]
    · rw [if_neg h2, if_neg (fun e => h2 e.2)]
  · rw [if_neg h, sumN_congr _ (h := fun _ => 0) (fun d _ => if_neg (fun e => h e.1)), sumN_zero]
theorem ways_swap (a b : Nat) (ls m : List Nat) : waysN (a :: b :: ls) m = waysN (b :: a :: ls) m := by
  rw [ways_two_steps, ways_two_steps, sumN_swap]
  refine sumN_congr _ fun d hd => sumN_congr _ fun c hc => ?_
  by_cases e : c = d
  · subst e
    rw [getD_set m c c _ hc, getD_set m c c _ hc, if_pos rfl, if_pos rfl, List.set_set, List.set_set]
    by_cases h : a ≤ m.getD c 0 ∧ b ≤ m.getD c 0 - a
    · rw [if_pos h, if_pos (by omega), show m.getD c 0 - a - b = m.getD c 0 - b - a by omega]
    · rw [if_neg h, if_neg (by omega)]
  · rw [getD_set m c d _ hc, getD_set m d c _ hd, if_neg e, if_neg (c := d = c) (fun h => e h.symm), List.set_comm _ _ e]
    by_cases h : a ≤ m.getD c 0 ∧ b ≤ m.getD d 0
    · rw [if_pos h, if_pos ⟨h.2, h.1⟩]
    · rw [if_neg h, if_neg (fun e => h ⟨e.2, e.1⟩)]
theorem ways_perm {ls ls' : List Nat} (h : ls.Perm ls') : ∀ m, waysN ls m = waysN ls' m := by
  induction h with
  | nil => exact fun m => rfl
  | cons x _ ih =>
    intro m
    rw [waysN, waysN]
    refine sumN_congr _ fun c _ => ?_
    rw [ih]
  | swap x y l => exact fun m => ways_swap y x l m
  | trans _ _ ih1 ih2 => exact fun m => (ih1 m).trans (ih2 m)

theorem sumN_app (g : Nat → Nat) (a : Nat) : ∀ b, sumN g (a + b) = sumN g a + sumN (fun i => g (a + i)) b
  | 0 => rfl
  | b + 1 => by
    rw [← Nat.add_assoc, sumN, sumN_app g a b, sumN, Nat.add_assoc]
theorem sumN_head (g : Nat → Nat) (b : Nat) : sumN g (b + 1) = g 0 + sumN (fun i => g (i + 1)) b := by
  rw [Nat.add_comm b 1, sumN_app]
  have e1 : sumN g 1 = g 0 := by simp [sumN]
  rw [e1]
  congr 1
  exact sumN_congr b fun i _ => by rw [Nat.add_comm]
theorem sumN_rows (g : Nat → Nat) (k : Nat) : ∀ M, sumN g (k * M) = sumN (fun e => sumN (fun d => g (k * e + d)) k) M
  | 0 => rfl
  | M + 1 => by rw [Nat.mul_succ, sumN_app, sumN_rows g k M, sumN]
/-- The weight that the colours of e put on j. -/
def wtN (k : Nat) : List Nat → Nat → Nat → Nat
  | [], _, _ => 0
  | l :: ls, e, j => (if e % k = j then l else 0) + wtN k ls (e / k) j
theorem wt_sum (k : Nat) (j : Nat) : ∀ (ls : List Nat) (e : Nat), wtN k ls e j = sumN (fun q => if dgt k e q = j then ls.getD q 0 else 0) ls.length
  | [], e => rfl
  | l :: ls, e => by
    rw [wtN, List.length_cons, sumN_head, dgt_zero, wt_sum k j ls]
    congr 1
    refine sumN_congr _ fun q _ => ?_
    rw [dgt_succ]
    rfl
theorem getD_le_sum : ∀ (m : List Nat) (j : Nat), m.getD j 0 ≤ m.sum
  | [], j => by simp
  | a :: m, 0 => by simp
  | a :: m, j + 1 => by
    have := getD_le_sum m j
    simp at this ⊢
    omega
theorem sum_set : ∀ (m : List Nat) (d l : Nat), d < m.length → l ≤ m.getD d 0 → (m.set d (m.getD d 0 - l)).sum + l = m.sum
  | [], d, l, h, _ => by simp at h
  | a :: m, 0, l, _, h => by
    simp at h ⊢
    omega
  | a :: m, d + 1, l, hd, h => by
    have := sum_set m d l (by simpa using hd) (by simpa using h)
    simp at this ⊢
    omega
/-- Ways are colours of the cycles, counted. -/
theorem ways_cnt {k : Nat} (hk : 1 ≤ k) : ∀ (ls m : List Nat), m.length = k → m.sum = ls.sum → sumN (fun e => if (∀ j, j < k → wtN k ls e j = m.getD j 0) then 1 else 0) (k ^ ls.length) = waysN ls m
  | [], m, hm, hs => by
    have hz : ∀ j, m.getD j 0 = 0 := fun j => by
      have := getD_le_sum m j
      simp at hs
      omega
    show sumN _ 1 = 1
    simp only [sumN]
    rw [if_pos (fun j _ => by rw [hz]; rfl)]
  | l :: ls, m, hm, hs => by
    rw [List.length_cons, Nat.pow_succ, Nat.mul_comm, sumN_rows, sumN_swap, waysN, hm]
    refine sumN_congr k fun d hd => ?_
    have hdm : d < m.length := by omega
    rw [List.sum_cons] at hs
    have hmod : ∀ e, (k * e + d) % k = d := fun e => by rw [Nat.mul_add_mod, Nat.mod_eq_of_lt hd]
    have hdiv : ∀ e, (k * e + d) / k = e := fun e => by rw [Nat.mul_add_div (by omega), Nat.div_eq_of_lt hd, Nat.add_zero]
    by_cases hl : l ≤ m.getD d 0
    · rw [if_pos hl]
      have hss := sum_set m d l hdm hl
      rw [← ways_cnt hk ls (m.set d (m.getD d 0 - l)) (by rw [List.length_set, hm]) (by omega)]
      refine sumN_congr _ fun e _ => ?_
      have hiff : (∀ j, j < k → wtN k (l :: ls) (k * e + d) j = m.getD j 0) ↔ (∀ j, j < k → wtN k ls e j = (m.set d (m.getD d 0 - l)).getD j 0) := by
        refine forall_congr' fun j => forall_congr' fun hj => ?_
        rw [wtN, hmod, hdiv, getD_set m d j _ hdm]
        by_cases e2 : d = j
        · subst e2
          rw [if_pos rfl, if_pos rfl]
          omega
        · rw [if_neg e2, if_neg e2]
          omega
      by_cases h : ∀ j, j < k → wtN k ls e j = (m.set d (m.getD d 0 - l)).getD j 0
      · rw [if_pos (hiff.2 h), if_pos h]
      · rw [if_neg (fun h2 => h (hiff.1 h2)), if_neg h]
    · rw [if_neg hl, sumN_congr _ (h := fun _ => 0) (fun e _ => if_neg (fun h => hl ?_)), sumN_zero]
      have := h d hd
      rw [wtN, hmod, if_pos rfl] at this
      omega

/-- How many points have the colour j; the content is m. -/
def hsN (n k c j : Nat) : Nat := sumN (fun i => if dgt k c i = j then 1 else 0) n
def conP (n k : Nat) (m : List Nat) (c : Nat) : Bool := decide (∀ j, j < k → hsN n k c j = m.getD j 0)
section
variable {n k : Nat} {a : Nat → Nat}
/-- Moved, the content is the same. -/
theorem bk_pm (Q : Mv n a) : Pm n (bkF n a) where
  lt i h := bk_lt Q h
  inj i j hi hj e := by
    have h1 := congrFun (bk_comp Q) i
    have h2 := congrFun (bk_comp Q) j
    have h3 : a (bkF n a i) = i := h1
    have h4 : a (bkF n a j) = j := h2
    rw [← h3, ← h4, e]
theorem hs_moved (hk : 1 ≤ k) (Q : Mv n a) (c j : Nat) : hsN n k (colA n k a c) j = hsN n k c j := by
  unfold hsN
  rw [← sumN_perm (bk_pm Q) fun i => if dgt k c i = j then 1 else 0]
  refine sumN_congr n fun i hi => ?_
  rw [col_dgt hk hi]
theorem con_moved (hk : 1 ≤ k) (Q : Mv n a) (m : List Nat) (c : Nat) : conP n k m (colA n k a c) = conP n k m c := by
  unfold conP
  simp only [hs_moved hk Q]
/-- The lengths of the cycles, the least leader's first. -/
def cyl (n : Nat) (a : Nat → Nat) : List Nat := (ldL n a).map (per a n)
theorem cyl_len : (cyl n a).length = (ldL n a).length := List.length_map ..
theorem cyl_at (Q : Pm n a) {q : Nat} (hq : q < (ldL n a).length) : sumN (fun i => if q = lrI n a i then 1 else 0) n = (cyl n a).getD q 0 := by
  have h1 := (ld_at hq).1
  have h2 : (cyl n a).getD q 0 = per a n ((ldL n a).getD q 0) := by
    unfold cyl
    rw [List.getD_eq_getElem?_getD, List.getElem?_map, List.getElem?_eq_getElem hq, List.getD_eq_getElem?_getD, List.getElem?_eq_getElem hq]
    rfl
  rw [h2, ← Q.orb_count h1]
  refine sumN_congr n fun i hi => ?_
  have h3 : (orb a (per a n ((ldL n a).getD q 0)) ((ldL n a).getD q 0)).contains i = true ↔ q = lrI n a i := by
    rw [List.contains_iff_mem, Q.mem_orb h1]
    constructor
    · exact fun h => (lr_uniq Q hi hq h).symm
    · intro e
      have := (lr_spec Q hi).2
      rw [← e] at this
      exact this
  by_cases e : q = lrI n a i
  · rw [if_pos e, if_pos (h3.2 e)]
  · rw [if_neg e, if_neg (fun h => e (h3.1 h))]
theorem hs_phi (hk : 1 ≤ k) (Q : Pm n a) (e j : Nat) : hsN n k (phi n k a e) j = wtN k (cyl n a) e j := by
  rw [wt_sum, cyl_len]
  unfold hsN
  have h1 : sumN (fun i => if dgt k (phi n k a e) i = j then 1 else 0) n = sumN (fun i => sumN (fun q => if q = lrI n a i then (if dgt k e q = j then 1 else 0) else 0) (ldL n a).length) n := by
    refine sumN_congr n fun i hi => ?_
    rw [sumN_one (lr_spec Q hi).1 fun q => if dgt k e q = j then 1 else 0]
    unfold phi
    rw [dgt_num hk n (fun i _ => dgt_lt hk e _) hi]
  rw [h1, sumN_swap]
  refine sumN_congr _ fun q hq => ?_
  by_cases h : dgt k e q = j
  · simp only [if_pos h]
    exact cyl_at Q hq
  · simp only [if_neg h, ite_self]
    exact sumN_zero n
theorem sum_getD : ∀ (l : List Nat), sumN (fun q => l.getD q 0) l.length = l.sum
  | [] => rfl
  | x :: l => by
    rw [List.length_cons, sumN_head, List.sum_cons, ← sum_getD l]
    rfl
theorem sumN_ones : ∀ n, sumN (fun _ => 1) n = n
  | 0 => rfl
  | n + 1 => by rw [sumN, sumN_ones n]
theorem cyl_sum (Q : Pm n a) : (cyl n a).sum = n := by
  rw [← sum_getD, cyl_len, sumN_congr _ (h := fun q => sumN (fun i => if q = lrI n a i then 1 else 0) n) (fun q hq => (cyl_at Q hq).symm), sumN_swap]
  refine Eq.trans (sumN_congr n fun i hi => ?_) (sumN_ones n)
  exact sumN_one (lr_spec Q hi).1 fun _ => 1
theorem cyl_perm (hn : n ≤ 7) (Q : Pm n a) : (cyl n a).Perm (lsL (kdF a n n) 8) := by
  rw [List.perm_iff_count]
  intro x
  have h1 : (cyl n a).count x = kdF a n n x := by
    unfold cyl ldL kdF
    rw [sumN_filter, List.count, List.countP_map, List.countP_filter, List.countP_eq_length_filter]
    congr 1
    refine List.filter_congr fun j _ => ?_
    show (per a n j == x && leadB a n j) = _
    by_cases e1 : leadB a n j = true <;> by_cases e2 : per a n j = x <;> simp [e1, e2]
  rw [h1, lsL_count]
  by_cases h : x < 8
  · rw [if_pos h]
  · rw [if_neg h]
    unfold kdF
    rw [sumN_congr n (h := fun _ => 0) (fun j hj => if_neg fun e => ?_), sumN_zero]
    have := (Q.per_spec hj).2.2.1
    omega
theorem ls_sum (hn : n ≤ 7) (Q : Pm n a) : (lsL (kdF a n n) 8).sum = n := by rw [← (cyl_perm hn Q).sum_nat, cyl_sum Q]
/-- Of those that a permutation leaves, so many have the content m. -/
theorem st_con (hk : 1 ≤ k) (hn : n ≤ 7) (Q : Mv n a) {m : List Nat} (hm : m.length = k) (hs : m.sum = n) : stN (colA n k) (k ^ n) (conP n k m) a = waysN (lsL (kdF a n n) 8) m := by
  rw [st_count hk Q, ← ways_perm (cyl_perm hn Q.pm), ← ways_cnt hk (cyl n a) m hm (by rw [hs, cyl_sum Q.pm]), cyl_len]
  refine sumN_congr _ fun e _ => ?_
  unfold conP
  simp only [hs_phi hk Q.pm, decide_eq_true_eq]
end
/-- Over a group. -/
def conS (n : Nat) (L : List (Nat → Nat)) (m : List Nat) : Nat := (L.map fun x => waysN (lsL (kdF x n n) 8) m).sum
theorem con_burn {n k : Nat} (hk : 1 ≤ k) (hn : n ≤ 7) {ms : List (Nat → Nat)} (hm : ∀ m ∈ ms, Mv n m) {m : List Nat} (hml : m.length = k) (hs : m.sum = n) : conS n (GL n ms) m = (GL n ms).length * clN (GL n ms) (colA n k) (k ^ n) (conP n k m) := by
  rw [← burn_count hm (col_acts hk hm (conP n k m) fun a ha c _ => con_moved hk (ha.mv hm) m c)]
  unfold conS
  congr 1
  exact List.map_congr_left fun a ha => (st_con hk hn (((mem_GL hm a).1 ha).mv hm) hml hs).symm
/-- Of all contents of two colours together. -/
theorem ways_pair (l : Nat) (ls : List Nat) (a b : Nat) : waysN (l :: ls) [a, b] = (if l ≤ a then waysN ls [a - l, b] else 0) + (if l ≤ b then waysN ls [a, b - l] else 0) := by
  rw [waysN]
  show sumN _ 2 = _
  simp only [sumN]
  simp
theorem ways_all : ∀ ls : List Nat, sumN (fun i => waysN ls [i, ls.sum - i]) (ls.sum + 1) = 2 ^ ls.length
  | [] => rfl
  | l :: ls => by
    have ih := ways_all ls
    rw [List.sum_cons, List.length_cons, Nat.pow_succ, Nat.mul_two, ← ih]
    rw [sumN_congr _ fun i _ => ways_pair l ls i (l + ls.sum - i), sumN_add]
    congr 1
    · rw [Nat.add_assoc, sumN_app, sumN_congr l (h := fun _ => 0) (fun i hi => if_neg (by omega)), sumN_zero, Nat.zero_add]
      refine sumN_congr _ fun i _ => ?_
      rw [if_pos (by omega), show l + i - l = i by omega, show l + ls.sum - (l + i) = ls.sum - i by omega]
    · rw [show l + ls.sum + 1 = ls.sum + 1 + l by omega, sumN_app, sumN_congr l (h := fun _ => 0) (fun i hi => if_neg (by omega)), sumN_zero, Nat.add_zero]
      refine sumN_congr _ fun i hi => ?_
      rw [if_pos (by omega), show l + ls.sum - i - l = ls.sum - i by omega]
theorem con_all {n : Nat} (hn : n ≤ 7) : ∀ L : List (Nat → Nat), (∀ x ∈ L, Mv n x) → sumN (fun i => conS n L [i, n - i]) (n + 1) = colS n L 2
  | [], _ => sumN_zero _
  | x :: L, h => by
    have ih := con_all hn L fun y hy => h y (by simp [hy])
    have hx := (h x (by simp)).pm
    have h2 := ways_all (lsL (kdF x n n) 8)
    rw [ls_sum hn hx, lsL_len] at h2
    unfold conS colS at *
    simp only [List.map_cons, List.sum_cons]
    rw [sumN_add, ih, h2]
    rfl
/-- Each is a multiple of the order: so are the quotients' sums. -/
theorem sum_quo {M : Nat} (hM : 0 < M) {g h : Nat → Nat} (e : ∀ i, g i = M * h i) : ∀ k, sumN (fun i => g i / M) k = sumN g k / M := by
  intro k
  rw [sumN_congr k (g := g) (h := fun i => M * h i) (fun i _ => e i), sumN_mul, Nat.mul_div_cancel_left _ hM]
  exact sumN_congr k fun i _ => by rw [e, Nat.mul_div_cancel_left _ hM]
end Go.Proofs.Ytnbgnoimanpjnaa
/-
  The walks over count's lengths and ways. Conditions: few cycles, few colours, small numbers.
-/
namespace Go.Proofs.Ytnbgnoimanpjnaa
set_option linter.unusedVariables false
open Go.RowKit

theorem rep_snoc (t i : Nat) : List.replicate (t + 1) i = List.replicate t i ++ [i] := List.replicate_succ'

set_option maxHeartbeats 1000000 in
set_option maxRecDepth 100000 in
theorem lengths_k (f : Nat → Nat) (w : World) (hf : ∀ i, i < 8 → f i ≤ 7) :
    Calls Try.prog 73 #[kF (kdI f)] w fun e w' => (∃ r, e = .returned r ∧ OI w.heap.size w' r (intsL (lsL f 8))) ∧ Below w.heap.size w w' := by
  have hE : kF (kdI f) = .agg (kdC f).toArray := rfl
  rw [hE]
  have hA := hid (Arr.new w 85 (kdC f))
  have hb0 := hid ((Below.refl w.heap.size w).alloc (Nat.le_refl _) (.cells (kdC f).toArray 85))
  have r1 := hA.out.range
  have i1 : (Try.prog.info? 85).map (·.size) = some (kdC f).length := by rw [kdC_len]; kernel_rfl
  have HGX : Hid (∀ q, q < 8 → (kdC f)[q]? = some (.int .i64 ((f q : Nat) : Int))) := hid (fun q hq => kdC_get hq)
  have HF := hid hf
  have HLS := hid (lsL_succ f)
  have HLN := hid (lsL_len f)
  have HSM := hid (fun a b h => sumN_mono f (a := a) (b := b) h)
  have HSB : Hid (sumN f 8 ≤ 56) := hid (by
    have h0 := hf 0 (by omega)
    have h1 := hf 1 (by omega)
    have h2 := hf 2 (by omega)
    have h3 := hf 3 (by omega)
    have h4 := hf 4 (by omega)
    have h5 := hf 5 (by omega)
    have h6 := hf 6 (by omega)
    have h7 := hf 7 (by omega)
    simp only [sumN]
    omega)
  have HIN := hid intsL_len
  have HIS := hid intsL_snoc
  have H0 : Hid (lsL f 0 = []) := hid rfl
  clear hE hf
  generalize hcs : kdC f = cs at *
  clear hcs
  go_enter Try.func73, Try.ntmps73
  go_wp2_with (first
    | (refine wpList_load_mid rfl 85 _ rfl w.heap.size 0 rfl cs _ r1 Try.underlying85 rfl i1 ?_; clear r1)
    | fail)
  go_loopw [3, 4, 5, 7, 12] (fun v3 _ _ v7 _ wr => ∃ i : Nat, v7 = .int .i64 i ∧ i ≤ 8 ∧ OI w.heap.size wr v3 (intsL (lsL f i)) ∧ Below w.heap.size w wr) (fun _ _ _ v7 _ _ => 8 - (intOf v7).toNat)
  case atStart => exact ⟨0, rfl, Nat.zero_le _, by rw [H0.out]; exact OI.nil _ _, hb0.out⟩
  case round =>
    obtain ⟨i, rfl, hi, ho, hb⟩ := hrel
    by_cases hil : i < 8
    · have hii : (i : Int) < 8 := by omega
      have hgx := HGX.out i hil
      have hix := fun w => run_index_arr (P := Try.prog) Try.underlying85 Try.sizeOf3 Try.isAgg3 hil hgx w
      have hfi := HF.out i hil
      have hln := HLN.out i
      have hmo := HSM.out i 8 (by omega)
      have hsb := HSB.out
      have HLK := hid (HLS.out i)
      obtain ⟨fq, hfq⟩ : ∃ fq, f i = fq := ⟨_, rfl⟩
      rw [hfq] at hix hfi hgx HLK
      have HI := hid (And.intro ho hb)
      clear ho hb hfq
      generalize lsL f i = l0 at *
      go_wp2_with fail
      go_loopw [3, 12] (fun v3 v12 wr => ∃ t : Nat, v12 = .int .i64 t ∧ t ≤ fq ∧ OI w.heap.size wr v3 (intsL (l0 ++ List.replicate t i)) ∧ Below w.heap.size w wr) (fun _ v12 _ => fq - (intOf v12).toNat)
      case atStart => exact ⟨0, rfl, Nat.zero_le _, by rw [List.replicate_zero, List.append_nil]; exact HI.out.1, HI.out.2⟩
      case round =>
        clear HI
        obtain ⟨t, rfl, ht, ho, hb⟩ := hrel
        by_cases htl : t < fq
        · have hti : (t : Int) < (fq : Int) := by omega
          have hle : (intsL (l0 ++ List.replicate t i)).length ≤ 1000000000000 := by rw [HIN.out, List.length_append, List.length_replicate]; omega
          have hsz := hb.size
          have HSN : Hid (intsL (l0 ++ List.replicate (t + 1) i) = intsL (l0 ++ List.replicate t i) ++ [((i : Nat) : Int)]) := hid (by
            rw [rep_snoc, ← List.append_assoc, HIS.out])
          have HI := hid (And.intro ho hb)
          clear ho hb
          go_wp2_with (first
            | (at_builtin; refine wpList_appi wr (.tmp 14) _ 23 rfl rfl Try.underlying23 Try.info3 w.heap.size _ _ rfl HI.out.1 rfl hle hsz ?_
               intro g9 c9 w9 hown1 hg1 hg2 hg3
               have hg1' : wr.grownBy w9 u3.ownBlock := hg1
               have hb9 := HI.out.1.grown HI.out.2 hg1' hsz
               have HX := hid (And.intro hown1 hb9)
               clear hown1 hg1 hg2 hg3 hg1' hb9)
            | fail)
          go_roundw
          case rel => exact ⟨t + 1, by go_num, by omega, by rw [HSN.out]; exact HX.out.1, HX.out.2⟩
          case measure => simp [intOf] <;> omega
        · obtain rfl : t = fq := by omega
          have hti : ¬ (t : Int) < (t : Int) := by omega
          rw [← HLK.out] at ho
          have HI := hid (And.intro ho hb)
          clear ho hb
          go_wp2
          go_roundw
          case rel => exact ⟨i + 1, by go_num, by omega, HI.out.1, HI.out.2⟩
          case measure => simp [intOf] <;> omega
    · obtain rfl : i = 8 := by omega
      have hii : ¬ ((8 : Nat) : Int) < 8 := by omega
      have HI := hid (And.intro ho hb)
      clear ho hb
      go_wp2
      go_ret
      exact ⟨⟨_, rfl, HI.out.1⟩, HI.out.2⟩

theorem sumN_bd {g : Nat → Nat} {b : Nat} (h : ∀ i, g i ≤ b) : ∀ k, sumN g k ≤ k * b
  | 0 => by simp [sumN]
  | k + 1 => by
    have := sumN_bd h k
    have := h k
    rw [sumN, Nat.succ_mul]
    omega
theorem ways_bd : ∀ (ls m : List Nat), waysN ls m ≤ m.length ^ ls.length
  | [], m => by simp [waysN]
  | l :: ls, m => by
    rw [waysN, List.length_cons, Nat.pow_succ, Nat.mul_comm]
    refine sumN_bd (fun c => ?_) _
    split
    · have := ways_bd ls (m.set c (m.getD c 0 - l))
      rwa [List.length_set] at this
    · exact Nat.zero_le _
theorem ints_set (m : List Nat) (c x : Nat) : (intsL m).set c ((x : Nat) : Int) = intsL (m.set c x) := by
  unfold intsL
  rw [List.map_set]
theorem List.set_getD_self (m : List Nat) (c : Nat) (h : c < m.length) : m.set c (m.getD c 0) = m := by
  apply List.ext_getElem?
  intro i
  rw [List.getElem?_set]
  by_cases e : c = i
  · subst e
    simp [h]
  · simp [e]
theorem ints_get {m : List Nat} {c : Nat} (h : c < m.length) : (intsL m).getD c 0 = ((m.getD c 0 : Nat) : Int) := by simp [intsL, h]

set_option maxHeartbeats 4000000 in
set_option maxRecDepth 100000 in
theorem ways_ok (W : World) (K : Nat) (hK : K ≤ 8) : ∀ (ls : List Nat) (lv : Value) (m : List Nat) (g cp : Nat) (w : World), ls.length ≤ 7 → (∀ x ∈ ls, x ≤ 1000) → m.length = K → (∀ x ∈ m, x ≤ 1000) → Sl W lv (intsL ls) → Below W.heap.size W w → OI W.heap.size w (.slice (some ⟨g, 0, none⟩) K cp) (intsL m) →
    Calls Try.prog 72 #[lv, .slice (some ⟨g, 0, none⟩) K cp] w fun e w' => e = .returned (.int .i64 (waysN ls m : Nat)) ∧ OI W.heap.size w' (.slice (some ⟨g, 0, none⟩) K cp) (intsL m) ∧ Below W.heap.size W w' := by
  intro ls
  induction ls with
  | nil =>
    intro lv m g cp w _ _ hml _ hv hb ho
    obtain ⟨a, c, e⟩ := hv.len
    rw [intsL_len] at e
    subst e
    have HI := hid (And.intro ho hb)
    clear hv ho hb
    go_enter Try.func72, Try.ntmps72
    go_wp2
    go_ret
    exact ⟨rfl, HI.out.1, HI.out.2⟩
  | cons l ls ih =>
    intro lv m g cp w hl1 hlx hml hmx hv hb ho
    have HIH := hid ih
    have HW : Hid (waysN (l :: ls) m = sumN (fun c => if l ≤ m.getD c 0 then waysN ls (m.set c (m.getD c 0 - l)) else 0) K) := hid (by rw [waysN, hml])
    obtain ⟨SM, hSM⟩ : ∃ SM : Nat → Nat, SM = sumN (fun c => if l ≤ m.getD c 0 then waysN ls (m.set c (m.getD c 0 - l)) else 0) := ⟨_, rfl⟩
    have HS0 : Hid (SM 0 = 0) := hid (by rw [hSM]; rfl)
    have HSS : Hid (∀ c, SM (c + 1) = SM c + if l ≤ m.getD c 0 then waysN ls (m.set c (m.getD c 0 - l)) else 0) := hid (fun c => by rw [hSM]; rfl)
    have h8 : (8 : Nat) ^ 7 = 2097152 := by decide
    have HWB : Hid (∀ m' : List Nat, m'.length = K → waysN ls m' ≤ 2097152) := hid (fun m' hm' => by
      refine Nat.le_trans (ways_bd ls m') ?_
      rw [hm', ← h8]
      exact Nat.le_trans (Nat.pow_le_pow_left hK _) (Nat.pow_le_pow_right (by omega) (by simp at hl1; omega)))
    have HSB : Hid (∀ c, c ≤ K → SM c ≤ c * 2097152) := hid (fun c _ => by
      rw [hSM]
      refine sumN_bd (fun q => ?_) c
      split
      · exact HWB.out _ (by rw [List.length_set, hml])
      · omega)
    rw [← hSM] at HW
    clear hSM
    have hlb : l ≤ 1000 := hlx l (by simp)
    have HLX := hid (fun x hx => hlx x (List.mem_cons_of_mem _ hx))
    have HMX : Hid (∀ c, m.getD c 0 ≤ 1000) := hid (fun c => by
      rw [List.getD_eq_getElem?_getD]
      by_cases h : c < m.length
      · rw [List.getElem?_eq_getElem h]
        exact hmx _ (List.getElem_mem h)
      · rw [List.getElem?_eq_none (by omega)]
        simp)
    have HMM := hid hmx
    have HML := hid hml
    obtain ⟨a, vc, e, hc1, hc2⟩ := hv.out
    rw [intsL_len, List.length_cons] at e hc1 hc2
    obtain ⟨vb, vo, rfl, hvb, hvc⟩ := hc2 (by omega)
    have hcl := hvc 0 (by omega)
    rw [Nat.add_zero] at hcl
    rw [show (intsL (l :: ls)).getD 0 0 = ((l : Nat) : Int) from rfl] at hcl
    have HCL : Hid (∀ w1, Below W.heap.size W w1 → w1.cell? ⟨vb, vo, none⟩ = some (.int .i64 ((l : Nat) : Int))) := hid (fun w1 hb1 => (hb1.cell (p := ⟨vb, vo, none⟩) hvb).trans hcl)
    subst e
    have HTL : Hid (Sl W (.slice (if vc = 1 then some ⟨vb, vo, none⟩ else some ⟨vb, vo + 1, none⟩) ls.length (vc - 1)) (intsL ls)) := hid (by
      by_cases h1 : vc = 1
      · rw [if_pos h1]
        have : ls = [] := List.eq_nil_of_length_eq_zero (by omega)
        rw [this]
        exact Sl.nil' _ _
      · rw [if_neg h1]
        have := hv.fromc (i := 1) (by omega) h1
        rw [show (intsL (l :: ls)).drop 1 = intsL ls from rfl, show ls.length + 1 - 1 = ls.length from rfl] at this
        exact this)
    have HI := hid (And.intro ho hb)
    have hll : ls.length ≤ 6 := by simp at hl1; omega
    clear hv ho hb hcl hvc hc2 ih hlx hmx hml hl1
    go_enter Try.func72, Try.ntmps72
    go_wp2_with fail
    go_loopw [5, 6, 7, 13] (fun v5 _ _ v13 wr => ∃ c : Nat, v13 = .int .i64 c ∧ c ≤ K ∧ v5 = .int .i64 (SM c : Nat) ∧ OI W.heap.size wr (.slice (some ⟨g, 0, none⟩) K cp) (intsL m) ∧ Below W.heap.size W wr) (fun _ _ _ v13 _ => K - (intOf v13).toNat)
    case atStart => exact ⟨0, rfl, Nat.zero_le _, by rw [HS0.out]; rfl, HI.out.1, HI.out.2⟩
    case round =>
      clear HI
      obtain ⟨c, rfl, hc, rfl, ho, hb⟩ := hrel
      by_cases hcK : c < K
      · have hci : (c : Int) < (K : Int) := by omega
        have hsb := HSB.out c hc
        have hsb2 := HSB.out (c + 1) hcK
        have hss := HSS.out c
        have hmc := HMX.out c
        have hcm := ho.cell c (by rw [intsL_len, HML.out]; exact hcK)
        rw [ints_get (by rw [HML.out]; exact hcK)] at hcm
        have hfz := ho.frozen c
        have hclw := HCL.out wr hb
        obtain ⟨mc, hmce⟩ : ∃ mc, m.getD c 0 = mc := ⟨_, rfl⟩
        rw [hmce] at hcm hmc hss
        by_cases hle : l ≤ mc
        · have hlei : (l : Int) ≤ (mc : Int) := by omega
          obtain ⟨hs8, hg8⟩ := ho.stored c ((mc - l : Nat) : Int)
          rw [ints_set] at hs8
          have hcast : ((mc : Nat) : Int) - (l : Int) = ((mc - l : Nat) : Int) := by omega
          have hb8 := hb.grown hg8 hb.size (fun b e => by cases e; exact (ho.lt g rfl).1)
          rw [if_pos hle] at hss
          have HSC := hid hss
          have HX := hid (And.intro hs8 hb8)
          have hgB := (ho.lt g rfl).1
          clear ho hb hs8 hg8 hb8 hss
          go_wp2_with fail
          go_region
          generalize hW1 : wr.setCell ⟨g, c, none⟩ (Value.int .i64 ((mc - l : Nat) : Int)) = W1 at *
          clear hW1 hclw hcm hfz
          have hmm : ∀ x ∈ m.set c (mc - l), x ≤ 1000 := fun x hx => by
            rcases List.mem_or_eq_of_mem_set hx with h | h
            · exact HMM.out x h
            · omega
          have HC := hid (HIH.out _ (m.set c (mc - l)) g cp W1.drew (by omega) HLX.out (by rw [List.length_set, HML.out]) hmm HTL.out HX.out.2.drew HX.out.1.drew)
          have HWL := hid (HWB.out (m.set c (mc - l)) (by rw [List.length_set, HML.out]))
          clear hmm HX
          go_wp2_with fail
          all_goals
            have hcl2 := HC.out
            first
              | (have h1 : vc = 1 := by assumption
                 subst h1
                 rw [if_pos rfl, show 1 - 1 = 0 from rfl] at hcl2)
              | (have h1 : ¬ vc = 1 := by assumption
                 rw [if_neg h1] at hcl2)
            refine hcl2.mono ?_
            rintro e w9 ⟨rfl, ho, hb⟩
            have hsv := HWL.out
            have hclw := HCL.out w9 hb
            have hcm := ho.cell c (by rw [intsL_len, List.length_set, HML.out]; exact hcK)
            rw [ints_get (by rw [List.length_set, HML.out]; exact hcK)] at hcm
            have hge : (m.set c (mc - l)).getD c 0 = mc - l := by rw [List.getD_eq_getElem?_getD, List.getElem?_set_self (by rw [HML.out]; exact hcK)]; rfl
            rw [hge] at hcm
            have hfz := ho.frozen c
            obtain ⟨hs8, hg8⟩ := ho.stored c ((mc : Nat) : Int)
            rw [ints_set, List.set_set, ← hmce, List.set_getD_self _ c (by rw [HML.out]; exact hcK), hmce] at hs8
            have hb8 := hb.grown hg8 hb.size (fun b e => by cases e; exact hgB)
            have hadd : ((mc - l : Nat) : Int) + (l : Int) = ((mc : Nat) : Int) := by omega
            have HX := hid (And.intro hs8 hb8)
            clear ho hb hs8 hg8 hb8 hge hcl2
            obtain ⟨wv, hwv⟩ : ∃ wv, waysN ls (m.set c (mc - l)) = wv := ⟨_, rfl⟩
            rw [hwv] at HSC hsv
            simp only [hwv]
            clear HC HWL hwv
            go_wp2_with fail
            go_region
            generalize hW1 : w9.setCell ⟨g, c, none⟩ (Value.int .i64 ((mc : Nat) : Int)) = W2 at *
            clear hW1 hclw hcm hfz
            go_wp2
            go_roundw
            case rel => exact ⟨c + 1, by go_num, by omega, by rw [HSC.out]; go_num, HX.out.1.drew, HX.out.2.drew⟩
            case measure => simp [intOf] <;> omega
        · have hlei : ¬ (l : Int) ≤ (mc : Int) := by omega
          rw [if_neg hle] at hss
          have hss := hss.trans (Nat.add_zero _)
          have HSC := hid hss
          have HX := hid (And.intro ho hb)
          clear ho hb hss
          go_wp2
          go_roundw
          case rel => exact ⟨c + 1, by go_num, by omega, by rw [HSC.out], HX.out.1, HX.out.2⟩
          case measure => simp [intOf] <;> omega
      · obtain rfl : c = K := by omega
        have hci : ¬ (c : Int) < (c : Int) := by omega
        rw [← HW.out]
        have HX := hid (And.intro ho hb)
        clear ho hb
        go_wp2
        go_ret
        exact ⟨rfl, HX.out.1, HX.out.2⟩
end Go.Proofs.Ytnbgnoimanpjnaa
/-
  The walk over count.Content. Conditions: the slices can be read; numbers of 64 bits.
-/
namespace Go.Proofs.Ytnbgnoimanpjnaa
set_option linter.unusedVariables false
open Go.RowKit Go.Maps

/-- What is wrong with a content. -/
def conE (n : Nat) (m : List Int) : Int := if 8 < m.length then 3 else if m.any (fun x => decide (x < 0 ∨ (n : Int) < x)) = true then 1 else if m.sum = (n : Int) then 0 else 2
def conR (n : Nat) (L : List (Nat → Nat)) (m : List Int) : Nat := if conE n m = 0 then conS n L (m.map Int.toNat) / L.length else 0
/-- The sum of the first i. -/
def sI (m : List Int) (i : Nat) : Int := (m.take i).sum
theorem sI_succ {m : List Int} {i : Nat} (h : i < m.length) : sI m (i + 1) = sI m i + m.getD i 0 := by
  unfold sI
  rw [List.take_add_one, List.sum_append, List.getD_eq_getElem?_getD, List.getElem?_eq_getElem h]
  simp
theorem sI_all (m : List Int) : sI m m.length = m.sum := by unfold sI; rw [List.take_length]
theorem sI_bd {m : List Int} {n : Nat} (hn : n ≤ 7) : ∀ i, i ≤ m.length → (∀ j, j < i → 0 ≤ m.getD j 0 ∧ m.getD j 0 ≤ (n : Int)) → 0 ≤ sI m i ∧ sI m i ≤ 7 * i
  | 0, _, _ => by simp [sI]
  | i + 1, hi, h => by
    have h1 := sI_bd hn i (by omega) fun j hj => h j (by omega)
    have h2 := h i (by omega)
    rw [sI_succ (by omega)]
    omega
section
variable {n : Nat} {m : List Int}
theorem conE_3 (h : 8 < m.length) : conE n m = 3 := if_pos h
theorem conE_1 (h : m.length ≤ 8) {i : Nat} (hi : i < m.length) (hb : m.getD i 0 < 0 ∨ (n : Int) < m.getD i 0) : conE n m = 1 := by
  unfold conE
  rw [if_neg (by omega), if_pos]
  rw [List.any_eq_true]
  refine ⟨m.getD i 0, ?_, by simpa using hb⟩
  rw [List.getD_eq_getElem?_getD, List.getElem?_eq_getElem hi]
  exact List.getElem_mem hi
theorem con_any (h : ∀ j, j < m.length → 0 ≤ m.getD j 0 ∧ m.getD j 0 ≤ (n : Int)) : ¬ m.any (fun x => decide (x < 0 ∨ (n : Int) < x)) = true := by
  intro e
  rw [List.any_eq_true] at e
  obtain ⟨x, hx, hb⟩ := e
  obtain ⟨i, hi, rfl⟩ := List.mem_iff_getElem.1 hx
  have := h i hi
  rw [List.getD_eq_getElem?_getD, List.getElem?_eq_getElem hi, Option.getD_some] at this
  simp at hb
  omega
theorem conE_2 (h : m.length ≤ 8) (hg : ∀ j, j < m.length → 0 ≤ m.getD j 0 ∧ m.getD j 0 ≤ (n : Int)) (hs : m.sum ≠ (n : Int)) : conE n m = 2 := by
  unfold conE
  rw [if_neg (by omega), if_neg (con_any hg), if_neg hs]
theorem conE_0 (h : m.length ≤ 8) (hg : ∀ j, j < m.length → 0 ≤ m.getD j 0 ∧ m.getD j 0 ≤ (n : Int)) (hs : m.sum = (n : Int)) : conE n m = 0 := by
  unfold conE
  rw [if_neg (by omega), if_neg (con_any hg), if_pos hs]
theorem ints_nats (hg : ∀ j, j < m.length → 0 ≤ m.getD j 0 ∧ m.getD j 0 ≤ (n : Int)) : intsL (m.map Int.toNat) = m := by
  unfold intsL
  rw [List.map_map]
  refine List.ext_getElem? fun i => ?_
  rw [List.getElem?_map]
  by_cases hi : i < m.length
  · have := hg i hi
    rw [List.getD_eq_getElem?_getD, List.getElem?_eq_getElem hi, Option.getD_some] at this
    rw [List.getElem?_eq_getElem hi, Option.map_some]
    congr 1
    show ((m[i].toNat : Nat) : Int) = m[i]
    omega
  · rw [List.getElem?_eq_none (by omega)]
    rfl
theorem ints_sum : ∀ l : List Nat, (intsL l).sum = ((l.sum : Nat) : Int)
  | [] => rfl
  | x :: l => by
    show ((x : Nat) : Int) + (intsL l).sum = _
    rw [ints_sum l, List.sum_cons]
    omega
theorem nats_le {m : List Nat} {n : Nat} (hg : ∀ j, j < (intsL m).length → 0 ≤ (intsL m).getD j 0 ∧ (intsL m).getD j 0 ≤ (n : Int)) : ∀ x ∈ m, x ≤ n := by
  intro x hx
  obtain ⟨i, hi, rfl⟩ := List.mem_iff_getElem.1 hx
  have := (hg i (by rw [intsL_len]; exact hi)).2
  rw [ints_get hi, List.getD_eq_getElem?_getD, List.getElem?_eq_getElem hi, Option.getD_some] at this
  omega
/-- All that a content that is right says. -/
theorem con_zero {n : Nat} {m : List Int} (hz : conE n m = 0) : ∃ mm : List Nat, m = intsL mm ∧ m.map Int.toNat = mm ∧ mm.length ≤ 8 ∧ mm.sum = n ∧ ∀ x ∈ mm, x ≤ n := by
  unfold conE at hz
  by_cases h1 : 8 < m.length
  · rw [if_pos h1] at hz; omega
  · rw [if_neg h1] at hz
    by_cases h2 : m.any (fun x => decide (x < 0 ∨ (n : Int) < x)) = true
    · rw [if_pos h2] at hz; omega
    · rw [if_neg h2] at hz
      by_cases h3 : m.sum = (n : Int)
      · have hg : ∀ j, j < m.length → 0 ≤ m.getD j 0 ∧ m.getD j 0 ≤ (n : Int) := fun j hj => by
          apply Classical.byContradiction
          intro hb
          apply h2
          rw [List.any_eq_true]
          refine ⟨m.getD j 0, ?_, by simp only [decide_eq_true_eq]; omega⟩
          rw [List.getD_eq_getElem?_getD, List.getElem?_eq_getElem hj]
          exact List.getElem_mem hj
        have he := ints_nats hg
        refine ⟨m.map Int.toNat, he.symm, rfl, by rw [List.length_map]; omega, ?_, ?_⟩
        · rw [← he, ints_sum] at h3
          omega
        · rw [← he] at hg
          exact nats_le hg
      · rw [if_neg h3] at hz; omega
end
theorem lsL_congr {f g : Nat → Nat} : ∀ i, (∀ c, c < i → f c = g c) → lsL f i = lsL g i
  | 0, _ => rfl
  | i + 1, h => by rw [lsL_succ, lsL_succ, lsL_congr i fun c hc => h c (by omega), h i (by omega)]
/-- The ways of a kind. -/
def wyI (m : List Nat) (y : List Int) : Nat := waysN (lsL (fun i => (y.getD i 0).toNat) 8) m
theorem wyI_kd (m : List Nat) (f : Nat → Nat) : wyI m (kdI f) = waysN (lsL f 8) m := by
  unfold wyI
  rw [lsL_congr 8 fun c hc => show ((kdI f).getD c 0).toNat = f c by simp [kdI, hc]]
theorem sum_con {n : Nat} {L : List (Nat → Nat)} (m : List Nat) : ((skS n L L.length).map fun y => cnN n L y * wyI m y).sum = conS n L m := by
  have := sum_kinds (kdL n) (fun y => wyI m y) (skS n L L.length) (skS_nodup n L _) L (fun x hx => of_skS hx)
  unfold cnN conS
  refine Eq.trans this ?_
  refine congrArg List.sum (List.map_congr_left fun x _ => ?_)
  exact wyI_kd m _
theorem ways_bd7 {ls m : List Nat} (h1 : ls.length ≤ 7) (h2 : m.length ≤ 8) : waysN ls m ≤ 2097152 := by
  refine Nat.le_trans (ways_bd ls m) ?_
  rw [show 2097152 = 8 ^ 7 by decide]
  exact Nat.le_trans (Nat.pow_le_pow_left h2 _) (Nat.pow_le_pow_right (by omega) h1)
theorem conS_bd {n : Nat} {L : List (Nat → Nat)} (hn : n ≤ 7) (hL : ∀ x ∈ L, Mv n x) (hlen : L.length ≤ 5040) {m : List Nat} (hm : m.length ≤ 8) : conS n L m ≤ 10569646080 := by
  have h1 := sum_le_all (h := fun x => waysN (lsL (kdF x n n) 8) m) (A := 2097152) L fun x hx => ways_bd7 (by rw [lsL_len]; have := cyc_le hn (hL x hx).pm; unfold cyK at this; omega) hm
  have h2 : L.length * 2097152 ≤ 5040 * 2097152 := Nat.mul_le_mul hlen (Nat.le_refl _)
  unfold conS
  omega

theorem con_bad (n : Int) (v vm : Value) (ll : List (List Int)) (w : World) (hl : RL w v ll) (hE : grpE n ll ≠ 0) :
    Calls Try.prog 45 #[.int .i64 n, v, vm] w fun e w' => e = .returned (.tuple #[.int .i64 0, .int .i64 (grpE n ll)]) ∧ Below w.heap.size w w' := by
  have HO := hid (kinds_bad n v ll w hl hE)
  obtain ⟨a, c, N, rfl, hN, hc1, hc2⟩ := hl.open
  have hb : (grpE n ll != 0) = true := bne_iff_ne.2 hE
  clear hE hl hc2
  generalize grpE n ll = E at *
  go_enter Try.func45, Try.ntmps45
  go_wp2_with fail
  refine HO.out.mono ?_
  rintro e w1 ⟨rfl, hb1⟩
  have HB := hid hb1
  clear hb1
  go_wp2
  go_ret2
  exact ⟨rfl, HB.out⟩

set_option maxHeartbeats 4000000 in
set_option maxRecDepth 100000 in
theorem con_ok (n : Nat) (v vm : Value) (ll : List (List Int)) (m : List Int) (w : World) (hl : RL w v ll) (hE : grpE (n : Int) ll = 0) (hm : Sl w vm m) :
    Calls Try.prog 45 #[.int .i64 n, v, vm] w fun e w' => e = .returned (.tuple #[.int .i64 (conR n (GL n (msL n ll)) m : Nat), .int .i64 (conE n m)]) ∧ Below w.heap.size w w' := by
  have HO := hid (kinds_ok n v ll w hl hE)
  obtain ⟨n', hn', hG⟩ := gok_of hE
  obtain rfl : n = n' := by omega
  have hn7 := hG.n7
  have hn1 := hG.n1
  have hlen := GL_len9 hG
  have hfb := fac7 n hn7
  have hLm := GL_mv hG
  obtain ⟨a, c, N, rfl, hN, hc1, hc2⟩ := hl.open
  obtain ⟨am, cm, M, rfl, hM, hm1, hm2⟩ := hm.open
  have HSL := hid hm
  have HM2 := hid hm2
  clear hE hl hc2 hG hn' hm hm2
  generalize GL n (msL n ll) = L at *
  have HE3 : Hid (8 < M → conE n m = 3 ∧ conR n L m = 0) := hid (fun h => by
    have := conE_3 (n := n) (m := m) (by rw [hM.out]; exact h)
    exact ⟨this, by unfold conR; rw [this, if_neg (by decide)]⟩)
  have HE1 : Hid (M ≤ 8 → ∀ i, i < M → (m.getD i 0 < 0 ∨ (n : Int) < m.getD i 0) → conE n m = 1 ∧ conR n L m = 0) := hid (fun h i hi hb => by
    have := conE_1 (n := n) (m := m) (by rw [hM.out]; exact h) (by rw [hM.out]; exact hi) hb
    exact ⟨this, by unfold conR; rw [this, if_neg (by decide)]⟩)
  have HE2 : Hid (M ≤ 8 → (∀ j, j < M → 0 ≤ m.getD j 0 ∧ m.getD j 0 ≤ (n : Int)) → sI m M ≠ (n : Int) → conE n m = 2 ∧ conR n L m = 0) := hid (fun h hg hs => by
    rw [← hM.out] at h hg hs
    rw [sI_all] at hs
    have := conE_2 (n := n) (m := m) h hg hs
    exact ⟨this, by unfold conR; rw [this, if_neg (by decide)]⟩)
  have HE0 : Hid (M ≤ 8 → (∀ j, j < M → 0 ≤ m.getD j 0 ∧ m.getD j 0 ≤ (n : Int)) → sI m M = (n : Int) → 1 ≤ M ∧ conE n m = 0 ∧ ∃ mm : List Nat, m = intsL mm ∧ mm.length = M ∧ (∀ x ∈ mm, x ≤ 1000) ∧ conR n L m = conS n L mm / L.length) := hid (fun h hg hs => by
    rw [← hM.out] at h hg hs ⊢
    rw [sI_all] at hs
    have hz := conE_0 (n := n) (m := m) h hg hs
    obtain ⟨mm, e1, e2, e3, e4, e5⟩ := con_zero hz
    refine ⟨?_, hz, mm, e1, by rw [e1, intsL_len], fun x hx => by have := e5 x hx; omega, by unfold conR; rw [if_pos hz, e2]⟩
    apply Classical.byContradiction
    intro h0
    rw [List.eq_nil_of_length_eq_zero (l := m) (by omega)] at hs
    simp at hs
    omega)
  have HSI : Hid (∀ i, i < M → sI m (i + 1) = sI m i + m.getD i 0) := hid (fun i hi => sI_succ (by rw [hM.out]; exact hi))
  have HS0 : Hid (sI m 0 = 0) := hid (by simp [sI])
  have HSB : Hid (∀ i, i ≤ M → (∀ j, j < i → 0 ≤ m.getD j 0 ∧ m.getD j 0 ≤ (n : Int)) → 0 ≤ sI m i ∧ sI m i ≤ 7 * i) := hid (fun i hi hg => sI_bd hn7 i (by rw [hM.out]; exact hi) hg)
  have HBD := hid (fun (mm : List Nat) (h : mm.length ≤ 8) => conS_bd hn7 hLm (by omega) h)
  have HSUM := hid (fun mm : List Nat => sum_con (n := n) (L := L) mm)
  have HTE := hid (fun (mm : List Nat) (T : List (List Int)) y (h : y ∈ T) => sum_erase (fun y => cnN n L y * wyI mm y) T h)
  have HTM := hid (fun (mm : List Nat) (T : List (List Int)) y (h : y ∈ T) => sum_mem (fun y => cnN n L y * wyI mm y) T h)
  have HSK : Hid (∀ y ∈ skS n L L.length, ∃ f : Nat → Nat, y = kdI f ∧ (∀ i, f i ≤ 7) ∧ sumN f 8 ≤ 7) := hid (fun y h => by
    obtain ⟨x, hx, e⟩ := skS_of h
    exact ⟨kdF x n n, e, fun i => Nat.le_trans (kd_le x n n i) hn7, Nat.le_trans (cyc_le hn7 (hLm x hx).pm) hn7⟩)
  have HCK := hid (fun y => ckN_all (n := n) (L := L) y)
  have HM1 : L.length ≠ 0 := by omega
  have HLL := hid hM
  generalize conR n L m = RV at *
  generalize conE n m = CE at *
  generalize conS n L = CS at *
  generalize skS n L L.length = SK at *
  generalize ckN n L L.length = CK at *
  generalize L.length = G at *
  generalize sI m = SI at *
  go_enter Try.func45, Try.ntmps45
  go_wp2_with fail
  refine HO.out.mono ?_
  rintro e w1 ⟨⟨b, rfl, hbs, hkc⟩, hb1⟩
  have H1 := hid (And.intro hkc hb1)
  clear hkc hb1
  by_cases h8 : 8 < M
  · have h8i : (8 : Int) < (M : Int) := by omega
    obtain ⟨rfl, rfl⟩ := HE3.out h8
    go_wp2
    go_ret2
    exact ⟨rfl, H1.out.2⟩
  have h8i : ¬ (8 : Int) < (M : Int) := by omega
  have h8n : M ≤ 8 := by omega
  clear HE3
  go_wp2_with fail
  go_loopw [11, 13, 32] (fun v11 _ v32 wr => ∃ i : Nat, v32 = .int .i64 i ∧ i ≤ M ∧ v11 = .int .i64 (SI i) ∧ (∀ j, j < i → 0 ≤ m.getD j 0 ∧ m.getD j 0 ≤ (n : Int)) ∧ wr = w1) (fun _ _ v32 _ => M - (intOf v32).toNat)
  case atStart => exact ⟨0, rfl, Nat.zero_le _, by rw [HS0.out], fun j hj => by omega, rfl⟩
  case round =>
    obtain ⟨i, rfl, hi, rfl, hg, hw⟩ := hrel
    subst hw
    have hsb := HSB.out i hi hg
    have HG := hid hg
    clear hg
    by_cases hil : i < M
    · have hii : (i : Int) < (M : Int) := by omega
      obtain ⟨mb, mo, rfl, hmb, hmc⟩ := HM2.out (by omega)
      have hcx := (H1.out.2.cell (p := ⟨mb, mo + i, none⟩) hmb).trans (hmc i hil)
      rw [← List.getD_eq_getElem?_getD] at hcx
      have hstep := HSI.out i hil
      have h1 := HE1.out h8n i hil
      obtain ⟨x, hx⟩ : ∃ x, m.getD i 0 = x := ⟨_, rfl⟩
      have HXX := hid hx
      rw [hx] at hcx hstep h1
      clear hmc hx
      by_cases h0 : x < 0
      · obtain ⟨rfl, rfl⟩ := h1 (.inl h0)
        go_wp2
        go_ret2
        exact ⟨rfl, H1.out.2⟩
      · by_cases h2 : (n : Int) < x
        · obtain ⟨rfl, rfl⟩ := h1 (.inr h2)
          go_wp2
          go_ret2
          exact ⟨rfl, H1.out.2⟩
        · have HST := hid hstep
          clear h1 hstep
          go_wp2
          go_roundw
          case rel =>
            refine ⟨i + 1, by go_num, by omega, by rw [HST.out], fun j hj => ?_, trivial⟩
            by_cases e : j = i
            · rw [e, HXX.out]; omega
            · exact HG.out j (by omega)
          case measure => simp [intOf] <;> omega
    · obtain rfl : i = M := by omega
      have hii : ¬ (i : Int) < (i : Int) := by omega
      by_cases hs : SI i = (n : Int)
      · obtain ⟨hM1, rfl, mm, rfl, hmml, hmmx, rfl⟩ := HE0.out h8n HG.out hs
        obtain ⟨mb, mo, rfl, hmb, hmc⟩ := HM2.out hM1
        have HMX := hid hmmx
        have HML := hid hmml
        have htb := HBD.out mm (by omega)
        have HTE2 := hid (HTE.out mm)
        have HTM2 := hid (HTM.out mm)
        have HSUM2 := hid (HSUM.out mm)
        clear hmc hmmx hmml HE0 HE1 HE2 HSI HS0 HSB HBD HTE HTM HSUM HM2 HG hsb
        obtain ⟨TOT, hTOT⟩ : ∃ T, CS mm = T := ⟨_, rfl⟩
        rw [hTOT] at htb HSUM2
        have HTOT := hid hTOT
        clear hTOT
        go_wp2_with (first
          | (at_range; refine wpList_krange rfl _ rfl rfl H1.out.1 ?_; intro w2 cnt2 hrg2 hg2 hz2)
          | fail)
        have hR : Below w.heap.size w w2 := H1.out.2.grown hg2 H1.out.2.size (fun b e => by cases e)
        have H2 := hid (And.intro hrg2 hR)
        have hw1 : wr.heap.size < w2.heap.size := by omega
        have hwr := H1.out.2.size
        clear hrg2 hR hg2 hz2
        obtain ⟨w1, hw1e⟩ : ∃ w1, w1 = wr := ⟨_, rfl⟩
        subst hw1e
        go_loopw [14] (fun s wr => ∃ (T : List (List Int)) (cnt sv : Nat), s = .int .i64 (sv : Nat) ∧ KR wr b w1.heap.size (3 * G) T CK cnt ∧ Hid (∀ y ∈ T, y ∈ SK) ∧ Hid (sv + (T.map fun y => cnN n L y * wyI mm y).sum = TOT) ∧ Below w.heap.size w wr) (fun _ wr => wr.rangeLeft b w1.heap.size)
        case atStart => exact ⟨SK, _, 0, rfl, H2.out.1, hid (fun y h => h), hid (by rw [HSUM2.out, Nat.zero_add]), H2.out.2⟩
        case round =>
          clear H2 H1
          obtain ⟨T, cnt, sv, rfl, hrg, HT, HSV, hb⟩ := hrel
          have HI := hid (And.intro hrg hb)
          clear hrg hb
          go_wp2_with (first
            | (at_next; refine wpList_knext rfl _ rfl rfl HI.out.1 ?_ ?_)
            | fail)
          · intro hT
            have hsv := HSV.out
            rw [hT] at hsv
            simp only [List.map_nil, List.sum_nil, Nat.add_zero] at hsv
            have HB := hid HI.out.2
            clear HI HSV HT
            subst hsv
            have hM0 : (G : Int) ≠ 0 := by omega
            have hq : wrap64 (((sv : Nat) : Int) / ((G : Nat) : Int)) = ((sv / G : Nat) : Int) := by
              have hz := Nat.div_le_self sv G
              rw [← Int.natCast_ediv]
              generalize sv / G = z at hz ⊢
              exact IntWalk.wrap64_in _ (by omega)
            go_wp2
            go_ret2
            refine ⟨?_, HB.out⟩
            show Ending.returned (.tuple #[.int .i64 (wrap64 (((sv : Nat) : Int) / ((G : Nat) : Int))), .int .i64 0]) = _
            rw [hq, HTOT.out]
          · intro y w3 cnt3 hy hrg3 hlt3 hg3 hz3 hen
            obtain ⟨f, hf, hf7, hfs⟩ := HSK.out y (HT.out y hy)
            have hkf : kF y = .agg (kdC f).toArray := by rw [hf]; rfl
            have hwy : wyI mm y = waysN (lsL f 8) mm := by rw [hf]; exact wyI_kd mm f
            rw [HCK.out, hkf] at hen
            have hte := HTE2.out T y hy
            have htm := HTM2.out T y hy
            have hsv := HSV.out
            simp only [hwy] at hte htm
            obtain ⟨cn, hcn⟩ : ∃ cn, cnN n L y = cn := ⟨_, rfl⟩
            rw [hcn] at hte htm hen
            have HLK : Hid (∀ W, Calls Try.prog 73 #[.agg (kdC f).toArray] W fun e w' => (∃ r, e = .returned r ∧ OI W.heap.size w' r (intsL (lsL f 8))) ∧ Below W.heap.size W w') := hid (fun W => lengths_k f W fun i _ => hf7 i)
            have HLL8 : Hid ((lsL f 8).length ≤ 7) := hid (by rw [lsL_len]; exact hfs)
            have HLX : Hid (∀ x ∈ lsL f 8, x ≤ 1000) := hid (fun x hx => by have := lsL_lt f 8 x hx; omega)
            have hw3 : w1.heap.size < w3.heap.size := by
              have := HI.out.2.size
              have := hrg3.lt.2
              omega
            have hb3 := HI.out.2.grown hg3 HI.out.2.size (fun b e => by cases e; exact hwr)
            have HTY : Hid (∀ z ∈ T.erase y, z ∈ SK) := hid (fun z hz => HT.out z (List.mem_of_mem_erase hz))
            generalize lsL f 8 = ls at *
            obtain ⟨wv, hwv⟩ : ∃ wv, waysN ls mm = wv := ⟨_, rfl⟩
            rw [hwv] at hte htm hwy
            have HWV := hid hwv
            clear hwv
            have HSV2 : Hid (sv + cn * wv + ((T.erase y).map fun y => cnN n L y * wyI mm y).sum = TOT) := hid (by omega)
            have hsvb : sv + cn * wv ≤ 400000000000000000 := by have := HSV2.out; omega
            have hmul : (cn : Int) * (wv : Int) = ((cn * wv : Nat) : Int) := (Int.natCast_mul _ _).symm
            have HAZ := hid (Arr.new w3 85 (kdC fun _ => 0))
            have HI3 := hid (And.intro hrg3 hb3)
            have ix : (Try.prog.info? 85).map (·.size) = some (kdC f).length := by rw [kdC_len]; kernel_rfl
            have h1c := kdC_one f
            have hll : (kdC fun _ => 0).length = (kdC f).length := by rw [kdC_len, kdC_len]
            have hmeas : w3.rangeLeft b w1.heap.size < wr.rangeLeft b w1.heap.size := by rw [HI3.out.1.left_eq, HI.out.1.left_eq]; exact hlt3
            clear HI hrg3 hb3 hg3 hz3 hkf hte htm hsv HSV HT hy hlt3 hwy hcn
            generalize hcs : kdC f = cs at *
            clear hcs
            generalize cn * wv = add at *
            go_wp2_with (first
              | (refine wpList_store_arr rfl 85 _ _ rfl w3.heap.size cs rfl rfl HAZ.out hll ix h1c ?_
                 intro w5 hA5 hg5
                 have hB5 : Below w3.heap.size w3 w5 := ((Below.refl _ _).alloc (Nat.le_refl _) _).grown hg5 (by simp) (fun b e => by cases e; exact Nat.le_refl _)
                 have H5 := hid (And.intro hA5 hB5)
                 have r5 := hA5.range
                 clear hA5 hg5 hB5)
              | (refine wpList_load_mid rfl 85 _ rfl w3.heap.size 0 rfl cs _ r5 Try.underlying85 rfl ix ?_; clear r5)
              | fail)
            refine (HLK.out w5).mono ?_
            rintro e w6 ⟨⟨r, rfl, hr⟩, hb6⟩
            have HR6 := hid (And.intro hr hb6)
            clear hr hb6
            go_wp2_with fail
            have hwB6 := (HI3.out.2.trans (H5.out.2.mono HI3.out.2.size)).trans (HR6.out.2.mono (HI3.out.2.trans (H5.out.2.mono HI3.out.2.size)).size)
            refine (clone_ints mb mo i cm (intsL mm) w6 (Sl.below (show Sl w _ _ from HSL.out) hwB6) (by rw [intsL_len, HML.out]; omega)).mono ?_
            rintro e w7 ⟨⟨u, rfl, hu⟩, hb7⟩
            obtain ⟨g, cp, eu, _, _⟩ := hu.form (by rw [intsL_len, HML.out]; omega)
            rw [intsL_len, HML.out] at eu
            subst eu
            have HU := hid (And.intro hu hb7)
            clear hu hb7
            go_wp2_with fail
            refine (ways_ok w6 i h8n ls r mm g cp w7 HLL8.out HLX.out HML.out HMX.out (HR6.out.1.sl (by rw [intsL_len]; have := HLL8.out; omega)) HU.out.2 HU.out.1).mono ?_
            rintro e w8 ⟨rfl, hu8, hb8⟩
            have hB38 := H5.out.2.trans ((HR6.out.2.trans (hb8.mono HR6.out.2.size)).mono H5.out.2.size)
            have HB8 := hid (And.intro (HI3.out.1.below hB38) (HI3.out.2.trans (hB38.mono HI3.out.2.size)))
            have hmeas8 : w8.rangeLeft b w1.heap.size < wr.rangeLeft b w1.heap.size := by rw [HB8.out.1.left_eq, ← HI3.out.1.left_eq]; exact hmeas
            rw [HWV.out]
            clear HI3 HAZ hB38 hu8 hb8 hwB6 HU HR6
            go_wp2_with fail
            go_roundw
            case rel => exact ⟨T.erase y, cnt3, sv + add, by go_num, HB8.out.1, HTY, HSV2, HB8.out.2⟩
            case measure => exact hmeas8
      · obtain ⟨rfl, rfl⟩ := HE2.out h8n HG.out hs
        go_wp2
        go_ret2
        exact ⟨rfl, H1.out.2⟩
end Go.Proofs.Ytnbgnoimanpjnaa
/-
  The walk over parterreref1.Number. Conditions: no more than 7 digits below a base of no more than 7.
-/
namespace Go.Proofs.Ytnbgnoimanpjnaa
set_option linter.unusedVariables false
open Go.RowKit

set_option maxHeartbeats 1000000 in
set_option maxRecDepth 100000 in
theorem gnumber_ok (P N : Nat) (v : Value) (x : Nat → Nat) (w : World) (hv : Sl w v (elL N x)) (hP : 1 ≤ P) (hP2 : P ≤ 7) (hN7 : N ≤ 7) (hx : ∀ i, i < N → x i < P) :
    Calls Try.prog 63 #[v, .int .i64 P] w fun e w' => e = .returned (.int .i64 (numF P x 0 N : Nat)) ∧ Below w.heap.size w w' := by
  have HD : Hid (∀ i, i < N → numF P x i (N - i) = x i + P * numF P x (i + 1) (N - (i + 1))) := hid (fun i hi => by
    rw [show N - i = (N - (i + 1)) + 1 by omega, numF])
  have HE : Hid (numF P x N (N - N) = 0) := hid (by rw [Nat.sub_self]; rfl)
  have HL := hid hx
  have HBD : Hid (∀ i, i ≤ N → numF P x i (N - i) ≤ 823543) := hid (fun i hi => by
    have h1 := numF_lt hx (N - i) i (by omega)
    have h2 := pow7 hP2 (N := N - i) (by omega)
    omega)
  have HDN : Hid (∀ j, j < N → (elL N x)[j]?.getD 0 = ((x j : Nat) : Int)) := hid (fun j hj => elL_get hj)
  have hel := elL_len N x
  obtain ⟨f, hf⟩ : ∃ f : Nat → Nat, f = fun i => numF P x i (N - i) := ⟨_, rfl⟩
  have HF : Hid (∀ i, numF P x i (N - i) = f i) := hid (fun i => by rw [hf])
  have H0 : Hid (f 0 = numF P x 0 N) := hid (by rw [hf]; rfl)
  obtain ⟨a, c, N', rfl, hN, hl1, hl2⟩ := hv.open
  obtain rfl : N' = N := by rw [← hN.out, hel]
  have HBB := hid (Below.refl w.heap.size w)
  have HL2 := hid hl2
  generalize numF P x 0 N' = R at *
  clear hf hv hx hl2 hN hel
  go_enter Try.func63, Try.ntmps63
  go_wp2
  go_loopw [5, 6] (fun m i wr => ∃ j : Nat, j ≤ N' ∧ i = .int .i64 ((j : Int) - 1) ∧ m = .int .i64 (f j : Nat) ∧ Below w.heap.size w wr) (fun _ i _ => (intOf i + 1).toNat)
  case atStart => exact ⟨N', Nat.le_refl _, rfl, by rw [← HF.out, HE.out]; rfl, HBB.out⟩
  case round =>
    obtain ⟨j, hj, rfl, rfl, hb⟩ := hrel
    have HW := hid hb
    by_cases hpos : 1 ≤ j
    · have hge : (0 : Int) ≤ (j : Int) - 1 := by omega
      have hd := HD.out (j - 1) (by omega)
      rw [show j - 1 + 1 = j by omega, HF.out, HF.out] at hd
      obtain ⟨b, off, rfl, hbl, hc⟩ := HL2.out (by omega)
      have hce := (hb.cell (p := ⟨b, off + (j - 1), none⟩) hbl).trans (hc (j - 1) (by omega))
      rw [HDN.out _ (by omega)] at hce
      have hx := HL.out (j - 1) (by omega)
      have hbd := HBD.out j hj
      rw [HF.out] at hbd
      have hbd2 := HBD.out (j - 1) (by omega)
      rw [HF.out] at hbd2
      have n0 : (j : Int) - 1 = ((j - 1 : Nat) : Int) := by omega
      have n1 : (f j : Int) * (P : Int) = ((P * f j : Nat) : Int) := by rw [Int.natCast_mul, Int.mul_comm]
      have hm : P * f j ≤ 7 * 823543 := Nat.mul_le_mul hP2 hbd
      have n2 : ((P * f j : Nat) : Int) + ((x (j - 1) : Nat) : Int) = ((f (j - 1) : Nat) : Int) := by rw [hd]; omega
      have hjN : ((j - 1 : Nat) : Int) < (N' : Int) := by omega
      clear hb hd hc
      rw [n0]
      obtain ⟨i, hi⟩ : ∃ i, i = j - 1 := ⟨_, rfl⟩
      rw [← hi] at n0 n2 hjN hx hbd2 hce ⊢
      have hij : j = i + 1 := by omega
      clear hi
      subst hij
      generalize P * f (i + 1) = pf at *
      generalize f (i + 1) = y at *
      obtain ⟨z, hz⟩ : ∃ z, z = f i := ⟨_, rfl⟩
      rw [← hz] at n2 hbd2
      have HZ := hid hz
      clear hz
      generalize x i = av at *
      go_wp2
      go_roundw
      case rel => exact ⟨i, by omega, by go_num, by rw [HZ.out], HW.out⟩
      case measure => simp [intOf] <;> omega
    · obtain rfl : j = 0 := by omega
      clear hb
      go_wp2
      go_ret
      exact ⟨by rw [← H0.out]; rfl, HW.out⟩
end Go.Proofs.Ytnbgnoimanpjnaa
/-
  The walks over parterreref1.powerOf, Digits and moved. Conditions: few colours, no more than 7 points.
-/
namespace Go.Proofs.Ytnbgnoimanpjnaa
set_option linter.unusedVariables false
open Go.RowKit

set_option maxHeartbeats 1000000 in
theorem gpower_ok (k n : Nat) (w : World) (hk : 1 ≤ k) (hk7 : k ≤ 7) (hn : n ≤ 7) :
    Calls Try.prog 92 #[.int .i64 k, .int .i64 n] w fun e w' => e = .returned (.int .i64 (k ^ n : Nat)) ∧ w' = w := by
  have HP0 : Hid (k ^ 0 = 1) := hid rfl
  have HPS : Hid (∀ i, k ^ i * k = k ^ (i + 1)) := hid (fun i => (Nat.pow_succ k i).symm)
  have HPB := hid (fun i (hi : i ≤ n) => pow7 (P := k) (N := i) hk7 (by omega))
  have H1 : Hid (k = 1 → ∀ i, k ^ i = 1) := hid (fun e i => by rw [e, Nat.one_pow])
  obtain ⟨PW, hpw⟩ : ∃ PW : Nat → Nat, ∀ e, k ^ e = PW e := ⟨_, fun e => rfl⟩
  simp only [hpw] at HP0 HPS HPB H1 ⊢
  clear hpw
  go_enter Try.func92, Try.ntmps92
  go_wp2_with fail
  go_loopw [5, 6] (fun v5 v6 wr => ∃ i : Nat, v6 = .int .i64 i ∧ i ≤ n ∧ v5 = .int .i64 (PW i : Nat) ∧ wr = w) (fun _ v6 _ => n - (intOf v6).toNat)
  case atStart => exact ⟨0, rfl, Nat.zero_le _, by rw [HP0.out]; rfl, rfl⟩
  case round =>
    obtain ⟨i, rfl, hi, rfl, hw⟩ := hrel
    subst hw
    by_cases hil : i < n
    · have hii : (i : Int) < (n : Int) := by omega
      by_cases hk2 : 1 < k
      · have hki : (1 : Int) < (k : Int) := by omega
        have b1 := HPB.out i (by omega)
        have b2 := HPB.out (i + 1) (by omega)
        have hmul : ((PW i : Nat) : Int) * (k : Int) = ((PW (i + 1) : Nat) : Int) := by rw [← HPS.out, Int.natCast_mul]
        go_wp2
        go_roundw
        case rel => exact ⟨i + 1, by go_num, by omega, rfl, trivial⟩
        case measure => simp [intOf] <;> omega
      · have hki : ¬ (1 : Int) < (k : Int) := by omega
        have h1 := H1.out (by omega)
        have HE : Hid (PW i = PW n) := hid (by rw [h1, h1])
        clear h1
        go_wp2
        go_ret
        exact ⟨by rw [← HE.out]; rfl, rfl⟩
    · obtain rfl : i = n := by omega
      have hii : ¬ (i : Int) < (i : Int) := by omega
      go_wp2
      go_ret
      exact ⟨rfl, rfl⟩

set_option maxHeartbeats 1000000 in
theorem gdigits_ok (c k n : Nat) (w : World) (hk : 1 ≤ k) (hk7 : k ≤ 7) (hn : n ≤ 7) (hc : c ≤ 1000000) :
    Calls Try.prog 74 #[.int .i64 c, .int .i64 k, .int .i64 n] w fun e w' => (∃ r, e = .returned r ∧ OI w.heap.size w' r (elL n (dgt k c))) ∧ Below w.heap.size w w' := by
  have HD : Hid (∀ i, c / k ^ i % k = dgt k c i) := hid (fun i => rfl)
  have HQ : Hid (∀ i, c / k ^ i / k = c / k ^ (i + 1)) := hid (fun i => by rw [Nat.div_div_eq_div_mul, ← Nat.pow_succ])
  have HQ0 : Hid (c / k ^ 0 = c) := hid (by rw [Nat.pow_zero, Nat.div_one])
  have HQB := hid (fun i => Nat.div_le_self c (k ^ i))
  have HDB := hid (fun i => dgt_lt hk c i)
  have HES : Hid (∀ i x, elL (i + 1) x = elL i x ++ [((x i : Nat) : Int)]) := hid (fun i x => by
    unfold elL
    rw [List.range_succ, List.map_append]
    rfl)
  have HEL := hid elL_len
  have hb0 := hid (Below.refl w.heap.size w)
  obtain ⟨QF, hqf⟩ : ∃ QF : Nat → Nat, ∀ e, c / k ^ e = QF e := ⟨_, fun e => rfl⟩
  simp only [hqf] at HD HQ HQ0 HQB
  clear hqf
  generalize dgt k c = dg at *
  go_enter Try.func74, Try.ntmps74
  go_wp2_with fail
  go_loopw [0, 7, 8] (fun v0 v7 v8 wr => ∃ i : Nat, v8 = .int .i64 i ∧ i ≤ n ∧ v0 = .int .i64 (QF i : Nat) ∧ OI w.heap.size wr v7 (elL i dg) ∧ Below w.heap.size w wr) (fun _ _ v8 _ => n - (intOf v8).toNat)
  case atStart => exact ⟨0, rfl, Nat.zero_le _, by rw [HQ0.out], OI.nil _ _, hb0.out⟩
  case round =>
    obtain ⟨i, rfl, hi, rfl, ho, hb⟩ := hrel
    by_cases hil : i < n
    · have hii : (i : Int) < (n : Int) := by omega
      have hq := HQB.out i
      have hk0 : (k : Int) ≠ 0 := by omega
      have hrem : ((QF i : Nat) : Int) % (k : Int) = ((dg i : Nat) : Int) := by rw [← HD.out, Int.natCast_emod]
      have hdiv : ((QF i : Nat) : Int) / (k : Int) = ((QF (i + 1) : Nat) : Int) := by rw [← HQ.out, Int.natCast_ediv]
      have hq2 := HQB.out (i + 1)
      have hdb := HDB.out i
      have hl : (elL i dg).length ≤ 1000000000000 := by rw [HEL.out]; omega
      have hsz := hb.size
      have HSi := hid (HES.out i dg)
      have HI := hid (And.intro ho hb)
      clear ho hb
      go_wp2_with (first
        | (at_builtin; refine wpList_appi wr (.tmp 14) _ 23 rfl rfl Try.underlying23 Try.info3 w.heap.size _ _ rfl HI.out.1 rfl hl hsz ?_
           intro g9 c9 w9 hown1 hg1 hg2 hg3
           have hg1' : wr.grownBy w9 u7.ownBlock := hg1
           have hb9 := HI.out.1.grown HI.out.2 hg1' hsz
           have HX := hid (And.intro hown1 hb9)
           clear hown1 hg1 hg2 hg3 hg1' hb9)
        | fail)
      go_roundw
      case rel => exact ⟨i + 1, by go_num, by omega, by first | rfl | (rw [IntWalk.wrap64_in _ (by omega)]), by rw [HSi.out]; exact HX.out.1, HX.out.2⟩
      case measure => simp [intOf] <;> omega
    · obtain rfl : i = n := by omega
      have hii : ¬ (i : Int) < (i : Int) := by omega
      have HI := hid (And.intro ho hb)
      clear ho hb
      go_wp2
      go_ret
      exact ⟨⟨_, rfl, HI.out.1⟩, HI.out.2⟩

/-- What has been laid of a moved colouring after i points. -/
def mvd (n k c : Nat) (a : Nat → Nat) (i j : Nat) : Nat := if bkF n a j < i then dgt k c (bkF n a j) else 0
theorem mvd_set {n k c i : Nat} {a : Nat → Nat} (P : Mv n a) (hi : i < n) : (elL n (mvd n k c a i)).set (a i) ((dgt k c i : Nat) : Int) = elL n (mvd n k c a (i + 1)) := by
  refine List.ext_getElem? fun q => ?_
  have hbi : bkF n a (a i) = i := congrFun (comp_bk P) i
  by_cases hq : q < n
  · by_cases e : a i = q
    · subst e
      rw [List.getElem?_set_self (by rw [elL_len]; exact hq)]
      simp [elL, hq, mvd, hbi]
    · rw [List.getElem?_set_ne e]
      have hne : bkF n a q ≠ i := fun h => e (by
        rw [← h]
        exact congrFun (bk_comp P) q)
      have : (bkF n a q < i + 1) ↔ (bkF n a q < i) := by omega
      simp [elL, hq, mvd, this]
  · rw [List.getElem?_eq_none (by rw [List.length_set, elL_len]; omega), List.getElem?_eq_none (by rw [elL_len]; omega)]
theorem mvd_end {n k c : Nat} {a : Nat → Nat} (P : Mv n a) : elL n (mvd n k c a n) = elL n (fun j => dgt k c (bkF n a j)) := by
  unfold elL
  refine List.map_congr_left fun j hj => ?_
  unfold mvd
  rw [if_pos (bk_right P (List.mem_range.1 hj)).2]
theorem mvd_zero (n k c : Nat) (a : Nat → Nat) : elL n (mvd n k c a 0) = List.replicate n 0 := by
  unfold elL
  rw [show (fun i => ((mvd n k c a 0 i : Nat) : Int)) = fun _ => 0 by funext i; simp [mvd], List.map_const', List.length_range]

set_option maxHeartbeats 1000000 in
set_option maxRecDepth 100000 in
theorem gmoved_ok (c k n : Nat) (v : Value) (a : Nat → Nat) (w : World) (hk : 1 ≤ k) (hk7 : k ≤ 7) (hn1 : 1 ≤ n) (hn : n ≤ 7) (hc : c ≤ 1000000) (hv : Sl w v (elL n a)) (P : Mv n a) :
    Calls Try.prog 93 #[.int .i64 c, v, .int .i64 k] w fun e w' => e = .returned (.int .i64 (colA n k a c : Nat)) ∧ Below w.heap.size w w' := by
  have HDG := hid (gdigits_ok c k n w hk hk7 hn hc)
  obtain ⟨vb, vo, vc, rfl, hcc⟩ := hv.elFix hn1
  have HCC := hid hcc
  have HN := hid (fun (u : Value) (w1 : World) (hu : Sl w1 u (elL n (fun j => dgt k c (bkF n a j)))) => gnumber_ok k n u _ w1 hu hk hk7 hn (fun i _ => dgt_lt hk c _))
  have HE : Hid (numF k (fun j => dgt k c (bkF n a j)) 0 n = colA n k a c) := hid rfl
  have HS := hid (fun i (hi : i < n) => mvd_set (k := k) (c := c) P hi)
  have H0 := hid (mvd_zero n k c a)
  have HF := hid (mvd_end (k := k) (c := c) P)
  have HAL := hid (fun i (hi : i < n) => P.pm.lt i hi)
  have HEL := hid elL_len
  have HDL : Hid (∀ i, i < n → (elL n (dgt k c)).getD i 0 = ((dgt k c i : Nat) : Int)) := hid (fun i hi => by rw [List.getD_eq_getElem?_getD, elL_get hi])
  have HDB := hid (fun i => dgt_lt hk c i)
  clear hcc hv
  generalize numF k (fun j => dgt k c (bkF n a j)) 0 n = R at *
  generalize (fun j => dgt k c (bkF n a j)) = mf at *
  generalize mvd n k c a = MD at *
  generalize dgt k c = dg at *
  go_enter Try.func93, Try.ntmps93
  go_wp2_with fail
  refine HDG.out.mono ?_
  rintro e w1 ⟨⟨r, rfl, hr⟩, hb1⟩
  obtain ⟨g1, c1, e1, hg1a, hg1b⟩ := hr.form (by rw [HEL.out]; omega)
  rw [HEL.out] at e1
  subst e1
  have H1 := hid (And.intro hr hb1)
  clear hr hb1
  go_wp2_with (at_make; refine wpList_mk (w := w1) _ _ 23 3 (.int .i64 0) 8 rfl rfl Try.underlying23 Try.info3 rfl (by decide) w1.heap.size _ n rfl rfl rfl (by omega) (Nat.le_refl _) ?_; intro w6 hs6 hgr6 hz6)
  have hoi : OI w1.heap.size w6 (.slice (some ⟨w1.heap.size, 0, none⟩) n n) (elL n (MD 0)) := by
    unfold OI
    rw [H0.out, List.map_replicate]
    exact hs6
  have hb6 : Below w1.heap.size w1 w6 := (Below.refl _ _).grown hgr6 (Nat.le_refl _) (fun k h => by cases h)
  have H6 := hid (And.intro hoi (And.intro (H1.out.1.below hb6) (H1.out.2.trans (hb6.mono H1.out.2.size))))
  have hww := H1.out.2.size
  clear hs6 hgr6 hoi hb6
  go_loopw [9] (fun v9 wr => ∃ i : Nat, v9 = .int .i64 i ∧ i ≤ n ∧ OI w1.heap.size wr (.slice (some ⟨w1.heap.size, 0, none⟩) n n) (elL n (MD i)) ∧ OI w.heap.size wr (.slice (some ⟨g1, 0, none⟩) n c1) (elL n dg) ∧ Below w.heap.size w wr) (fun v9 _ => n - (intOf v9).toNat)
  case atStart => exact ⟨0, rfl, Nat.zero_le _, H6.out.1, H6.out.2.1, H6.out.2.2⟩
  case round =>
    clear H6 hz6
    obtain ⟨i, rfl, hi, ho, hd, hb⟩ := hrel
    by_cases hil : i < n
    · have hii : (i : Int) < (n : Int) := by omega
      have ha := HAL.out i hil
      have hca := HCC.out wr hb i hil
      have hcd := hd.cell i (by rw [HEL.out]; exact hil)
      rw [HDL.out i hil] at hcd
      have hfz := ho.frozen (a i)
      have hce := ho.cell (a i) (by rw [HEL.out]; exact ha)
      obtain ⟨hs8, hg8⟩ := ho.stored (a i) ((dg i : Nat) : Int)
      rw [HS.out i hil] at hs8
      have hd8 := hd.kept hg8 (.inr (by simp [Value.ownBlock]; omega))
      have hb8 := hb.grown hg8 hb.size (fun b e => by cases e; exact hww)
      have hai : ((a i : Nat) : Int) < (n : Int) := by omega
      have HX := hid (And.intro hs8 (And.intro hd8 hb8))
      clear ho hd hb hs8 hg8 hd8 hb8
      generalize a i = ai at *
      generalize dg i = di at *
      generalize (elL n (MD i)).getD ai 0 = old at *
      go_wp2_with fail
      go_region
      all_goals go_wp2
      all_goals go_roundw
      all_goals first
        | (case rel => exact ⟨i + 1, by go_num, by omega, HX.out.1.drewN _, HX.out.2.1.drewN _, below_drewN HX.out.2.2 _⟩)
        | (case measure => simp [intOf] <;> omega)
    · obtain rfl : i = n := by omega
      have hii : ¬ (i : Int) < (i : Int) := by omega
      rw [HF.out] at ho
      have HNN := hid (HN.out _ wr (ho.sl (by rw [HEL.out]; omega)))
      have HB := hid hb
      clear ho hd hb
      go_wp2_with fail
      refine HNN.out.mono ?_
      rintro e w9 ⟨rfl, hb9⟩
      have H9 := hid (HB.out.trans (hb9.mono HB.out.size))
      clear hb9
      go_wp2
      go_ret
      exact ⟨by rw [← HE.out]; rfl, H9.out⟩
end Go.Proofs.Ytnbgnoimanpjnaa
/-
  Classes of what has numbers: each marked with its least; found one from another. No program in sight.
-/
namespace Go.Proofs.Ytnbgnoimanpjnaa
set_option linter.unusedVariables false

/-- The least that comes to x. -/
def lcF (L : List (Nat → Nat)) (A : (Nat → Nat) → Nat → Nat) (x : Nat) : Nat := ((List.range (x + 1)).find? fun l => orB L A l x).getD x
section
variable {n N : Nat} {ms : List (Nat → Nat)} {A : (Nat → Nat) → Nat → Nat}
theorem lc_spec (hm : ∀ m ∈ ms, Mv n m) (H : Acts n ms N A fun _ => true) {x : Nat} (hx : x < N) : lcF (GL n ms) A x ≤ x ∧ orB (GL n ms) A (lcF (GL n ms) A x) x = true ∧ ∀ l, l < lcF (GL n ms) A x → ¬ orB (GL n ms) A l x = true := by
  have hself : orB (GL n ms) A x x = true := (mem_orB hm x x).2 ⟨id, GenF.one, H.one x hx⟩
  unfold lcF
  cases h : (List.range (x + 1)).find? fun l => orB (GL n ms) A l x with
  | none =>
    rw [List.find?_eq_none] at h
    exact absurd hself (h x (List.mem_range.2 (by omega)))
  | some l =>
    rw [List.find?_range_eq_some] at h
    obtain ⟨h1, h2, h3⟩ := h
    have h2 := List.mem_range.1 h2
    refine ⟨by simp; omega, h1, fun j hj e => ?_⟩
    have := h3 j hj
    rw [e] at this
    simp at this
theorem lc_same (hm : ∀ m ∈ ms, Mv n m) (H : Acts n ms N A fun _ => true) {x y : Nat} (hx : x < N) (h : orB (GL n ms) A x y = true) : lcF (GL n ms) A x = lcF (GL n ms) A y := by
  have hy := orB_lt hm H hx h
  obtain ⟨a1, a2, a3⟩ := lc_spec hm H hx
  obtain ⟨b1, b2, b3⟩ := lc_spec hm H hy
  rcases Nat.lt_trichotomy (lcF (GL n ms) A x) (lcF (GL n ms) A y) with e | e | e
  · exact absurd (orB_trans hm H (by omega) a2 h) (b3 _ e)
  · exact e
  · exact absurd (orB_trans hm H (by omega) b2 (orB_symm hm H hx h)) (a3 _ e)
theorem lc_idem (hm : ∀ m ∈ ms, Mv n m) (H : Acts n ms N A fun _ => true) {x : Nat} (hx : x < N) : lcF (GL n ms) A (lcF (GL n ms) A x) = lcF (GL n ms) A x := by
  obtain ⟨a1, a2, a3⟩ := lc_spec hm H hx
  exact lc_same hm H (by omega) a2
theorem ld_lc (hm : ∀ m ∈ ms, Mv n m) (H : Acts n ms N A fun _ => true) {x : Nat} (hx : x < N) : ldB (GL n ms) A x = true ↔ lcF (GL n ms) A x = x := by
  obtain ⟨a1, a2, a3⟩ := lc_spec hm H hx
  rw [ld_iff]
  constructor
  · intro h
    apply Classical.byContradiction
    intro hne
    exact h _ (by omega) (orB_symm hm H (by omega) a2)
  · intro e q hq h2
    exact a3 q (by omega) (orB_symm hm H hx h2)
/-- The marks when all below c have been looked at; while c's class is found. -/
def mkO (lc : Nat → Nat) (c x : Nat) : Int := if lc x < c then ((lc x : Nat) : Int) else -1
def mkB (lc : Nat → Nat) (c : Nat) (l : List Nat) (x : Nat) : Int := if lc x < c then ((lc x : Nat) : Int) else if x ∈ l then ((c : Nat) : Int) else -1
/-- What the search for c's class keeps: i of the list are done, of the i-th j makers. -/
structure CB (N : Nat) (ms : List (Nat → Nat)) (A : (Nat → Nat) → Nat → Nat) (lc : Nat → Nat) (c : Nat) (l : List Nat) (i j : Nat) : Prop where
  nd : l.Nodup
  lt : ∀ x ∈ l, x < N ∧ lc x = c
  has : c ∈ l
  done : ∀ i', i' < i → ∀ j', j' < ms.length → A (ms.getD j' id) (l.getD i' 0) ∈ l
  part : ∀ j', j' < j → A (ms.getD j' id) (l.getD i 0) ∈ l
  le : i ≤ l.length
theorem CB.len {lc : Nat → Nat} {c : Nat} {l : List Nat} {i j : Nat} (h : CB N ms A lc c l i j) : l.length ≤ N := by
  have : l.length ≤ (List.range N).length := List.Nodup.length_le_of_subset h.nd fun x hx => List.mem_range.2 (h.lt x hx).1
  simpa using this
theorem CB.start {lc : Nat → Nat} {c : Nat} (hc : c < N) (hl : lc c = c) : CB N ms A lc c [c] 0 0 :=
  ⟨by simp, fun x hx => by rw [List.mem_singleton.1 hx]; exact ⟨hc, hl⟩, by simp, fun i' h => by omega, fun j' h => by omega, by simp⟩
theorem CB.there {lc : Nat → Nat} {c : Nat} {l : List Nat} {i j : Nat} (h : CB N ms A lc c l i j) (hx : A (ms.getD j id) (l.getD i 0) ∈ l) : CB N ms A lc c l i (j + 1) :=
  ⟨h.nd, h.lt, h.has, h.done, fun j' hj => by
    by_cases e : j' = j
    · rw [e]; exact hx
    · exact h.part j' (by omega), h.le⟩
theorem CB.add {lc : Nat → Nat} {c : Nat} {l : List Nat} {i j x : Nat} (h : CB N ms A lc c l i j) (hi : i < l.length) (hx : A (ms.getD j id) (l.getD i 0) = x) (hno : x ∉ l) (h1 : x < N) (h2 : lc x = c) : CB N ms A lc c (l ++ [x]) i (j + 1) := by
  have g : ∀ i', i' < l.length → (l ++ [x]).getD i' 0 = l.getD i' 0 := fun i' hi' => by rw [List.getD_eq_getElem?_getD, List.getElem?_append_left hi', ← List.getD_eq_getElem?_getD]
  refine ⟨?_, fun y hy => ?_, by simp [h.has], fun i' hi' j' hj' => ?_, fun j' hj' => ?_, by have := h.le; simp; omega⟩
  · rw [List.nodup_append]
    refine ⟨h.nd, by simp, fun a ha b hb e => ?_⟩
    rw [List.mem_singleton.1 hb] at e
    exact hno (by rw [← e]; exact ha)
  · rcases List.mem_append.1 hy with hy | hy
    · exact h.lt y hy
    · rw [List.mem_singleton.1 hy]; exact ⟨h1, h2⟩
  · rw [g i' (by omega)]
    exact List.mem_append_left _ (h.done i' hi' j' hj')
  · rw [g i hi]
    by_cases e : j' = j
    · rw [e, hx]; simp
    · exact List.mem_append_left _ (h.part j' (by omega))
theorem CB.next {lc : Nat → Nat} {c : Nat} {l : List Nat} {i : Nat} (h : CB N ms A lc c l i ms.length) (hi : i < l.length) : CB N ms A lc c l (i + 1) 0 :=
  ⟨h.nd, h.lt, h.has, fun i' hi' j' hj' => by
    by_cases e : i' = i
    · rw [e]; exact h.part j' hj'
    · exact h.done i' (by omega) j' hj', fun j' hj' => by omega, by omega⟩
/-- All of the class has been found. -/
theorem CB.all (hm : ∀ m ∈ ms, Mv n m) (H : Acts n ms N A fun _ => true) {c : Nat} {l : List Nat} (hc : c < N) (h : CB N ms A (lcF (GL n ms) A) c l l.length 0) : ∀ x, x < N → (lcF (GL n ms) A x = c ↔ x ∈ l) := by
  intro x hx
  refine ⟨fun e => ?_, fun hxl => (h.lt x hxl).2⟩
  have a2 := (lc_spec hm H hx).2.1
  rw [e] at a2
  obtain ⟨a, ha, rfl⟩ := (mem_orB hm c x).1 a2
  clear e hx a2
  induction ha with
  | one =>
    rw [H.one c hc]
    exact h.has
  | @step y m hy hmm ih =>
    rw [H.mul y m hy (GenF.maker hmm) c hc]
    obtain ⟨i, hi, e⟩ := List.mem_iff_getElem.1 ih
    obtain ⟨j, hj, e2⟩ := List.mem_iff_getElem.1 hmm
    have h1 := h.done i hi j hj
    rw [List.getD_eq_getElem?_getD, List.getElem?_eq_getElem hj, Option.getD_some, e2, List.getD_eq_getElem?_getD, List.getElem?_eq_getElem hi, Option.getD_some, e] at h1
    exact h1
theorem mk_end (hm : ∀ m ∈ ms, Mv n m) (H : Acts n ms N A fun _ => true) {c : Nat} {l : List Nat} (hc : c < N) (h : CB N ms A (lcF (GL n ms) A) c l l.length 0) : ∀ x, x < N → mkB (lcF (GL n ms) A) c l x = mkO (lcF (GL n ms) A) (c + 1) x := by
  intro x hx
  have hall := CB.all hm H hc h x hx
  unfold mkB mkO
  by_cases h1 : lcF (GL n ms) A x < c
  · rw [if_pos h1, if_pos (by omega)]
  · rw [if_neg h1]
    by_cases h2 : x ∈ l
    · rw [if_pos h2, if_pos (by have := hall.2 h2; omega), hall.2 h2]
    · rw [if_neg h2, if_neg (fun h3 => h2 (hall.1 (by omega)))]
theorem mk_skip (hm : ∀ m ∈ ms, Mv n m) (H : Acts n ms N A fun _ => true) {c : Nat} (hc : lcF (GL n ms) A c < c) : ∀ x, x < N → mkO (lcF (GL n ms) A) c x = mkO (lcF (GL n ms) A) (c + 1) x := by
  intro x hx
  have hne : lcF (GL n ms) A x ≠ c := fun e => by
    have := lc_idem hm H hx
    rw [e] at this
    omega
  unfold mkO
  by_cases h1 : lcF (GL n ms) A x < c
  · rw [if_pos h1, if_pos (by omega)]
  · rw [if_neg h1, if_neg (by omega)]
theorem mk_start (lc : Nat → Nat) {c : Nat} (h : lc c = c) (x : Nat) : mkB lc c [c] x = if x = c then ((c : Nat) : Int) else mkO lc c x := by
  unfold mkB mkO
  by_cases e : x = c
  · subst e
    rw [if_neg (by omega), if_pos (by simp), if_pos rfl]
  · rw [if_neg e]
    by_cases h1 : lc x < c
    · rw [if_pos h1, if_pos h1]
    · rw [if_neg h1, if_neg h1, if_neg (by simpa using e)]
theorem mk_add (lc : Nat → Nat) {c x : Nat} {l : List Nat} (h : lc x = c) (y : Nat) : mkB lc c (l ++ [x]) y = if y = x then ((c : Nat) : Int) else mkB lc c l y := by
  unfold mkB
  by_cases e : y = x
  · subst e
    rw [if_neg (by omega), if_pos (by simp), if_pos rfl]
  · rw [if_neg e]
    by_cases h1 : lc y < c
    · rw [if_pos h1, if_pos h1]
    · rw [if_neg h1, if_neg h1]
      by_cases h2 : y ∈ l
      · rw [if_pos h2, if_pos (List.mem_append_left _ h2)]
      · rw [if_neg h2, if_neg (fun h3 => (List.mem_append.1 h3).elim h2 fun h4 => e (List.mem_singleton.1 h4))]
/-- Those that are marked with themselves: one of each class. -/
theorem cl_marks (hm : ∀ m ∈ ms, Mv n m) (H : Acts n ms N A fun _ => true) : clN (GL n ms) A N (fun _ => true) = sumN (fun c => if mkO (lcF (GL n ms) A) N c = ((c : Nat) : Int) then 1 else 0) N := by
  unfold clN
  refine sumN_congr N fun c hc => ?_
  obtain ⟨a1, _, _⟩ := lc_spec hm H hc
  have h1 := ld_lc hm H hc
  unfold mkO
  rw [if_pos (show lcF (GL n ms) A c < N by omega)]
  by_cases e : lcF (GL n ms) A c = c
  · rw [if_pos ⟨rfl, h1.2 e⟩, if_pos (by rw [e])]
  · rw [if_neg (fun h => e (h1.1 h.2)), if_neg (fun h => e (by omega))]
end
end Go.Proofs.Ytnbgnoimanpjnaa
/-
  The walks over parterreref1.classes and ColouringsOf. Conditions: few colours, no more than 7 points; the makers can be read.
-/
namespace Go.Proofs.Ytnbgnoimanpjnaa
set_option linter.unusedVariables false
open Go.RowKit

def mkL (N : Nat) (g : Nat → Int) : List Int := (List.range N).map g
theorem mkL_len (N : Nat) (g : Nat → Int) : (mkL N g).length = N := by simp [mkL]
theorem mkL_get {N : Nat} {g : Nat → Int} {i : Nat} (h : i < N) : (mkL N g).getD i 0 = g i := by simp [mkL, h]
theorem mkL_congr {N : Nat} {g h : Nat → Int} (e : ∀ x, x < N → g x = h x) : mkL N g = mkL N h := List.map_congr_left fun x hx => e x (List.mem_range.1 hx)
theorem mkL_set {N x : Nat} {g h : Nat → Int} {z : Int} (hx : x < N) (e : ∀ y, y < N → h y = if y = x then z else g y) : (mkL N g).set x z = mkL N h := by
  refine List.ext_getElem? fun q => ?_
  by_cases hq : q < N
  · by_cases e2 : x = q
    · subst e2
      rw [List.getElem?_set_self (by rw [mkL_len]; exact hq)]
      simp [mkL, hq, e x hq]
    · rw [List.getElem?_set_ne e2]
      simp [mkL, hq, e q hq, if_neg (fun h : q = x => e2 h.symm)]
  · rw [List.getElem?_eq_none (by rw [List.length_set, mkL_len]; omega), List.getElem?_eq_none (by rw [mkL_len]; omega)]
theorem ints_snoc (l : List Nat) (x : Nat) : intsL (l ++ [x]) = intsL l ++ [((x : Nat) : Int)] := intsL_snoc l x

set_option maxHeartbeats 4000000 in
set_option maxRecDepth 100000 in
theorem gclasses_ok (n k : Nat) (v : Value) (ms : List (Nat → Nat)) (w : World) (hk : 1 ≤ k) (hk7 : k ≤ 7) (hn1 : 1 ≤ n) (hn : n ≤ 7) (hv : RL w v (ms.map (elL n))) (hm : ∀ m ∈ ms, Mv n m) (hml : ms.length ≤ 1000000) :
    Calls Try.prog 71 #[.int .i64 n, v, .int .i64 k] w fun e w' => (∃ r, e = .returned r ∧ OI w.heap.size w' r (mkL (k ^ n) (mkO (lcF (GL n ms) (colA n k)) (k ^ n)))) ∧ Below w.heap.size w w' := by
  have HPO := hid (fun w1 => gpower_ok k n w1 hk hk7 hn)
  have HA := col_acts hk hm (fun _ => true) fun _ _ _ _ => rfl
  have hNb := pow7 hk7 hn
  have hN1 : 1 ≤ k ^ n := Nat.pow_pos (by omega)
  have HK1 : Hid (k = 1 → k ^ n = 1) := hid (fun e => by rw [e, Nat.one_pow])
  have HMV := hid (fun (c : Nat) (u : Value) (a : Nat → Nat) (w1 : World) (hc : c ≤ 1000000) (hu : Sl w1 u (elL n a)) (P : Mv n a) => gmoved_ok c k n u a w1 hk hk7 hn1 hn hc hu P)
  have HMA := hid (fun j (hj : j < ms.length) => hv.mvAt hj)
  have HVB := hid (fun w1 (hb : Below w.heap.size w w1) => hv.below hb)
  have HPM := hid (fun j (hj : j < ms.length) => hm _ (getD_mem hj id))
  have HLC := hid (fun x (hx : x < k ^ n) => lc_spec hm HA hx)
  have HSAME := hid (fun x j (hx : x < k ^ n) (hj : j < ms.length) => (⟨col_lt hk (ms.getD j id) x, lc_same hm HA hx ((mem_orB hm x _).2 ⟨ms.getD j id, GenF.maker (getD_mem hj id), rfl⟩)⟩ : colA n k (ms.getD j id) x < k ^ n ∧ lcF (GL n ms) (colA n k) x = lcF (GL n ms) (colA n k) (colA n k (ms.getD j id) x)))
  have HST := hid (fun c (hc : c < k ^ n) h => CB.start (ms := ms) (A := colA n k) (lc := lcF (GL n ms) (colA n k)) hc h)
  have HEND := hid (fun c l (hc : c < k ^ n) h => mk_end (l := l) hm HA hc h)
  have HSKIP := hid (fun c h => mk_skip (c := c) hm HA h)
  clear HA hm
  obtain ⟨va, vc, rfl, hv1, _⟩ := hv
  rw [List.length_map] at hv1 HVB HMA ⊢
  have hkk : ∀ j, (fun x => mkO (lcF (GL n ms) (colA n k)) j x) = mkO (lcF (GL n ms) (colA n k)) j := fun j => rfl
  generalize lcF (GL n ms) (colA n k) = lc at *
  generalize colA n k = CA at *
  obtain ⟨N, hN⟩ : ∃ N, k ^ n = N := ⟨_, rfl⟩
  simp only [hN] at *
  clear hN hkk
  obtain ⟨K, hK⟩ : ∃ K, ms.length = K := ⟨_, rfl⟩
  have HK := hid hK
  rw [hK] at hv1 hml HMA HPM HSAME HVB ⊢
  clear hK
  have HM0 : Hid (∀ x, x < N → mkO lc 0 x = -1) := hid (fun x hx => if_neg (by omega))
  have HMS := hid (fun c (h : lc c = c) => mk_start lc h)
  have HMD := hid (fun c x l (h : lc x = c) => mk_add (l := l) lc h)
  have HLEN := hid (mkL_len N)
  have HIN := hid intsL_len
  go_enter Try.func71, Try.ntmps71
  go_wp2_with fail
  refine (HPO.out _).mono ?_
  rintro e w0 ⟨rfl, hw0⟩
  subst hw0
  go_upto_if 19 with fail
  go_cut [7] from 18 (fun v7 wc => v7 = .int .i64 (N : Nat) ∧ wc = w0)
  case first =>
    by_cases h1 : k = 1
    · have hbe : (((k : Nat) : Int) == 1) = true := beq_iff_eq.2 (by omega)
      have h2 := HK1.out h1
      clear h1
      go_wp2_with fail
      go_meet
      case rel => exact ⟨by rw [h2]; rfl, rfl⟩
    · have hbe : (((k : Nat) : Int) == 1) = false := beq_eq_false_iff_ne.2 (by omega)
      clear h1
      go_wp2_with fail
      go_meet
      case rel => exact ⟨rfl, rfl⟩
  case rest =>
    obtain ⟨rfl, hwc⟩ := hcut
    subst hwc
    have HB0 := hid (Below.refl wc.heap.size wc)
    go_wp2_with (at_make; refine wpList_mk (w := wc) _ _ 23 3 (.int .i64 0) 8 rfl rfl Try.underlying23 Try.info3 rfl (by decide) wc.heap.size _ N rfl rfl rfl (by omega) (Nat.le_refl _) ?_; intro w6 hs6 hgr6 hz6)
    have hoi : OI wc.heap.size w6 (.slice (some ⟨wc.heap.size, 0, none⟩) N N) (mkL N fun _ => 0) := by
      unfold OI mkL
      rw [List.map_const', List.length_range, List.map_replicate]
      exact hs6
    have hb6 : Below wc.heap.size wc w6 := (Below.refl _ _).grown hgr6 (Nat.le_refl _) (fun k h => by cases h)
    have H6 := hid (And.intro hoi hb6)
    clear hs6 hgr6 hoi hb6
    go_loopw [9] (fun v9 wr => ∃ i : Nat, v9 = .int .i64 i ∧ i ≤ N ∧ OI wc.heap.size wr (.slice (some ⟨wc.heap.size, 0, none⟩) N N) (mkL N fun x => if x < i then -1 else 0) ∧ Below wc.heap.size wc wr ∧ wc.heap.size < wr.heap.size) (fun v9 _ => N - (intOf v9).toNat)
    case atStart => exact ⟨0, rfl, Nat.zero_le _, by rw [show (fun x => if x < 0 then (-1 : Int) else 0) = fun _ => 0 by funext x; simp]; exact H6.out.1, H6.out.2, hz6⟩
    case round =>
      clear H6 hz6
      obtain ⟨i, rfl, hi, ho, hb, hsz⟩ := hrel
      by_cases hil : i < N
      · have hii : (i : Int) < (N : Int) := by omega
        have hfz := ho.frozen i
        have hce := ho.cell i (by rw [HLEN.out]; exact hil)
        obtain ⟨hs8, hg8⟩ := ho.stored i (-1)
        rw [mkL_set (h := fun x => if x < i + 1 then -1 else 0) hil (fun y _ => by
          by_cases e : y = i
          · rw [if_pos e, if_pos (by omega)]
          · rw [if_neg e]
            by_cases h : y < i
            · rw [if_pos h, if_pos (by omega)]
            · rw [if_neg h, if_neg (by omega)])] at hs8
        have HX := hid (And.intro hs8 (And.intro (hb.grown hg8 hb.size (fun b e => by cases e; exact Nat.le_refl _)) (Nat.lt_of_lt_of_le hsz hg8.size)))
        clear ho hb hs8 hg8
        generalize (mkL N fun x => if x < i then -1 else 0).getD i 0 = old at *
        go_wp2
        go_roundw
        case rel => exact ⟨i + 1, by go_num, by omega, HX.out.1, HX.out.2.1, HX.out.2.2⟩
        case measure => simp [intOf] <;> omega
      · obtain rfl : i = N := by omega
        have hii : ¬ (i : Int) < (i : Int) := by omega
        rw [mkL_congr (h := mkO lc 0) (fun x hx => by rw [if_pos hx, HM0.out x hx])] at ho
        have HI := hid (And.intro ho hb)
        clear ho hb
        go_wp2_with fail
        go_loopw [10, 11, 12, 13, 14] (fun v10 _ _ _ _ wr => ∃ c : Nat, v10 = .int .i64 c ∧ c ≤ i ∧ OI wc.heap.size wr (.slice (some ⟨wc.heap.size, 0, none⟩) i i) (mkL i (mkO lc c)) ∧ Below wc.heap.size wc wr ∧ wc.heap.size < wr.heap.size) (fun v10 _ _ _ _ _ => i - (intOf v10).toNat)
        case atStart => exact ⟨0, rfl, Nat.zero_le _, HI.out.1, HI.out.2, hsz⟩
        case round =>
          clear HI hsz
          obtain ⟨c, rfl, hc, ho, hb, hsz⟩ := hrel
          by_cases hcl : c < i
          · have hci : (c : Int) < (i : Int) := by omega
            obtain ⟨hl1, _, _⟩ := HLC.out c hcl
            have hfz := ho.frozen c
            have hce := ho.cell c (by rw [HLEN.out]; exact hcl)
            rw [mkL_get hcl] at hce
            by_cases hlc : lc c < c
            · have hcv : mkO lc c c = ((lc c : Nat) : Int) := if_pos hlc
              rw [hcv] at hce
              have hsk := HSKIP.out c hlc
              rw [mkL_congr hsk] at ho
              have HI := hid (And.intro ho hb)
              clear ho hb hcv hsk hl1
              generalize lc c = lv at *
              have hge : (0 : Int) ≤ ((lv : Nat) : Int) := by omega
              go_wp2
              go_roundw
              case rel => exact ⟨c + 1, by go_num, by omega, HI.out.1, HI.out.2, hsz⟩
              case measure => simp [intOf] <;> omega
            · have hlc' : lc c = c := by omega
              have hcv : mkO lc c c = -1 := if_neg hlc
              rw [hcv] at hce
              obtain ⟨hs8, hg8⟩ := ho.stored c ((c : Nat) : Int)
              rw [mkL_set (h := mkB lc c [c]) hcl (fun y _ => HMS.out c hlc' y)] at hs8
              have HCB := hid (HST.out c hcl hlc')
              have hb8 := hb.grown hg8 hb.size (fun b e => by cases e; exact Nat.le_refl _)
              have hz8 := Nat.lt_of_lt_of_le hsz hg8.size
              have hsz8 : (wr.setCell ⟨wc.heap.size, c, none⟩ (.int .i64 ((c : Nat) : Int))).heap.size = wr.heap.size := by simp [World.setCell]
              have hl1' := OI.lit1 (wc.heap.size + 1) (wr.setCell ⟨wc.heap.size, c, none⟩ (.int .i64 ((c : Nat) : Int))) ((c : Nat) : Int) (by omega)
              rw [hsz8] at hl1'
              have HL1 := hid hl1'
              have h9 : Below (wr.setCell ⟨wc.heap.size, c, none⟩ (.int .i64 ((c : Nat) : Int))).heap.size (wr.setCell ⟨wc.heap.size, c, none⟩ (.int .i64 ((c : Nat) : Int))) ((wr.setCell ⟨wc.heap.size, c, none⟩ (.int .i64 ((c : Nat) : Int))).alloc (.cells #[.int .i64 ((c : Nat) : Int)] 3)) := (Below.refl _ _).alloc (Nat.le_refl _) _
              have HX := hid (And.intro (hs8.below h9) (And.intro (hb8.trans (h9.mono hb8.size)) (show wc.heap.size < ((wr.setCell ⟨wc.heap.size, c, none⟩ (.int .i64 ((c : Nat) : Int))).alloc (.cells #[.int .i64 ((c : Nat) : Int)] 3)).heap.size by simp [World.setCell]; omega)))
              clear ho hb hs8 hg8 hb8 hcv h9 hl1' hsz8 hl1
              go_wp2_with fail
              go_loopw [11, 12, 13, 14] (fun v11 v12 _ _ wr => ∃ (l : List Nat) (q : Nat), v12 = .int .i64 q ∧ Hid (CB i ms CA lc c l q 0) ∧ OI (wc.heap.size + 1) wr v11 (intsL l) ∧ OI wc.heap.size wr (.slice (some ⟨wc.heap.size, 0, none⟩) i i) (mkL i (mkB lc c l)) ∧ Below wc.heap.size wc wr ∧ wc.heap.size < wr.heap.size) (fun _ v12 _ _ _ => i + 1 - (intOf v12).toNat)
              case atStart => exact ⟨[c], 0, rfl, HCB, HL1.out, HX.out.1, HX.out.2.1, HX.out.2.2⟩
              case round =>
                clear HX HL1 HCB hz8 hce hfz hsz
                obtain ⟨l, q, rfl, HC, hol, ho, hb, hsz⟩ := hrel
                have hll := HC.out.len
                have hle := HC.out.le
                obtain ⟨la, lcp, el⟩ := hol.len
                rw [HIN.out] at el
                subst el
                by_cases hql : q < l.length
                · have hqi : (q : Int) < ((l.length : Nat) : Int) := by omega
                  have hlp : 0 < l.length := by omega
                  have HI := hid (And.intro hol (And.intro ho hb))
                  clear hol ho hb
                  obtain ⟨LN, hLN⟩ : ∃ LN, l.length = LN := ⟨_, rfl⟩
                  have HLN := hid hLN
                  rw [hLN] at hll hle hql hqi hlp HI ⊢
                  clear hLN
                  go_wp2_with fail
                  go_loopw [11, 13, 14] (fun v11 v13 _ wr => ∃ (l : List Nat) (j : Nat), v13 = .int .i64 j ∧ j ≤ K ∧ q < l.length ∧ Hid (CB i ms CA lc c l q j) ∧ OI (wc.heap.size + 1) wr v11 (intsL l) ∧ OI wc.heap.size wr (.slice (some ⟨wc.heap.size, 0, none⟩) i i) (mkL i (mkB lc c l)) ∧ Below wc.heap.size wc wr ∧ wc.heap.size < wr.heap.size) (fun _ v13 _ _ => K - (intOf v13).toNat)
                  case atStart => exact ⟨l, 0, rfl, Nat.zero_le _, by rw [HLN.out]; exact hql, HC, HI.out.1, HI.out.2.1, HI.out.2.2, hsz⟩
                  case round =>
                    clear HI HC HLN hll hle hql hqi hlp hsz
                    obtain ⟨l, j, rfl, hj, hql, HC, hol, ho, hb, hsz⟩ := hrel
                    have hll := HC.out.len
                    by_cases hjl : j < K
                    · have hji : (j : Int) < (K : Int) := by omega
                      obtain ⟨gl, cl, el, hgl, _⟩ := hol.form (by rw [HIN.out]; omega)
                      rw [HIN.out] at el
                      subst el
                      obtain ⟨g1, o1, c1, a1, d1, e1, hg1, hc1, hs1⟩ := HMA.out j hjl
                      simp only [Value.slice.injEq] at e1
                      obtain ⟨rfl, rfl⟩ : va = some ⟨g1, o1, none⟩ ∧ vc = c1 := ⟨e1.1, e1.2.2⟩
                      obtain ⟨p, hp⟩ : ∃ p, l.getD q 0 = p := ⟨_, rfl⟩
                      have hpl : p ∈ l := by
                        rw [← hp, List.getD_eq_getElem?_getD, List.getElem?_eq_getElem hql]
                        exact List.getElem_mem hql
                      obtain ⟨hpi, hpc⟩ := HC.out.lt p hpl
                      obtain ⟨hx1, hx2⟩ := HSAME.out p j hpi hjl
                      have hpm := HPM.out j hjl
                      have HX0 : Hid (CA (ms.getD j id) (l.getD q 0) = CA (ms.getD j id) p) := hid (by rw [hp])
                      obtain ⟨m, hm⟩ : ∃ m, ms.getD j id = m := ⟨_, rfl⟩
                      have hqc := hol.cell q (by rw [HIN.out]; exact hql)
                      have hqv : (intsL l).getD q 0 = ((p : Nat) : Int) := by
                        rw [← hp]
                        simp [intsL, hql]
                      rw [hqv] at hqc
                      have hc1w := (hb.cell (p := ⟨g1, o1 + j, none⟩) hg1).trans hc1
                      have hs1w := hs1.below hb
                      rw [hm] at hx1 hx2 hpm hs1w HX0
                      have HMO := hid (HMV.out p _ m wr.drew (by omega) hs1w.drew hpm)
                      have hqli : (q : Int) < ((l.length : Nat) : Int) := by omega
                      have HME := hid hm
                      have HI := hid (And.intro hol (And.intro ho hb))
                      obtain ⟨LN, hLN⟩ : ∃ LN, l.length = LN := ⟨_, rfl⟩
                      have HLN := hid hLN
                      rw [hLN] at hqli hql hll HI ⊢
                      obtain ⟨x, hx⟩ : ∃ x, CA m p = x := ⟨_, rfl⟩
                      rw [hx] at hx1 hx2 HMO HX0
                      clear hol ho hb hp hqv hc1 hs1 hs1w hLN hm e1 hx
                      go_wp2_with fail
                      go_still_tail 9, (by kernel_rfl)
                      go_wp2_with fail
                      refine HMO.out.mono ?_
                      rintro e w2 ⟨rfl, hb2⟩
                      have hb2' : Below wr.heap.size wr w2 := ((Below.refl _ _).drew).trans hb2
                      have hol2 := HI.out.1.below hb2'
                      have ho2 := HI.out.2.1.below hb2'
                      have hbb2 := HI.out.2.2.trans (hb2'.mono HI.out.2.2.size)
                      have hsz2 := Nat.lt_of_lt_of_le hsz hb2'.size
                      have hfz := ho2.frozen x
                      have hce := ho2.cell x (by rw [HLEN.out]; exact hx1)
                      rw [mkL_get hx1] at hce
                      have hxi : ((x : Nat) : Int) < (i : Int) := by omega
                      by_cases hxl : x ∈ l
                      · have hcv : mkB lc c l x = ((c : Nat) : Int) := by
                          unfold mkB
                          rw [if_neg (by omega), if_pos hxl]
                        rw [hcv] at hce
                        have HC2 := hid (HC.out.there (by rw [HME.out, HX0.out]; exact hxl))
                        have HI2 := hid (And.intro hol2 (And.intro ho2 hbb2))
                        have hge : ¬ ((c : Nat) : Int) < 0 := by omega
                        clear hol2 ho2 hbb2 hb2 hb2' hcv hxl
                        go_wp2
                        go_roundw
                        case rel => exact ⟨l, j + 1, by go_num, by omega, by rw [HLN.out]; exact hql, HC2, HI2.out.1, HI2.out.2.1, HI2.out.2.2, hsz2⟩
                        case measure => simp [intOf] <;> omega
                      · have hcv : mkB lc c l x = -1 := by
                          unfold mkB
                          rw [if_neg (by omega), if_neg hxl]
                        rw [hcv] at hce
                        have HC2 := hid (HC.out.add (by rw [HLN.out]; exact hql) (by rw [HME.out]; exact HX0.out) hxl hx1 (by omega))
                        obtain ⟨hs8, hg8⟩ := ho2.stored x ((c : Nat) : Int)
                        rw [mkL_set (h := mkB lc c (l ++ [x])) hx1 (fun y _ => HMD.out c x l (by omega) y)] at hs8
                        have hol8 := hol2.kept hg8 (.inr (by simp [Value.ownBlock]; omega))
                        have hb8 := hbb2.grown hg8 hbb2.size (fun b e => by cases e; exact Nat.le_refl _)
                        have hz8 := Nat.lt_of_lt_of_le hsz2 hg8.size
                        have hlq : (intsL l).length ≤ 1000000000000 := by rw [HIN.out, HLN.out]; omega
                        have HSN := hid (ints_snoc l x)
                        have H8 := hid (And.intro hol8 (And.intro hs8 hb8))
                        have hwb : wc.heap.size + 1 ≤ (w2.setCell ⟨wc.heap.size, x, none⟩ (.int .i64 ((c : Nat) : Int))).heap.size := by omega
                        clear hol2 ho2 hbb2 hb2 hb2' hcv hxl hs8 hg8 hol8 hb8
                        go_wp2_with (first
                          | (at_builtin; refine wpList_appi (w2.setCell ⟨wc.heap.size, x, none⟩ (.int .i64 ((c : Nat) : Int))) (.tmp 77) _ 23 rfl rfl Try.underlying23 Try.info3 (wc.heap.size + 1) _ _ rfl H8.out.1 rfl hlq hwb ?_
                             intro g9 c9 w9 hown1 hg1 hg2 hg3
                             have hg1' : (w2.setCell ⟨wc.heap.size, x, none⟩ (.int .i64 ((c : Nat) : Int))).grownBy w9 (some gl) := hg1
                             have hm9 := H8.out.2.1.kept hg1' (.inr (by simp [Value.ownBlock]; omega))
                             have hb9 := H8.out.2.2.grown hg1' H8.out.2.2.size (fun b e => by cases e; omega)
                             have hl9 : OI (wc.heap.size + 1) w9 (.slice (some ⟨g9, 0, none⟩) ((intsL l).length + 1) c9) (intsL (l ++ [x])) := by
                               rw [HSN.out]
                               exact hown1
                             have HX := hid (And.intro hl9 (And.intro hm9 (And.intro hb9 (Nat.lt_of_lt_of_le hz8 hg1'.size))))
                             clear hown1 hg1 hg2 hg3 hg1' hm9 hb9 hl9)
                          | fail)
                        go_roundw
                        case rel => exact ⟨l ++ [x], j + 1, by go_num, by omega, by rw [List.length_append, HLN.out]; omega, HC2, HX.out.1, HX.out.2.1, HX.out.2.2.1, HX.out.2.2.2⟩
                        case measure => simp [intOf] <;> omega
                    · obtain rfl : j = K := by omega
                      have hji : ¬ (j : Int) < (j : Int) := by omega
                      have HC2 := hid (by
                        have h := HC.out
                        rw [← HK.out] at h
                        exact h.next hql : CB i ms CA lc c l (q + 1) 0)
                      have HI := hid (And.intro hol (And.intro ho hb))
                      clear hol ho hb
                      go_wp2
                      go_roundw
                      case rel => exact ⟨l, q + 1, by go_num, HC2, HI.out.1, HI.out.2.1, HI.out.2.2, hsz⟩
                      case measure => simp [intOf] <;> omega
                · obtain rfl : q = l.length := by omega
                  have hqi : ¬ ((l.length : Nat) : Int) < ((l.length : Nat) : Int) := by omega
                  have hend := HEND.out c l hcl HC.out
                  rw [mkL_congr hend] at ho
                  have HI := hid (And.intro ho hb)
                  clear hol ho hb hend
                  go_wp2
                  go_roundw
                  case rel => exact ⟨c + 1, by go_num, by omega, HI.out.1, HI.out.2, hsz⟩
                  case measure => simp [intOf] <;> omega
          · obtain rfl : c = i := by omega
            have hci : ¬ (c : Int) < (c : Int) := by omega
            have HI := hid (And.intro ho hb)
            clear ho hb
            go_wp2
            go_ret
            exact ⟨⟨_, rfl, HI.out.1⟩, HI.out.2⟩
end Go.Proofs.Ytnbgnoimanpjnaa
/-
  The walk over parterreref1.ContentOf. Conditions: few colours, no more than 7 points; the slices can be read.
-/
namespace Go.Proofs.Ytnbgnoimanpjnaa
set_option linter.unusedVariables false
open Go.RowKit

theorem cl_marksP {n N : Nat} {ms : List (Nat → Nat)} {A : (Nat → Nat) → Nat → Nat} (P : Nat → Bool) (hm : ∀ m ∈ ms, Mv n m) (H : Acts n ms N A fun _ => true) : clN (GL n ms) A N P = sumN (fun c => if mkO (lcF (GL n ms) A) N c = ((c : Nat) : Int) ∧ P c = true then 1 else 0) N := by
  unfold clN
  refine sumN_congr N fun c hc => ?_
  obtain ⟨a1, _, _⟩ := lc_spec hm H hc
  have h1 := ld_lc hm H hc
  unfold mkO
  rw [if_pos (show lcF (GL n ms) A c < N by omega)]
  by_cases e : lcF (GL n ms) A c = c
  · by_cases hp : P c = true
    · rw [if_pos ⟨hp, h1.2 e⟩, if_pos ⟨by rw [e], hp⟩]
    · rw [if_neg (fun h => hp h.1), if_neg (fun h => hp h.2)]
  · rw [if_neg (fun h => e (h1.1 h.2)), if_neg (fun h => e (by have := h.1; omega))]
/-- How many of the first i points have the colour j. -/
def hsI (n k c i j : Nat) : Int := ((hsN i k c j : Nat) : Int)
theorem hsI_step (n k c i : Nat) {y : Nat} : hsI n k c (i + 1) y = if y = dgt k c i then hsI n k c i (dgt k c i) + 1 else hsI n k c i y := by
  unfold hsI hsN
  simp only [sumN]
  by_cases e : dgt k c i = y
  · subst e
    rw [if_pos rfl, if_pos rfl]
    omega
  · rw [if_neg e, if_neg (fun h => e h.symm)]
    omega
theorem con_dec {n k c : Nat} {m : List Nat} (hm : m.length = k) : decide (mkL k (hsI n k c n) = intsL m) = conP n k m c := by
  unfold conP
  refine decide_eq_decide.2 ⟨fun h j hj => ?_, fun h => ?_⟩
  · have h1 := congrArg (fun l => l.getD j 0) h
    rw [mkL_get hj, show (intsL m).getD j 0 = ((m.getD j 0 : Nat) : Int) by simp [intsL, hm, hj]] at h1
    unfold hsI at h1
    omega
  · refine List.ext_getElem? fun i => ?_
    by_cases hi : i < k
    · have := h i hi
      unfold mkL intsL hsI
      rw [List.getElem?_map, List.getElem?_map, List.getElem?_range hi, List.getElem?_eq_getElem (by omega), Option.map_some, Option.map_some, this, List.getD_eq_getElem?_getD, List.getElem?_eq_getElem (by omega)]
      rfl
    · rw [List.getElem?_eq_none (by rw [mkL_len]; omega), List.getElem?_eq_none (by simp [intsL]; omega)]
theorem hsI_zero (n k c : Nat) : mkL k (hsI n k c 0) = List.replicate k 0 := by
  refine List.ext_getElem? fun i => ?_
  by_cases hi : i < k
  · unfold mkL hsI hsN
    rw [List.getElem?_map, List.getElem?_range hi, List.getElem?_replicate, if_pos hi]
    rfl
  · rw [List.getElem?_eq_none (by rw [mkL_len]; omega), List.getElem?_eq_none (by simp; omega)]
theorem hs_le (n k c i j : Nat) : 0 ≤ hsI n k c i j ∧ hsI n k c i j ≤ i := by
  have := sumN_le (fun i => if dgt k c i = j then 1 else 0) (fun i => by split <;> omega) i
  unfold hsI hsN
  omega

set_option maxHeartbeats 4000000 in
set_option maxRecDepth 100000 in
theorem gconof_ok (n k : Nat) (v vm : Value) (ms : List (Nat → Nat)) (m : List Nat) (w : World) (hk : 1 ≤ k) (hk7 : k ≤ 7) (hn1 : 1 ≤ n) (hn : n ≤ 7) (hv : RL w v (ms.map (elL n))) (hm : ∀ m ∈ ms, Mv n m) (hml : ms.length ≤ 1000000) (hvm : Sl w vm (intsL m)) (hmk : m.length = k) :
    Calls Try.prog 46 #[.int .i64 n, v, vm] w fun e w' => e = .returned (.int .i64 (clN (GL n ms) (colA n k) (k ^ n) (conP n k m) : Nat)) ∧ Below w.heap.size w w' := by
  have HCL := hid (gclasses_ok n k v ms w hk hk7 hn1 hn hv hm hml)
  have HA := col_acts hk hm (fun _ => true) fun _ _ _ _ => rfl
  have HR := hid (cl_marksP (conP n k m) hm HA)
  have hNb := pow7 hk7 hn
  have hN1 : 1 ≤ k ^ n := Nat.pow_pos (by omega)
  have HS := hid (fun c => sumN_le (fun c => if mkO (lcF (GL n ms) (colA n k)) (k ^ n) c = ((c : Nat) : Int) ∧ conP n k m c = true then 1 else 0) (fun i => by split <;> omega) c)
  have HDG := hid (fun (c : Nat) (hc : c ≤ 1000000) W => gdigits_ok c k n W hk hk7 hn hc)
  have HDT := hid (fun c i => dgt_lt hk c i)
  have HCD := hid (fun c => con_dec (n := n) (k := k) (c := c) hmk)
  have HSL := hid hvm
  obtain ⟨ma, mc, em⟩ := hvm.len
  rw [intsL_len, hmk] at em
  subst em
  obtain ⟨va, vc, rfl, hv1, _⟩ := hv
  rw [List.length_map] at hv1 HCL ⊢
  clear HA hm hvm
  generalize clN (GL n ms) (colA n k) (k ^ n) (conP n k m) = R at *
  generalize mkO (lcF (GL n ms) (colA n k)) (k ^ n) = g at *
  obtain ⟨N, hN⟩ : ∃ N, k ^ n = N := ⟨_, rfl⟩
  simp only [hN] at *
  clear hN
  have HLEN := hid (mkL_len N)
  have HLK := hid (mkL_len k)
  obtain ⟨SM, hSM⟩ : ∃ SM : Nat → Nat, SM = sumN (fun c => if g c = ((c : Nat) : Int) ∧ conP n k m c = true then 1 else 0) := ⟨_, rfl⟩
  have HSS : Hid (∀ c, SM (c + 1) = SM c + if g c = ((c : Nat) : Int) ∧ conP n k m c = true then 1 else 0) := hid (fun c => by rw [hSM]; rfl)
  have HS0 : Hid (SM 0 = 0) := hid (by rw [hSM]; rfl)
  rw [← hSM] at HR HS
  clear hSM
  generalize ms.length = K at *
  go_enter Try.func46, Try.ntmps46
  go_wp2_with fail
  refine HCL.out.mono ?_
  rintro e w1 ⟨⟨r, rfl, hr⟩, hb1⟩
  obtain ⟨gr, cr, er, _, _⟩ := hr.form (by rw [HLEN.out]; omega)
  rw [HLEN.out] at er
  subst er
  have H1 := hid (And.intro hr hb1)
  clear hr hb1
  go_wp2_with fail
  go_loopw [9, 10] (fun v9 v10 wr => ∃ c : Nat, v10 = .int .i64 c ∧ c ≤ N ∧ v9 = .int .i64 (SM c : Nat) ∧ OI w.heap.size wr (.slice (some ⟨gr, 0, none⟩) N cr) (mkL N g) ∧ Below w.heap.size w wr) (fun _ v10 _ => N - (intOf v10).toNat)
  case atStart => exact ⟨0, rfl, Nat.zero_le _, by rw [HS0.out]; rfl, H1.out.1, H1.out.2⟩
  case round =>
    clear H1
    obtain ⟨c, rfl, hc, rfl, ho, hb⟩ := hrel
    have hs := HS.out c
    by_cases hcl : c < N
    · have hci : (c : Int) < (N : Int) := by omega
      have hce := ho.cell c (by rw [HLEN.out]; exact hcl)
      rw [mkL_get hcl] at hce
      have hss := HSS.out c
      have HI := hid (And.intro ho hb)
      clear ho hb
      by_cases he : g c = ((c : Nat) : Int)
      · rw [he] at hce
        have HSk : Hid (SM (c + 1) = SM c + if conP n k m c = true then 1 else 0) := hid (by rw [hss]; simp [he])
        have HD := hid (HDG.out c (by omega))
        clear hss he
        obtain ⟨W0, hW0⟩ : ∃ W0, W0 = wr := ⟨_, rfl⟩
        subst hW0
        go_wp2_with fail
        refine (HD.out _).mono ?_
        rintro e w5 ⟨⟨r, rfl, hr⟩, hb5⟩
        obtain ⟨gd, cd, er, hgd1, hgd2⟩ := hr.form (by rw [elL_len]; omega)
        rw [elL_len] at er
        subst er
        have hB5 := HI.out.2.trans (hb5.mono HI.out.2.size)
        have HI5 := hid (And.intro (HI.out.1.below hb5) hB5)
        have HDC : Hid (∀ W, Below w5.heap.size w5 W → ∀ i, i < n → W.cell? ⟨gd, i, none⟩ = some (.int .i64 ((dgt k c i : Nat) : Int))) := hid (fun W hW i hi => by
          rw [hW.cell (p := ⟨gd, i, none⟩) hgd2, hr.cell i (by rw [elL_len]; exact hi)]
          simp [elL, hi])
        clear hr hb5 hB5 HD HI
        go_wp2_with (at_make; refine wpList_mk (w := w5) _ _ 23 3 (.int .i64 0) 8 rfl rfl Try.underlying23 Try.info3 rfl (by decide) w5.heap.size _ k rfl rfl rfl (by omega) (Nat.le_refl _) ?_; intro w6 hs6 hgr6 hz6)
        have hoi : OI w5.heap.size w6 (.slice (some ⟨w5.heap.size, 0, none⟩) k k) (mkL k (hsI n k c 0)) := by
          unfold OI
          rw [hsI_zero, List.map_replicate]
          exact hs6
        have hb6 : Below w5.heap.size w5 w6 := (Below.refl _ _).grown hgr6 (Nat.le_refl _) (fun k h => by cases h)
        have H6 := hid (And.intro hoi hb6)
        clear hs6 hgr6 hoi hb6
        go_loopw [13] (fun v13 wr => ∃ i : Nat, v13 = .int .i64 i ∧ i ≤ n ∧ OI w5.heap.size wr (.slice (some ⟨w5.heap.size, 0, none⟩) k k) (mkL k (hsI n k c i)) ∧ Below w5.heap.size w5 wr) (fun v13 _ => n - (intOf v13).toNat)
        case atStart => exact ⟨0, rfl, Nat.zero_le _, H6.out.1, H6.out.2⟩
        case round =>
          clear H6
          obtain ⟨i, rfl, hi, ho, hb⟩ := hrel
          by_cases hil : i < n
          · have hii : (i : Int) < (n : Int) := by omega
            have hd := HDT.out c i
            have hcd := HDC.out wr hb i hil
            have hfz := ho.frozen (dgt k c i)
            have hch := ho.cell (dgt k c i) (by rw [HLK.out]; exact hd)
            rw [mkL_get hd] at hch
            have hbd := hs_le n k c i (dgt k c i)
            obtain ⟨hs8, hg8⟩ := ho.stored (dgt k c i) (hsI n k c i (dgt k c i) + 1)
            rw [mkL_set hd fun y _ => hsI_step n k c i (y := y)] at hs8
            have hb8 := hb.grown hg8 hb.size (fun b e => by cases e; exact Nat.le_refl _)
            have hdi : ((dgt k c i : Nat) : Int) < (k : Int) := by omega
            have HX := hid (And.intro hs8 hb8)
            clear ho hb hs8 hg8 hb8
            generalize hsI n k c i (dgt k c i) = hv at *
            generalize dgt k c i = di at *
            go_wp2
            go_roundw
            case rel => exact ⟨i + 1, by go_num, by omega, HX.out.1, HX.out.2⟩
            case measure => simp [intOf] <;> omega
          · obtain rfl : i = n := by omega
            have hii : ¬ (i : Int) < (i : Int) := by omega
            have hB9 := HI5.out.2.trans (hb.mono HI5.out.2.size)
            have HII := hid (ints_any _ _ _ _ wr (ho.sl (by rw [HLK.out]; omega)) (HSL.out.below hB9))
            have HI9 := hid (And.intro (HI5.out.1.below hb) hB9)
            clear ho hb hB9
            rw [HCD.out c] at HII
            generalize conP i k m c = pc at *
            go_wp2_with fail
            refine HII.out.mono ?_
            rintro e w9 ⟨rfl, t, rfl⟩
            cases pc with
            | true =>
              rw [if_pos rfl] at HSk
              go_wp2
              go_roundw
              case rel => exact ⟨c + 1, by go_num, by omega, by rw [HSk.out]; go_num, HI9.out.1.drewN _, below_drewN HI9.out.2 _⟩
              case measure => simp [intOf] <;> omega
            | false =>
              rw [if_neg (by decide)] at HSk
              have HSk := hid (HSk.out.trans (Nat.add_zero _))
              go_wp2
              go_roundw
              case rel => exact ⟨c + 1, by go_num, by omega, by rw [HSk.out], HI9.out.1.drewN _, below_drewN HI9.out.2 _⟩
              case measure => simp [intOf] <;> omega
      · have hbe : (g c == ((c : Nat) : Int)) = false := beq_eq_false_iff_ne.2 he
        have HSk : Hid (SM (c + 1) = SM c) := hid (by rw [hss, if_neg (fun h => he h.1), Nat.add_zero])
        clear hss he
        generalize g c = gc at *
        go_wp2
        go_roundw
        case rel => exact ⟨c + 1, by go_num, by omega, by rw [HSk.out], HI.out.1, HI.out.2⟩
        case measure => simp [intOf] <;> omega
    · obtain rfl : c = N := by omega
      have hci : ¬ (c : Int) < (c : Int) := by omega
      have HI := hid (And.intro ho hb)
      clear ho hb
      go_wp2
      go_ret
      exact ⟨by rw [HR.out]; rfl, HI.out.2⟩
end Go.Proofs.Ytnbgnoimanpjnaa
/-
  The walk over parterrelaw1.CountContent. Conditions: the slices can be read; numbers of 64 bits.
-/
namespace Go.Proofs.Ytnbgnoimanpjnaa
set_option linter.unusedVariables false
open Go.RowKit

set_option maxHeartbeats 1000000 in
theorem ccon_bad (w : World) (n : Int) (v vm : Value) (ll : List (List Int)) (m : List Int) (hl : RL w v ll) (hm : Sl w vm m) (hE : grpE n ll ≠ 0) :
    Calls Try.prog 11 #[.int .i64 n, v, vm] w fun e w' => e = .returned (.bool true) ∧ Below w.heap.size w w' := by
  have HG := hid (fun w1 (hb : Below w.heap.size w w1) => gfault_bel n v ll w1 (hl.below hb))
  have HC := hid (fun w1 (hb : Below w.heap.size w w1) => con_bad n v vm ll w1 (hl.below hb) hE)
  obtain ⟨a, c, N, rfl, hN, hc1, hc2⟩ := hl.open
  obtain ⟨am, cm, M, rfl, hM, hm1, hm2⟩ := hm.open
  have hb : (grpE n ll != 0) = true := bne_iff_ne.2 hE
  have hb2 : (grpE n ll == 0) = false := beq_eq_false_iff_ne.2 hE
  clear hE hl hc2 hm hm2
  generalize grpE n ll = E at *
  go_enter Try.func11, Try.ntmps11
  go_wp2_with fail
  refine (HG.out _ (Below.refl _ _)).mono ?_
  rintro e w1 ⟨rfl, hb1⟩
  have H1 := hid hb1
  clear hb1
  go_wp2_with fail
  go_loopw [7, 8, 9] (fun v7 v8 v9 wr => v7 = .int .i64 E ∧ v8 = .int .i64 0 ∧ v9 = .int .i64 0 ∧ wr = w1) (fun _ _ _ _ => 0)
  case atStart => exact ⟨rfl, rfl, rfl, rfl⟩
  case round =>
    obtain ⟨rfl, rfl, rfl, hw⟩ := hrel
    subst hw
    by_cases hM0 : 0 < M
    · have hMi : (0 : Int) < (M : Int) := by omega
      go_wp2_with fail
      refine (HC.out _ H1.out).mono ?_
      rintro e w2 ⟨rfl, hb2⟩
      have H2 := hid (H1.out.trans (hb2.mono H1.out.size))
      clear hb2
      go_wp2
      go_ret
      exact ⟨by simp, H2.out⟩
    · have hMi : ¬ (0 : Int) < (M : Int) := by omega
      go_wp2_with fail
      refine (HC.out _ H1.out).mono ?_
      rintro e w2 ⟨rfl, hb2⟩
      have H2 := hid (H1.out.trans (hb2.mono H1.out.size))
      clear hb2
      go_wp2
      go_ret
      exact ⟨by simp, H2.out⟩

set_option maxHeartbeats 4000000 in
set_option maxRecDepth 100000 in
theorem ccon_ok (w : World) (n : Nat) (v vm : Value) (ll : List (List Int)) (m : List Int) (hl : RL w v ll) (hm : Sl w vm m) (hE : grpE (n : Int) ll = 0) :
    Calls Try.prog 11 #[.int .i64 n, v, vm] w fun e w' => e = .returned (.bool true) ∧ Below w.heap.size w w' := by
  obtain ⟨n', hn', hG⟩ := gok_of hE
  obtain rfl : n = n' := by omega
  have hn7 := hG.n7
  have hn1 := hG.n1
  have hmv := hG.mv
  have hlen := GL_len9 hG
  have hel := ll_el hG.pm
  have hml : (msL n ll).length ≤ 1000000 := by rw [msL_len]; have := hG.l4; omega
  have HGF := hid (fun w1 (hb : Below w.heap.size w w1) => gfault_bel n v ll w1 (hl.below hb))
  have HC := hid (fun w1 (hb : Below w.heap.size w w1) => con_ok n v vm ll m w1 (hl.below hb) hE (hm.below hb))
  have HCX := hid (fun w1 (hb : Below w.heap.size w w1) (mm : List Nat) (hk1 : 1 ≤ mm.length) (hk : mm.length ≤ 7) (hmm : m = intsL mm) => gconof_ok n mm.length v vm (msL n ll) mm w1 hk1 hk hn1 hn7 (by rw [← hel]; exact hl.below hb) hmv hml (by rw [← hmm]; exact hm.below hb) rfl)
  obtain ⟨a, c, N, rfl, hN, hc1, hc2⟩ := hl.open
  obtain ⟨am, cm, M, rfl, hM, hm1, hm2⟩ := hm.open
  rw [hE] at HGF
  have HM2 := hid hm2
  have HE3 : Hid (8 < M → conE n m = 3 ∧ conR n (GL n (msL n ll)) m = 0) := hid (fun h => by
    have := conE_3 (n := n) (m := m) (by rw [hM.out]; exact h)
    exact ⟨this, by unfold conR; rw [this, if_neg (by decide)]⟩)
  have HE1 : Hid (M ≤ 8 → ∀ i, i < M → (m.getD i 0 < 0 ∨ (n : Int) < m.getD i 0) → conE n m = 1 ∧ conR n (GL n (msL n ll)) m = 0) := hid (fun h i hi hb => by
    have := conE_1 (n := n) (m := m) (by rw [hM.out]; exact h) (by rw [hM.out]; exact hi) hb
    exact ⟨this, by unfold conR; rw [this, if_neg (by decide)]⟩)
  have HE2 : Hid (M ≤ 8 → (∀ j, j < M → 0 ≤ m.getD j 0 ∧ m.getD j 0 ≤ (n : Int)) → sI m M ≠ (n : Int) → conE n m = 2 ∧ conR n (GL n (msL n ll)) m = 0) := hid (fun h hg hs => by
    rw [← hM.out] at h hg hs
    rw [sI_all] at hs
    have := conE_2 (n := n) (m := m) h hg hs
    exact ⟨this, by unfold conR; rw [this, if_neg (by decide)]⟩)
  have HE0 : Hid (M ≤ 8 → (∀ j, j < M → 0 ≤ m.getD j 0 ∧ m.getD j 0 ≤ (n : Int)) → sI m M = (n : Int) → conE n m = 0 ∧ ∃ mm : List Nat, m = intsL mm ∧ mm.length = M ∧ 1 ≤ M ∧ conR n (GL n (msL n ll)) m = clN (GL n (msL n ll)) (colA n mm.length) (mm.length ^ n) (conP n mm.length mm)) := hid (fun h hg hs => by
    rw [← hM.out] at h hg hs ⊢
    rw [sI_all] at hs
    have hz := conE_0 (n := n) (m := m) h hg hs
    obtain ⟨mm, e1, e2, e3, e4, e5⟩ := con_zero hz
    have hk1 : 1 ≤ mm.length := by
      apply Classical.byContradiction
      intro h0
      rw [List.eq_nil_of_length_eq_zero (l := mm) (by omega)] at e4
      simp at e4
      omega
    refine ⟨hz, mm, e1, by rw [e1, intsL_len], by rw [e1, intsL_len]; exact hk1, ?_⟩
    unfold conR
    rw [if_pos hz, e2, con_burn hk1 hn7 hmv rfl e4, Nat.mul_div_cancel_left _ (by omega)])
  have HSI : Hid (∀ i, i < M → sI m (i + 1) = sI m i + m.getD i 0) := hid (fun i hi => sI_succ (by rw [hM.out]; exact hi))
  have HS0 : Hid (sI m 0 = 0) := hid (by simp [sI])
  have HSB : Hid (∀ i, i ≤ M → (∀ j, j < i → 0 ≤ m.getD j 0 ∧ m.getD j 0 ≤ (n : Int)) → 0 ≤ sI m i ∧ sI m i ≤ 7 * i) := hid (fun i hi hg => sI_bd hn7 i (by rw [hM.out]; exact hi) hg)
  clear hE hl hc2 hG hn' hm hm2 hmv hel hml hlen
  generalize conR n (GL n (msL n ll)) m = RV at *
  generalize conE n m = CE at *
  generalize sI m = SI at *
  have HCL : Hid (∀ mm : List Nat, ∃ R : Nat, clN (GL n (msL n ll)) (colA n mm.length) (mm.length ^ n) (conP n mm.length mm) = R) := hid (fun mm => ⟨_, rfl⟩)
  go_enter Try.func11, Try.ntmps11
  go_wp2_with fail
  refine (HGF.out _ (Below.refl _ _)).mono ?_
  rintro e w1 ⟨rfl, hb1⟩
  have H1 := hid hb1
  clear hb1
  by_cases h8 : 8 < M
  · have h8i : (8 : Int) < (M : Int) := by omega
    obtain ⟨rfl, rfl⟩ := HE3.out h8
    go_wp2_with fail
    go_loopw [7, 8, 9] (fun v7 v8 v9 wr => v7 = .int .i64 3 ∧ v8 = .int .i64 0 ∧ v9 = .int .i64 0 ∧ wr = w1) (fun _ _ _ _ => 0)
    case atStart => exact ⟨rfl, rfl, rfl, rfl⟩
    case round =>
      obtain ⟨rfl, rfl, rfl, hw⟩ := hrel
      subst hw
      have hMi : (0 : Int) < (M : Int) := by omega
      go_wp2_with fail
      refine (HC.out _ H1.out).mono ?_
      rintro e w2 ⟨rfl, hb2⟩
      have H2 := hid (H1.out.trans (hb2.mono H1.out.size))
      clear hb2
      go_wp2
      go_ret
      exact ⟨by simp, H2.out⟩
  have h8i : ¬ (8 : Int) < (M : Int) := by omega
  have h8n : M ≤ 8 := by omega
  clear HE3
  go_wp2_with fail
  go_loopw [7, 8, 9] (fun v7 v8 v9 wr => ∃ i : Nat, v9 = .int .i64 i ∧ i ≤ M ∧ wr = w1 ∧ ((v7 = .int .i64 0 ∧ v8 = .int .i64 (SI i) ∧ ∀ j, j < i → 0 ≤ m.getD j 0 ∧ m.getD j 0 ≤ (n : Int)) ∨ (v7 = .int .i64 1 ∧ (∃ s, v8 = .int .i64 s) ∧ CE = 1 ∧ RV = 0))) (fun _ _ v9 _ => M - (intOf v9).toNat)
  case atStart => exact ⟨0, rfl, Nat.zero_le _, rfl, .inl ⟨rfl, by rw [HS0.out], fun j hj => by omega⟩⟩
  case round =>
    obtain ⟨i, rfl, hi, hw, ⟨rfl, rfl, hg⟩ | ⟨rfl, ⟨s, rfl⟩, rfl, rfl⟩⟩ := hrel
    · subst hw
      have hsb := HSB.out i hi hg
      have HG := hid hg
      clear hg
      by_cases hil : i < M
      · have hii : (i : Int) < (M : Int) := by omega
        obtain ⟨mb, mo, rfl, hmb, hmc⟩ := HM2.out (by omega)
        have hcx := (H1.out.cell (p := ⟨mb, mo + i, none⟩) hmb).trans (hmc i hil)
        rw [← List.getD_eq_getElem?_getD] at hcx
        have hstep := HSI.out i hil
        have h1 := HE1.out h8n i hil
        obtain ⟨x, hx⟩ : ∃ x, m.getD i 0 = x := ⟨_, rfl⟩
        have HXX := hid hx
        rw [hx] at hcx hstep h1
        clear hmc hx
        by_cases h0 : x < 0
        · obtain ⟨rfl, rfl⟩ := h1 (.inl h0)
          go_wp2
          go_roundw
          case rel => exact ⟨i + 1, by go_num, by omega, trivial, by simp⟩
          case measure => simp [intOf] <;> omega
        · by_cases h2 : (n : Int) < x
          · obtain ⟨rfl, rfl⟩ := h1 (.inr h2)
            go_wp2
            go_roundw
            case rel => exact ⟨i + 1, by go_num, by omega, trivial, by simp⟩
            case measure => simp [intOf] <;> omega
          · have HST := hid hstep
            clear h1 hstep
            go_wp2
            go_roundw
            case rel =>
              refine ⟨i + 1, by go_num, by omega, trivial, .inl ⟨by first | rfl | trivial, by rw [HST.out], fun j hj => ?_⟩⟩
              by_cases e : j = i
              · rw [e, HXX.out]; omega
              · exact HG.out j (by omega)
            case measure => simp [intOf] <;> omega
      · obtain rfl : i = M := by omega
        have hii : ¬ (i : Int) < (i : Int) := by omega
        by_cases hs : SI i = (n : Int)
        · obtain ⟨rfl, mm, hmm, hmml, hM1, hRV⟩ := HE0.out h8n HG.out hs
          have HRV := hid hRV
          have HMM := hid (And.intro hmm hmml)
          clear HE1 HE2 HE0 hRV hmm hmml hsb HG
          go_wp2_with fail
          refine (HC.out _ H1.out).mono ?_
          rintro e w2 ⟨rfl, hb2⟩
          have H2 := hid (H1.out.trans (hb2.mono H1.out.size))
          clear hb2
          by_cases h3 : 3 < i
          · have h3i : (3 : Int) < (i : Int) := by omega
            go_wp2
            go_ret
            exact ⟨by simp, H2.out⟩
          · have h3i : ¬ (3 : Int) < (i : Int) := by omega
            have HCY := hid (HCX.out _ H2.out mm (by rw [HMM.out.2]; exact hM1) (by rw [HMM.out.2]; omega) HMM.out.1)
            rw [← HRV.out] at HCY
            go_wp2_with fail
            refine HCY.out.mono ?_
            rintro e w3 ⟨rfl, hb3⟩
            have H3 := hid (H2.out.trans (hb3.mono H2.out.size))
            clear hb3
            go_wp2
            go_ret
            exact ⟨by simp, H3.out⟩
        · obtain ⟨rfl, rfl⟩ := HE2.out h8n HG.out hs
          go_wp2_with fail
          refine (HC.out _ H1.out).mono ?_
          rintro e w2 ⟨rfl, hb2⟩
          have H2 := hid (H1.out.trans (hb2.mono H1.out.size))
          clear hb2
          go_wp2
          go_ret
          exact ⟨by simp, H2.out⟩
    · subst hw
      by_cases hil : i < M
      · have hii : (i : Int) < (M : Int) := by omega
        go_wp2_with fail
        refine (HC.out _ H1.out).mono ?_
        rintro e w2 ⟨rfl, hb2⟩
        have H2 := hid (H1.out.trans (hb2.mono H1.out.size))
        clear hb2
        go_wp2
        go_ret
        exact ⟨by simp, H2.out⟩
      · have hii : ¬ (i : Int) < (M : Int) := by omega
        go_wp2_with fail
        refine (HC.out _ H1.out).mono ?_
        rintro e w2 ⟨rfl, hb2⟩
        have H2 := hid (H1.out.trans (hb2.mono H1.out.size))
        clear hb2
        go_wp2
        go_ret
        exact ⟨by simp, H2.out⟩

theorem ccon_walk (w : World) (n : Int) (_hn : I64 n) (v : Value) (ll : List (List Int)) (hl : RL w v ll) (_hll : ∀ l ∈ ll, ∀ x ∈ l, I64 x) (vm : Value) (m : List Int) (hm : Sl w vm m) (_hmm : ∀ x ∈ m, I64 x) :
    Calls Try.prog 11 #[.int .i64 n, v, vm] w fun e w' => e = .returned (.bool true) ∧ Below w.heap.size w w' := by
  by_cases hE : grpE n ll = 0
  · obtain ⟨n', rfl, hG⟩ := gok_of hE
    exact ccon_ok w n' v vm ll m hl hm hE
  · exact ccon_bad w n v vm ll m hl hm hE
end Go.Proofs.Ytnbgnoimanpjnaa
namespace Go.Proofs.Ytnbgnoimanpjnaa.countContent
open Go.ChangeShapes Go.WideShapes Go.ChangeAt Go.RowKit
set_option linter.unusedVariables false

theorem own : ownKnob Try.prog.godebug = none := by kernel_rfl
theorem laidOut : laidOutB Try.prog = true := by kernel_rfl
set_option maxRecDepth 100000 in
theorem lifted (os : Os) (started : os.Started) (H : Type) (enc : TypeId × Value → H) :
    ReturnsInHanded {} Try.checked os 11 .any (Rows.countContentSpec.pre6 enc Try.prog Try.f11 Rows.countContentRow.domain false) (Rows.countContentSpec.post enc Try.prog Try.f11 false true false false) := by
  refine returnsInHanded_of_change_sized (C := Try.checked) own started (by kernel_rfl) Try.func11
    (ChangeSpec.witness6 (enc := enc) (C := Try.checked) false ⟨#[], #[.int .i64 0, .slice none 0 0, .slice none 0 0], []⟩ 8 (by kernel_rfl) (by kernel_rfl) (by kernel_rfl) (by kernel_rfl)) ?_
  intro W base args ds gs before hval0 hW hcnd hsz0 _
  have hval : ∀ (j : Nat) t v, Try.f11.params[j]? = some t → args[j]? = some v → Value.okWide Try.prog W .any base t v := hval0
  have hsz : (DataW.weightsEach Try.prog (Try.f11.params.toList ++ Rows.countContentSpec.plain.varTypes Try.prog) (ds ++ gs)).all (· ≤ reachBytes) = true := hsz0
  have hW' := hW
  obtain ⟨p, q, hA0, hV, rfl, hfz, hnd⟩ := hW
  have hA : DataW.TrodAll enc Try.prog W 0 (fun _ => true) true Try.f11.params.toList args.toList ds p := hA0
  rw [Try.params11] at hA hval hsz
  obtain ⟨v0, vs0, d0, ds0, p0, q0, hargs, rfl, rfl, h0, r0⟩ := trodAll_cons hA
  obtain ⟨v1, vs1, d1, ds1, p1, q1, rfl, rfl, rfl, h1, r1⟩ := trodAll_cons r0
  obtain ⟨v2, vs2, d2, ds2, p2, q2, rfl, rfl, rfl, h2, r2⟩ := trodAll_cons r1
  obtain ⟨rfl, rfl, rfl⟩ := trodAll_nil r2
  obtain rfl : args = #[v0, v1, v2] := by cases args; simp_all
  obtain ⟨rfl, rfl⟩ := trodVars_none hV
  obtain ⟨a0, rfl, rfl, rfl, w0⟩ := open_int Try.underlying3 (hval 0 3 v0 rfl rfl) h0
  obtain ⟨a1, len1, cap1, rfl⟩ := okWide_slice Try.underlying22 (hval 1 22 v1 rfl rfl)
  have k1 := h1
  have lt1 : ∀ x ∈ p1, x.block < W.heap.size := by obtain ⟨m, hm⟩ := k1; exact DataW.trod_lt m _ _ _ hm
  obtain ⟨z1, s1, b1⟩ : ∃ l, RL W (.slice a1 len1 cap1) l ∧ ∀ m ∈ l, ∀ x ∈ m, I64 x := by
    obtain ⟨fuel, hf⟩ := h1
    exact rl_of_open Try.underlying22 Try.underlying23 Try.underlying3 (by kernel_rfl) (by kernel_rfl) (by kernel_rfl) (by kernel_rfl) hf (fun elems spare hd => by subst hd; exact sized_rows hsz (j := 1) (t := 22) (e := 23) (q := 3) rfl rfl Try.underlying22 Try.underlying23)
  obtain ⟨a2, len2, cap2, rfl⟩ := okWide_slice Try.underlying23 (hval 2 23 v2 rfl rfl)
  have k2 := h2
  have lt2 : ∀ x ∈ p2, x.block < W.heap.size := by obtain ⟨m, hm⟩ := k2; exact DataW.trod_lt m _ _ _ hm
  obtain ⟨z2, s2, b2⟩ : ∃ l, Sl W (.slice a2 len2 cap2) l ∧ ∀ x ∈ l, I64 x := by
    obtain ⟨fuel, hf⟩ := h2
    exact sl_of_open Try.underlying23 Try.underlying3 (by kernel_rfl) (by kernel_rfl) hf (fun elems spare hd => by subst hd; exact sized_slice hsz (j := 2) (t := 23) (e := 3) rfl rfl Try.underlying23)
  clear hA0 hval0 hsz hsz0
  refine (ccon_walk W a0 (I64.of_wf w0) _ z1 s1 b1 _ z2 s2 b2).mono fun e W' ⟨he, bel⟩ => ?_
  subst he
  exact ⟨_, rfl, _, _, _, [], _, [], hW', trodAll_mk1 (shut_bool Try.underlying4 _), (trodAll_cons_mk (shut_int Try.underlying3 w0) (trodAll_cons_mk (Below.trod laidOut (by kernel_rfl) (of_decide_eq_true (by kernel_rfl)) k1 bel lt1) (trodAll_cons_mk (Below.trod laidOut (by kernel_rfl) (of_decide_eq_true (by kernel_rfl)) k2 bel lt2) trodAll_mk0))), rfl, bel.frame _, fun h => by cases h⟩

theorem over : Rows.countContentRow.holds Try.pinned (OpenSpec.ofChange Rows.countContentSpec) :=
  OpenClaim.holds_of_wide 11 Try.f11 rfl rfl rfl rfl rfl rfl rfl ⟨rfl, rfl, rfl, rfl, rfl⟩ rfl rfl rfl rfl rfl (by kernel_rfl) Try.func11 (by kernel_rfl)
    (of_decide_eq_true (by kernel_rfl)) (by unfold Func.isWrapper; first | (rw [if_pos (by decide +kernel)]; kernel_rfl) | (rw [if_neg (by decide +kernel)]; exact ⟨rfl, rfl⟩))
    (fun os started H enc _ => lifted os started H enc)

/-- The statement. -/
theorem proved : Rows.CountContentSaid := over
#print axioms proved
end Go.Proofs.Ytnbgnoimanpjnaa.countContent
