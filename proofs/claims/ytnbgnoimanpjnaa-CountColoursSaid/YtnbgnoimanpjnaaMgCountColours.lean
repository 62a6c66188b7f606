/-
  The law parterrelaw1.CountColours: for every input it returns true, and what it was handed reads afterwards as before. No condition.
-/
import Derived.Test.YtnbgnoimanpjnaaCsum
import Derived.Test.YtnbgnoimanpjnaaGmem
import Derived.Deep.Cut
import Derived.Test.YtnbgnoimanpjnaaGlex
import Derived.Test.YtnbgnoimanpjnaaGaid
import Derived.Shelf.SlSortCmp.Whole1
import Derived.Test.YtnbgnoimanpjnaaCcol
import Derived.Test.YtnbgnoimanpjnaaGPlen
import Derived.Test.YtnbgnoimanpjnaaGlord
import Derived.ProofKit
import Derived.OpenShut
import Derived.SizedLaws
/-
  A group that moves what has numbers: what stays is, together, the order times the classes (Cauchy, Frobenius). No program in sight.
-/
namespace Go.Proofs.Ytnbgnoimanpjnaa
set_option linter.unusedVariables false

/-- Numbers below N are moved by what makers make; those of which P says so stay among themselves. -/
structure Acts (n : Nat) (ms : List (Nat → Nat)) (N : Nat) (A : (Nat → Nat) → Nat → Nat) (P : Nat → Bool) : Prop where
  lt : ∀ a, GenF ms a → ∀ p, p < N → A a p < N
  one : ∀ p, p < N → A id p = p
  mul : ∀ a b, GenF ms a → GenF ms b → ∀ p, p < N → A (compF a b) p = A b (A a p)
  keep : ∀ a, GenF ms a → ∀ p, p < N → P (A a p) = P p
/-- Moved to q by some; the least of its class; how many move p to q. -/
def orB (L : List (Nat → Nat)) (A : (Nat → Nat) → Nat → Nat) (p q : Nat) : Bool := L.any fun a => A a p == q
def ldB (L : List (Nat → Nat)) (A : (Nat → Nat) → Nat → Nat) (p : Nat) : Bool := (List.range p).all fun q => !(orB L A p q)
def avN (L : List (Nat → Nat)) (A : (Nat → Nat) → Nat → Nat) (p q : Nat) : Nat := (L.filter fun a => A a p == q).length
/-- How many numbers stay; how many classes there are. -/
def stN (A : (Nat → Nat) → Nat → Nat) (N : Nat) (P : Nat → Bool) (a : Nat → Nat) : Nat := sumN (fun p => if P p = true ∧ A a p = p then 1 else 0) N
def clN (L : List (Nat → Nat)) (A : (Nat → Nat) → Nat → Nat) (N : Nat) (P : Nat → Bool) : Nat := sumN (fun p => if P p = true ∧ ldB L A p = true then 1 else 0) N
section
variable {n N : Nat} {ms : List (Nat → Nat)} {A : (Nat → Nat) → Nat → Nat} {P : Nat → Bool}
theorem mem_orB (hm : ∀ m ∈ ms, Mv n m) (p q : Nat) : orB (GL n ms) A p q = true ↔ ∃ a, GenF ms a ∧ A a p = q := by
  unfold orB
  rw [List.any_eq_true]
  simp only [beq_iff_eq, mem_GL hm]
theorem orB_symm (hm : ∀ m ∈ ms, Mv n m) (H : Acts n ms N A P) {p q : Nat} (hp : p < N) (h : orB (GL n ms) A p q = true) : orB (GL n ms) A q p = true := by
  obtain ⟨a, ha, rfl⟩ := (mem_orB hm p q).1 h
  refine (mem_orB hm _ p).2 ⟨bkF n a, ha.bk hm, ?_⟩
  rw [← H.mul a _ ha (ha.bk hm) p hp, comp_bk (ha.mv hm), H.one p hp]
theorem orB_trans (hm : ∀ m ∈ ms, Mv n m) (H : Acts n ms N A P) {p q r : Nat} (hp : p < N) (h : orB (GL n ms) A p q = true) (k : orB (GL n ms) A q r = true) : orB (GL n ms) A p r = true := by
  obtain ⟨a, ha, rfl⟩ := (mem_orB hm p q).1 h
  obtain ⟨b, hb, rfl⟩ := (mem_orB hm _ r).1 k
  exact (mem_orB hm p _).2 ⟨compF a b, ha.mul hb, H.mul a b ha hb p hp⟩
theorem orB_lt (hm : ∀ m ∈ ms, Mv n m) (H : Acts n ms N A P) {p q : Nat} (hp : p < N) (h : orB (GL n ms) A p q = true) : q < N := by
  obtain ⟨a, ha, rfl⟩ := (mem_orB hm p q).1 h
  exact H.lt a ha p hp
theorem av_same (hm : ∀ m ∈ ms, Mv n m) (H : Acts n ms N A P) {p q : Nat} (hp : p < N) (h : orB (GL n ms) A p q = true) : avN (GL n ms) A p q = avN (GL n ms) A q q := by
  obtain ⟨b, hg, rfl⟩ := (mem_orB hm p q).1 h
  have Q := hg.mv hm
  have hinj : ∀ x y, compF b x = compF b y → x = y := fun x y e => by
    have : compF (bkF n b) (compF b x) = compF (bkF n b) (compF b y) := by rw [e]
    rw [← comp_assoc, ← comp_assoc, bk_comp Q] at this
    exact this
  unfold avN
  have h2 : (((GL n ms).filter fun a => A a (A b p) == A b p).map (compF b)).Nodup := by
    unfold List.Nodup
    rw [List.pairwise_map]
    exact ((GL_nodup n ms).filter _).imp fun h e => h (hinj _ _ e)
  rw [show ((GL n ms).filter fun a => A a (A b p) == A b p).length = (((GL n ms).filter fun a => A a (A b p) == A b p).map (compF b)).length by simp]
  refine same_len ((GL_nodup n ms).filter _) h2 fun x => ?_
  simp only [List.mem_filter, List.mem_map, mem_GL hm, beq_iff_eq]
  constructor
  · rintro ⟨hx, e⟩
    refine ⟨compF (bkF n b) x, ⟨(hg.bk hm).mul hx, ?_⟩, ?_⟩
    · have h3 : A (bkF n b) (A b p) = p := by rw [← H.mul b _ hg (hg.bk hm) p hp, comp_bk Q, H.one p hp]
      rw [H.mul _ x (hg.bk hm) hx _ (H.lt b hg p hp), h3, e]
    · rw [← comp_assoc, comp_bk Q]; rfl
  · rintro ⟨a, ⟨ha, e⟩, rfl⟩
    exact ⟨hg.mul ha, by rw [H.mul b a hg ha p hp]; exact e⟩
theorem split_at (N : Nat) (f : (Nat → Nat) → Nat) : ∀ L : List (Nat → Nat), (∀ a ∈ L, f a < N) → sumN (fun q => (L.filter fun a => f a == q).length) N = L.length
  | [], _ => by
    simp only [List.filter_nil, List.length_nil]
    exact sumN_zero N
  | a :: L, h => by
    have ih := split_at N f L (fun b hb => h b (by simp [hb]))
    have h1 : sumN (fun q => ((a :: L).filter fun a => f a == q).length) N = sumN (fun q => (if q = f a then 1 else 0) + (L.filter fun a => f a == q).length) N := by
      refine sumN_congr N fun q _ => ?_
      by_cases e : f a = q
      · rw [List.filter_cons, if_pos (by simp [e]), if_pos e.symm, List.length_cons]; omega
      · rw [List.filter_cons, if_neg (by simp [e]), if_neg (fun h => e h.symm)]; omega
    rw [h1, sumN_add, ih, sumN_one (h a (by simp)) (fun _ => 1)]
    simp only [List.length_cons]
    omega
/-- Over one class the stabilizers' orders sum up to the group's. -/
theorem or_stab (hm : ∀ m ∈ ms, Mv n m) (H : Acts n ms N A P) {p : Nat} (hp : p < N) : sumN (fun q => if orB (GL n ms) A p q = true then avN (GL n ms) A q q else 0) N = (GL n ms).length := by
  rw [← split_at N (fun a => A a p) (GL n ms) fun a ha => H.lt a ((mem_GL hm a).1 ha) p hp]
  refine sumN_congr N fun q hq => ?_
  by_cases h : orB (GL n ms) A p q = true
  · rw [if_pos h, ← av_same hm H hp h]
    rfl
  · rw [if_neg h]
    symm
    refine List.length_eq_zero_iff.2 (List.filter_eq_nil_iff.2 fun a ha e => h ((mem_orB hm p q).2 ⟨a, (mem_GL hm a).1 ha, by simpa using e⟩))
theorem ld_iff (L : List (Nat → Nat)) (A : (Nat → Nat) → Nat → Nat) (p : Nat) : ldB L A p = true ↔ ∀ q, q < p → ¬ orB L A p q = true := by
  unfold ldB
  rw [List.all_eq_true]
  simp only [List.mem_range, Bool.not_eq_true', Bool.not_eq_true]
/-- Each has one least that comes to it. -/
theorem one_ld (hm : ∀ m ∈ ms, Mv n m) (H : Acts n ms N A P) {p : Nat} (hp : p < N) (hP : P p = true) : ∃ l, l < N ∧ ∀ j, j < N → ((P j = true ∧ ldB (GL n ms) A j = true ∧ orB (GL n ms) A j p = true) ↔ j = l) := by
  obtain ⟨l, ⟨hl, hr⟩, hmin⟩ := least_of (P := fun l => l < N ∧ orB (GL n ms) A l p = true) ⟨p, hp, (mem_orB hm p p).2 ⟨id, GenF.one, H.one p hp⟩⟩
  have hlead : ldB (GL n ms) A l = true := (ld_iff _ _ l).2 fun q hq h => hmin q hq ⟨by omega, orB_trans hm H (by omega) (orB_symm hm H hl h) hr⟩
  have hPl : ∀ j, j < N → orB (GL n ms) A j p = true → P j = true := fun j hj h => by
    obtain ⟨a, ha, e⟩ := (mem_orB hm j p).1 h
    rw [← H.keep a ha j hj, e, hP]
  refine ⟨l, hl, fun j hj => ⟨fun ⟨_, h1, h2⟩ => ?_, fun e => by subst e; exact ⟨hPl j hj hr, hlead, hr⟩⟩⟩
  rcases Nat.lt_trichotomy j l with h | h | h
  · exact absurd ⟨hj, h2⟩ (hmin j h)
  · exact h
  · exact absurd (orB_trans hm H hj h2 (orB_symm hm H hl hr)) ((ld_iff _ _ j).1 h1 l h)
theorem burn_count (hm : ∀ m ∈ ms, Mv n m) (H : Acts n ms N A P) : ((GL n ms).map fun a => stN A N P a).sum = (GL n ms).length * clN (GL n ms) A N P := by
  have h1 : ∀ L : List (Nat → Nat), (L.map fun a => stN A N P a).sum = sumN (fun p => if P p = true then avN L A p p else 0) N := by
    intro L
    induction L with
    | nil =>
      rw [sumN_congr N (h := fun _ => 0) (fun p _ => by simp [avN]), sumN_zero]
      rfl
    | cons a L ih =>
      rw [List.map_cons, List.sum_cons, ih]
      unfold stN
      rw [← sumN_add]
      refine sumN_congr N fun p _ => ?_
      by_cases hP : P p = true
      · rw [if_pos hP, if_pos hP]
        unfold avN
        by_cases e : A a p = p
        · rw [if_pos ⟨hP, e⟩, List.filter_cons, if_pos (by simp [e]), List.length_cons]; omega
        · rw [if_neg (fun h => e h.2), List.filter_cons, if_neg (by simp [e])]; omega
      · rw [if_neg (fun h => hP h.1), if_neg hP, if_neg hP]
  rw [h1]
  have h2 : sumN (fun p => if P p = true then avN (GL n ms) A p p else 0) N = sumN (fun p => sumN (fun l => if P l = true ∧ ldB (GL n ms) A l = true then (if orB (GL n ms) A l p = true then avN (GL n ms) A p p else 0) else 0) N) N := by
    refine sumN_congr N fun p hp => ?_
    by_cases hP : P p = true
    · rw [if_pos hP]
      obtain ⟨l, hl, hj⟩ := one_ld hm H hp hP
      refine Eq.trans (sumN_one hl (fun _ => avN (GL n ms) A p p)).symm (sumN_congr N fun j hjN => ?_)
      by_cases e : j = l
      · obtain ⟨a1, a2, a3⟩ := (hj j hjN).2 e
        rw [if_pos e, if_pos ⟨a1, a2⟩, if_pos a3]
      · rw [if_neg e]
        by_cases h3 : P j = true ∧ ldB (GL n ms) A j = true
        · rw [if_pos h3, if_neg (fun h => e ((hj j hjN).1 ⟨h3.1, h3.2, h⟩))]
        · rw [if_neg h3]
    · rw [if_neg hP, sumN_congr N (h := fun _ => 0) (fun l hl => ?_), sumN_zero]
      by_cases h3 : P l = true ∧ ldB (GL n ms) A l = true
      · rw [if_pos h3, if_neg]
        intro h
        obtain ⟨a, ha, e⟩ := (mem_orB hm l p).1 h
        exact hP (by rw [← e, H.keep a ha l hl]; exact h3.1)
      · rw [if_neg h3]
  rw [h2, sumN_swap]
  unfold clN
  rw [← sumN_mul]
  refine sumN_congr N fun l hl => ?_
  by_cases h3 : P l = true ∧ ldB (GL n ms) A l = true
  · rw [if_pos h3, Nat.mul_one, ← or_stab hm H hl]
    exact sumN_congr N fun p _ => if_pos h3
  · rw [if_neg h3, sumN_congr N (h := fun _ => 0) (fun p _ => if_neg h3), sumN_zero, Nat.mul_zero]
end
end Go.Proofs.Ytnbgnoimanpjnaa
/-
  Digits of numbers, the lowest first. No program in sight.
-/
namespace Go.Proofs.Ytnbgnoimanpjnaa
set_option linter.unusedVariables false

/-- The number of m digits from the i-th on, the lowest first. -/
def numF (P : Nat) (x : Nat → Nat) (i : Nat) : Nat → Nat
  | 0 => 0
  | m + 1 => x i + P * numF P x (i + 1) m
theorem numF_lt {P : Nat} {x : Nat → Nat} {N : Nat} (h : ∀ i, i < N → x i < P) : ∀ m i, i + m ≤ N → numF P x i m < P ^ m
  | 0, _, _ => by simp [numF]
  | m + 1, i, hi => by
    have h1 := numF_lt h m (i + 1) (by omega)
    have h2 := h i (by omega)
    have h3 : P * (numF P x (i + 1) m + 1) ≤ P * P ^ m := Nat.mul_le_mul (Nat.le_refl _) h1
    rw [numF, Nat.pow_succ, Nat.mul_comm (P ^ m) P]
    rw [Nat.mul_add] at h3
    omega
theorem numF_inj {P : Nat} {x y : Nat → Nat} {N : Nat} (h : ∀ i, i < N → x i < P) (h' : ∀ i, i < N → y i < P) : ∀ m i, i + m ≤ N → numF P x i m = numF P y i m → ∀ j, i ≤ j → j < i + m → x j = y j
  | 0, _, _, _, j, h1, h2 => by omega
  | m + 1, i, hi, e, j, h1, h2 => by
    have hx := h i (by omega)
    have hy := h' i (by omega)
    unfold numF at e
    have e0 : x i = y i := by
      have := congrArg (· % P) e
      simp only [Nat.add_mul_mod_self_left, Nat.mod_eq_of_lt hx, Nat.mod_eq_of_lt hy] at this
      exact this
    by_cases hj : j = i
    · rw [hj, e0]
    · refine numF_inj h h' m (i + 1) (by omega) ?_ j (by omega) (by omega)
      rw [e0] at e
      exact Nat.eq_of_mul_eq_mul_left (by omega) (Nat.add_left_cancel e)
theorem numF_congr {P : Nat} {x y : Nat → Nat} : ∀ m i, (∀ j, i ≤ j → j < i + m → x j = y j) → numF P x i m = numF P y i m
  | 0, _, _ => rfl
  | m + 1, i, h => by
    rw [numF, numF, h i (Nat.le_refl _) (by omega), numF_congr m (i + 1) fun j h1 h2 => h j (by omega) (by omega)]
theorem pow7 {P N : Nat} (hP : P ≤ 7) (hN : N ≤ 7) : P ^ N ≤ 823543 := Nat.le_trans (Nat.pow_le_pow_left hP N) (Nat.le_trans (Nat.pow_le_pow_right (by omega) hN) (by decide))
/-- The i-th digit. -/
def dgt (k c i : Nat) : Nat := c / k ^ i % k
theorem dgt_lt {k : Nat} (hk : 1 ≤ k) (c i : Nat) : dgt k c i < k := Nat.mod_lt _ hk
theorem dgt_zero (k c : Nat) : dgt k c 0 = c % k := by
  unfold dgt
  rw [Nat.pow_zero, Nat.div_one]
theorem dgt_succ (k c i : Nat) : dgt k c (i + 1) = dgt k (c / k) i := by
  unfold dgt
  rw [Nat.pow_succ, Nat.mul_comm, Nat.div_div_eq_div_mul]
theorem num_shift (k : Nat) (x : Nat → Nat) : ∀ m i, numF k x (i + 1) m = numF k (fun j => x (j + 1)) i m
  | 0, _ => rfl
  | m + 1, i => by rw [numF, numF, num_shift k x m (i + 1)]
theorem dgt_num {k : Nat} (hk : 1 ≤ k) : ∀ m {x : Nat → Nat}, (∀ i, i < m → x i < k) → ∀ {j}, j < m → dgt k (numF k x 0 m) j = x j
  | 0, _, _, j, h => by omega
  | m + 1, x, hx, j, h => by
    have h0 := hx 0 (by omega)
    rw [numF, num_shift]
    cases j with
    | zero => rw [dgt_zero, Nat.add_mul_mod_self_left, Nat.mod_eq_of_lt h0]
    | succ j =>
      rw [dgt_succ, Nat.add_mul_div_left _ _ (by omega), Nat.div_eq_of_lt h0, Nat.zero_add]
      exact dgt_num hk m (x := fun j => x (j + 1)) (fun i hi => hx (i + 1) (by omega)) (by omega)
theorem num_dgt {k : Nat} (hk : 1 ≤ k) : ∀ m c, c < k ^ m → numF k (dgt k c) 0 m = c
  | 0, c, h => by
    rw [Nat.pow_zero] at h
    rw [numF]
    omega
  | m + 1, c, h => by
    rw [numF, num_shift, dgt_zero]
    have h1 : numF k (fun j => dgt k c (j + 1)) 0 m = numF k (dgt k (c / k)) 0 m := numF_congr m 0 fun j _ _ => dgt_succ k c j
    rw [h1, num_dgt hk m (c / k) (by rw [Nat.div_lt_iff_lt_mul (by omega)]; rw [Nat.pow_succ] at h; exact h)]
    exact Nat.mod_add_div c k
theorem dgt_ext {k : Nat} (hk : 1 ≤ k) {m c c' : Nat} (h : c < k ^ m) (h' : c' < k ^ m) (e : ∀ j, j < m → dgt k c j = dgt k c' j) : c = c' := by
  rw [← num_dgt hk m c h, ← num_dgt hk m c' h']
  exact numF_congr m 0 fun j _ hj => e j (by omega)
theorem sum_range' (g : Nat → Nat) : ∀ m, ((List.range m).map g).sum = sumN g m
  | 0 => rfl
  | m + 1 => by
    rw [List.range_succ, List.map_append, List.sum_append, sum_range' g m]
    simp [sumN]
theorem sumN_filter (p : Nat → Prop) [DecidablePred p] : ∀ m, sumN (fun c => if p c then 1 else 0) m = ((List.range m).filter fun c => decide (p c)).length
  | 0 => rfl
  | m + 1 => by
    rw [sumN, sumN_filter p m, List.range_succ, List.filter_append, List.length_append]
    congr 1
    by_cases h : p m
    · rw [if_pos h, List.filter_cons_of_pos (by simp [h])]; rfl
    · rw [if_neg h, List.filter_cons_of_neg (by simp [h])]; rfl
end Go.Proofs.Ytnbgnoimanpjnaa
/-
  Colourings as numbers, and how permutations move them; those that one leaves: a colour for each cycle. No program in sight.
-/
namespace Go.Proofs.Ytnbgnoimanpjnaa
set_option linter.unusedVariables false

/-- A colouring moved: the colour of i goes to a i. -/
def colA (n k : Nat) (a : Nat → Nat) (c : Nat) : Nat := numF k (fun j => dgt k c (bkF n a j)) 0 n
theorem bk_lt {n : Nat} {a : Nat → Nat} (P : Mv n a) {j : Nat} (h : j < n) : bkF n a j < n := by
  apply Classical.byContradiction
  intro hge
  have h1 := congrFun (bk_comp P) j
  have h2 := P.st (bkF n a j) (by omega)
  have h3 : a (bkF n a j) = j := h1
  omega
theorem col_dgt {n k : Nat} (hk : 1 ≤ k) {a : Nat → Nat} {c j : Nat} (hj : j < n) : dgt k (colA n k a c) j = dgt k c (bkF n a j) :=
  dgt_num hk n (fun i _ => dgt_lt hk c _) hj
theorem col_lt {n k : Nat} (hk : 1 ≤ k) (a : Nat → Nat) (c : Nat) : colA n k a c < k ^ n := numF_lt (N := n) (fun i _ => dgt_lt hk c _) n 0 (by omega)
theorem col_acts {n k : Nat} (hk : 1 ≤ k) {ms : List (Nat → Nat)} (hm : ∀ m ∈ ms, Mv n m) (P : Nat → Bool) (hP : ∀ a, GenF ms a → ∀ c, c < k ^ n → P (colA n k a c) = P c) : Acts n ms (k ^ n) (colA n k) P where
  lt a _ c _ := col_lt hk a c
  one c hc := by
    refine dgt_ext hk (col_lt hk id c) hc fun j hj => ?_
    rw [col_dgt hk hj]
    congr 1
    have : id (bkF n id j) = j := congrFun (bk_comp (id_mv n)) j
    exact this
  mul a b ha hb c hc := by
    refine dgt_ext hk (col_lt hk _ c) (col_lt hk _ _) fun j hj => ?_
    have Q := hb.mv hm
    rw [col_dgt hk hj, col_dgt hk hj, col_dgt hk (bk_lt Q hj), bk_mul (ha.mv hm) Q]
    rfl
  keep := hP
/-- It stays just if each point has the colour of the next one. -/
theorem col_fix {n k : Nat} (hk : 1 ≤ k) {a : Nat → Nat} (P : Mv n a) {c : Nat} (hc : c < k ^ n) : colA n k a c = c ↔ ∀ i, i < n → dgt k c (a i) = dgt k c i := by
  constructor
  · intro h i hi
    have h1 := col_dgt hk (a := a) (c := c) (P.pm.lt i hi)
    rw [h] at h1
    rw [h1]
    congr 1
    exact congrFun (comp_bk P) i
  · intro h
    refine dgt_ext hk (col_lt hk a c) hc fun j hj => ?_
    rw [col_dgt hk hj, ← h _ (bk_lt P hj)]
    congr 1
    exact congrFun (bk_comp P) j

/-- The leaders of the cycles; which of them leads a point. -/
def ldL (n : Nat) (a : Nat → Nat) : List Nat := (List.range n).filter (leadB a n)
def lrI (n : Nat) (a : Nat → Nat) (i : Nat) : Nat := (ldL n a).findIdx fun l => (orb a (per a n l) l).contains i
theorem nodup_inj {l : List Nat} (h : l.Nodup) {i j : Nat} (hi : i < l.length) (hj : j < l.length) (e : l.getD i 0 = l.getD j 0) : i = j := by
  have gd : ∀ j (hj : j < l.length), l.getD j 0 = l[j] := fun j hj => by rw [List.getD_eq_getElem?_getD, List.getElem?_eq_getElem hj]; rfl
  rw [gd i hi, gd j hj] at e
  rw [List.nodup_iff_pairwise_ne, List.pairwise_iff_getElem] at h
  rcases Nat.lt_trichotomy i j with h1 | h1 | h1
  · exact absurd e (h i j hi hj h1)
  · exact h1
  · exact absurd e.symm (h j i hj hi h1)
section
variable {n : Nat} {a : Nat → Nat} (Q : Pm n a)
include Q
omit Q in
theorem mem_ldL {l : Nat} : l ∈ ldL n a ↔ l < n ∧ leadB a n l = true := by
  unfold ldL
  rw [List.mem_filter, List.mem_range]
omit Q in
theorem ldL_nodup : (ldL n a).Nodup := (List.nodup_range (n := n)).filter _
theorem lr_spec {i : Nat} (hi : i < n) : lrI n a i < (ldL n a).length ∧ Reach a ((ldL n a).getD (lrI n a i) 0) i := by
  obtain ⟨l, hl, h⟩ := Q.one_lead hi
  obtain ⟨h1, h2⟩ := (h l hl).2 rfl
  have hex : ∃ x ∈ ldL n a, (orb a (per a n x) x).contains i = true := ⟨l, mem_ldL.2 ⟨hl, h1⟩, by rw [List.contains_iff_mem]; exact (Q.mem_orb hl).2 h2⟩
  have hlt := List.findIdx_lt_length_of_exists hex
  have hq := List.findIdx_getElem (p := fun l => (orb a (per a n l) l).contains i) (xs := ldL n a) (w := hlt)
  refine ⟨hlt, ?_⟩
  have gd : ∀ j (h : j < (ldL n a).length), (ldL n a).getD j 0 = (ldL n a)[j] := fun j h => by rw [List.getD_eq_getElem?_getD, List.getElem?_eq_getElem h]; rfl
  have e := gd _ hlt
  have hm := mem_ldL.1 (List.getElem_mem hlt)
  rw [← e] at hm hq
  rw [List.contains_iff_mem] at hq
  exact (Q.mem_orb hm.1).1 hq
omit Q in
theorem ld_at {j : Nat} (hj : j < (ldL n a).length) : (ldL n a).getD j 0 < n ∧ leadB a n ((ldL n a).getD j 0) = true := by
  have e : (ldL n a).getD j 0 = (ldL n a)[j] := by
    rw [List.getD_eq_getElem?_getD, List.getElem?_eq_getElem hj]
    rfl
  rw [e]
  exact mem_ldL.1 (List.getElem_mem hj)
theorem lr_uniq {i j : Nat} (hi : i < n) (hj : j < (ldL n a).length) (h : Reach a ((ldL n a).getD j 0) i) : lrI n a i = j := by
  obtain ⟨h1, h2⟩ := lr_spec Q hi
  obtain ⟨l, hl, hu⟩ := Q.one_lead hi
  obtain ⟨a1, a2⟩ := ld_at h1
  obtain ⟨b1, b2⟩ := ld_at hj
  have e1 := (hu _ a1).1 ⟨a2, h2⟩
  have e2 := (hu _ b1).1 ⟨b2, h⟩
  exact nodup_inj ldL_nodup h1 hj (by rw [e1, e2])
theorem lr_step {i : Nat} (hi : i < n) : lrI n a (a i) = lrI n a i := by
  obtain ⟨h1, h2⟩ := lr_spec Q hi
  exact lr_uniq Q (Q.lt i hi) h1 (h2.trans ⟨1, rfl⟩)
theorem lr_lead {j : Nat} (hj : j < (ldL n a).length) : lrI n a ((ldL n a).getD j 0) = j := lr_uniq Q (ld_at hj).1 hj (Reach.refl _)
/-- What stays has one colour all along a cycle. -/
theorem same_reach {x : Nat → Nat} (h : ∀ i, i < n → x (a i) = x i) {i j : Nat} (hi : i < n) (hr : Reach a i j) : x j = x i := by
  obtain ⟨t, rfl⟩ := hr
  induction t with
  | zero => rfl
  | succ t ih => exact (h _ (Q.it_lt hi t)).trans ih
end
/-- A colour for each cycle gives a colouring. -/
def phi (n k : Nat) (a : Nat → Nat) (e : Nat) : Nat := numF k (fun i => dgt k e (lrI n a i)) 0 n
theorem sumN_list (g : Nat → Nat) (N : Nat) : sumN g N = ((List.range N).map g).sum := (sum_range' g N).symm
theorem cyK_len {n : Nat} (hn : n ≤ 7) {a : Nat → Nat} (P : Pm n a) : cyK n a = (ldL n a).length := by
  rw [cyc_lead hn P]
  unfold ldL
  have : ∀ m, sumN (fun j => if leadB a n j = true then 1 else 0) m = ((List.range m).filter (leadB a n)).length := by
    intro m
    induction m with
    | zero => rfl
    | succ m ih =>
      rw [sumN, ih, List.range_succ, List.filter_append, List.length_append]
      congr 1
      by_cases h : leadB a n m = true
      · rw [if_pos h, List.filter_cons_of_pos h]; rfl
      · rw [if_neg h, List.filter_cons_of_neg h]; rfl
  exact this n
/-- Those that stay, among those of which P says so: as many as there are colours of the cycles whose colouring P likes. -/
theorem st_count {n k : Nat} (hk : 1 ≤ k) {a : Nat → Nat} (Q : Mv n a) (P : Nat → Bool) : stN (colA n k) (k ^ n) P a = sumN (fun e => if P (phi n k a e) = true then 1 else 0) (k ^ (ldL n a).length) := by
  have hphi : ∀ e, phi n k a e < k ^ n := fun e => numF_lt (N := n) (fun i _ => dgt_lt hk e _) n 0 (by omega)
  have hd : ∀ e i, i < n → dgt k (phi n k a e) i = dgt k e (lrI n a i) := fun e i hi => dgt_num hk n (fun i _ => dgt_lt hk e _) hi
  have hfix : ∀ e, colA n k a (phi n k a e) = phi n k a e := fun e => (col_fix hk Q (hphi e)).2 fun i hi => by
    rw [hd e _ (Q.pm.lt i hi), hd e i hi, lr_step Q.pm hi]
  have hinj : ∀ e e', e < k ^ (ldL n a).length → e' < k ^ (ldL n a).length → phi n k a e = phi n k a e' → e = e' := fun e e' he he' h => by
    refine dgt_ext hk he he' fun j hj => ?_
    have h1 := (ld_at hj).1
    have h2 := hd e _ h1
    have h3 := hd e' _ h1
    rw [lr_lead Q.pm hj] at h2 h3
    rw [← h2, ← h3, h]
  have hsur : ∀ c, c < k ^ n → colA n k a c = c → ∃ e, e < k ^ (ldL n a).length ∧ phi n k a e = c := fun c hc h => by
    have hs := (col_fix hk Q hc).1 h
    refine ⟨numF k (fun j => dgt k c ((ldL n a).getD j 0)) 0 (ldL n a).length, numF_lt (N := (ldL n a).length) (fun i _ => dgt_lt hk c _) _ 0 (by omega), ?_⟩
    refine dgt_ext hk (hphi _) hc fun i hi => ?_
    obtain ⟨h1, h2⟩ := lr_spec Q.pm hi
    rw [hd _ i hi, dgt_num hk _ (fun i _ => dgt_lt hk c _) h1]
    exact (same_reach Q.pm (x := dgt k c) hs (ld_at h1).1 h2).symm
  -- both are lengths of lists with the same members
  have e1 : stN (colA n k) (k ^ n) P a = ((List.range (k ^ n)).filter fun c => P c && decide (colA n k a c = c)).length := by
    unfold stN
    rw [sumN_filter]
    congr 1
    exact List.filter_congr fun c _ => by simp
  have e2 : sumN (fun e => if P (phi n k a e) = true then 1 else 0) (k ^ (ldL n a).length) = ((List.range (k ^ (ldL n a).length)).filter fun e => P (phi n k a e)).length := by
    rw [sumN_filter]
    congr 1
    exact List.filter_congr fun c _ => by simp
  rw [e1, e2, show ((List.range (k ^ (ldL n a).length)).filter fun e => P (phi n k a e)).length = (((List.range (k ^ (ldL n a).length)).filter fun e => P (phi n k a e)).map (phi n k a)).length by rw [List.length_map]]
  refine List.Perm.length_eq ((List.perm_ext_iff_of_nodup ((List.nodup_range (n := k ^ n)).filter _) ?_).2 fun c => ?_)
  · unfold List.Nodup
    rw [List.pairwise_map]
    refine List.Pairwise.imp_of_mem (R := fun x y => x ≠ y) (fun {x y} hx hy hne h => hne (hinj x y (List.mem_range.1 (List.mem_filter.1 hx).1) (List.mem_range.1 (List.mem_filter.1 hy).1) h)) ((List.nodup_range (n := k ^ (ldL n a).length)).filter _)
  · rw [List.mem_filter, List.mem_map, List.mem_range, Bool.and_eq_true, decide_eq_true_eq]
    constructor
    · rintro ⟨hc, hp, hf⟩
      obtain ⟨e, he, rfl⟩ := hsur c hc hf
      exact ⟨e, List.mem_filter.2 ⟨List.mem_range.2 he, hp⟩, rfl⟩
    · rintro ⟨e, he, rfl⟩
      exact ⟨hphi e, (List.mem_filter.1 he).2, hfix e⟩
/-- All of them. -/
theorem st_all {n k : Nat} (hk : 1 ≤ k) (hn : n ≤ 7) {a : Nat → Nat} (Q : Mv n a) : stN (colA n k) (k ^ n) (fun _ => true) a = k ^ cyK n a := by
  rw [st_count hk Q, cyK_len hn Q.pm]
  have : ∀ m, sumN (fun e => if (fun _ : Nat => true) (phi n k a e) = true then 1 else 0) m = m := by
    intro m
    induction m with
    | zero => rfl
    | succ m ih => rw [sumN, ih]; rfl
  exact this _
theorem col_burn {n k : Nat} (hk : 1 ≤ k) (hn : n ≤ 7) {ms : List (Nat → Nat)} (hm : ∀ m ∈ ms, Mv n m) : colS n (GL n ms) k = (GL n ms).length * clN (GL n ms) (colA n k) (k ^ n) (fun _ => true) := by
  rw [← burn_count hm (col_acts hk hm (fun _ => true) fun _ _ _ _ => rfl)]
  unfold colS
  congr 1
  exact List.map_congr_left fun a ha => (st_all hk hn (((mem_GL hm a).1 ha).mv hm)).symm
end Go.Proofs.Ytnbgnoimanpjnaa
/-
  The walk over parterreref1.Number. Conditions: no more than 7 digits below a base of no more than 7.
-/
namespace Go.Proofs.Ytnbgnoimanpjnaa
set_option linter.unusedVariables false
open Go.RowKit

set_option maxHeartbeats 1000000 in
set_option maxRecDepth 100000 in
theorem gnumber_ok (P N : Nat) (v : Value) (x : Nat → Nat) (w : World) (hv : Sl w v (elL N x)) (hP : 1 ≤ P) (hP2 : P ≤ 7) (hN7 : N ≤ 7) (hx : ∀ i, i < N → x i < P) :
    Calls Try.prog 63 #[v, .int .i64 P] w fun e w' => e = .returned (.int .i64 (numF P x 0 N : Nat)) ∧ Below w.heap.size w w' := by
  have HD : Hid (∀ i, i < N → numF P x i (N - i) = x i + P * numF P x (i + 1) (N - (i + 1))) := hid (fun i hi => by
    rw [show N - i = (N - (i + 1)) + 1 by omega, numF])
  have HE : Hid (numF P x N (N - N) = 0) := hid (by rw [Nat.sub_self]; rfl)
  have HL := hid hx
  have HBD : Hid (∀ i, i ≤ N → numF P x i (N - i) ≤ 823543) := hid (fun i hi => by
    have h1 := numF_lt hx (N - i) i (by omega)
    have h2 := pow7 hP2 (N := N - i) (by omega)
    omega)
  have HDN : Hid (∀ j, j < N → (elL N x)[j]?.getD 0 = ((x j : Nat) : Int)) := hid (fun j hj => elL_get hj)
  have hel := elL_len N x
  obtain ⟨f, hf⟩ : ∃ f : Nat → Nat, f = fun i => numF P x i (N - i) := ⟨_, rfl⟩
  have HF : Hid (∀ i, numF P x i (N - i) = f i) := hid (fun i => by rw [hf])
  have H0 : Hid (f 0 = numF P x 0 N) := hid (by rw [hf]; rfl)
  obtain ⟨a, c, N', rfl, hN, hl1, hl2⟩ := hv.open
  obtain rfl : N' = N := by rw [← hN.out, hel]
  have HBB := hid (Below.refl w.heap.size w)
  have HL2 := hid hl2
  generalize numF P x 0 N' = R at *
  clear hf hv hx hl2 hN hel
  go_enter Try.func63, Try.ntmps63
  go_wp2
  go_loopw [5, 6] (fun m i wr => ∃ j : Nat, j ≤ N' ∧ i = .int .i64 ((j : Int) - 1) ∧ m = .int .i64 (f j : Nat) ∧ Below w.heap.size w wr) (fun _ i _ => (intOf i + 1).toNat)
  case atStart => exact ⟨N', Nat.le_refl _, rfl, by rw [← HF.out, HE.out]; rfl, HBB.out⟩
  case round =>
    obtain ⟨j, hj, rfl, rfl, hb⟩ := hrel
    have HW := hid hb
    by_cases hpos : 1 ≤ j
    · have hge : (0 : Int) ≤ (j : Int) - 1 := by omega
      have hd := HD.out (j - 1) (by omega)
      rw [show j - 1 + 1 = j by omega, HF.out, HF.out] at hd
      obtain ⟨b, off, rfl, hbl, hc⟩ := HL2.out (by omega)
      have hce := (hb.cell (p := ⟨b, off + (j - 1), none⟩) hbl).trans (hc (j - 1) (by omega))
      rw [HDN.out _ (by omega)] at hce
      have hx := HL.out (j - 1) (by omega)
      have hbd := HBD.out j hj
      rw [HF.out] at hbd
      have hbd2 := HBD.out (j - 1) (by omega)
      rw [HF.out] at hbd2
      have n0 : (j : Int) - 1 = ((j - 1 : Nat) : Int) := by omega
      have n1 : (f j : Int) * (P : Int) = ((P * f j : Nat) : Int) := by rw [Int.natCast_mul, Int.mul_comm]
      have hm : P * f j ≤ 7 * 823543 := Nat.mul_le_mul hP2 hbd
      have n2 : ((P * f j : Nat) : Int) + ((x (j - 1) : Nat) : Int) = ((f (j - 1) : Nat) : Int) := by rw [hd]; omega
      have hjN : ((j - 1 : Nat) : Int) < (N' : Int) := by omega
      clear hb hd hc
      rw [n0]
      obtain ⟨i, hi⟩ : ∃ i, i = j - 1 := ⟨_, rfl⟩
      rw [← hi] at n0 n2 hjN hx hbd2 hce ⊢
      have hij : j = i + 1 := by omega
      clear hi
      subst hij
      generalize P * f (i + 1) = pf at *
      generalize f (i + 1) = y at *
      obtain ⟨z, hz⟩ : ∃ z, z = f i := ⟨_, rfl⟩
      rw [← hz] at n2 hbd2
      have HZ := hid hz
      clear hz
      generalize x i = av at *
      go_wp2
      go_roundw
      case rel => exact ⟨i, by omega, by go_num, by rw [HZ.out], HW.out⟩
      case measure => simp [intOf] <;> omega
    · obtain rfl : j = 0 := by omega
      clear hb
      go_wp2
      go_ret
      exact ⟨by rw [← H0.out]; rfl, HW.out⟩
end Go.Proofs.Ytnbgnoimanpjnaa
/-
  The walks over parterreref1.powerOf, Digits and moved. Conditions: few colours, no more than 7 points.
-/
namespace Go.Proofs.Ytnbgnoimanpjnaa
set_option linter.unusedVariables false
open Go.RowKit

set_option maxHeartbeats 1000000 in
theorem gpower_ok (k n : Nat) (w : World) (hk : 1 ≤ k) (hk7 : k ≤ 7) (hn : n ≤ 7) :
    Calls Try.prog 92 #[.int .i64 k, .int .i64 n] w fun e w' => e = .returned (.int .i64 (k ^ n : Nat)) ∧ w' = w := by
  have HP0 : Hid (k ^ 0 = 1) := hid rfl
  have HPS : Hid (∀ i, k ^ i * k = k ^ (i + 1)) := hid (fun i => (Nat.pow_succ k i).symm)
  have HPB := hid (fun i (hi : i ≤ n) => pow7 (P := k) (N := i) hk7 (by omega))
  have H1 : Hid (k = 1 → ∀ i, k ^ i = 1) := hid (fun e i => by rw [e, Nat.one_pow])
  obtain ⟨PW, hpw⟩ : ∃ PW : Nat → Nat, ∀ e, k ^ e = PW e := ⟨_, fun e => rfl⟩
  simp only [hpw] at HP0 HPS HPB H1 ⊢
  clear hpw
  go_enter Try.func92, Try.ntmps92
  go_wp2_with fail
  go_loopw [5, 6] (fun v5 v6 wr => ∃ i : Nat, v6 = .int .i64 i ∧ i ≤ n ∧ v5 = .int .i64 (PW i : Nat) ∧ wr = w) (fun _ v6 _ => n - (intOf v6).toNat)
  case atStart => exact ⟨0, rfl, Nat.zero_le _, by rw [HP0.out]; rfl, rfl⟩
  case round =>
    obtain ⟨i, rfl, hi, rfl, hw⟩ := hrel
    subst hw
    by_cases hil : i < n
    · have hii : (i : Int) < (n : Int) := by omega
      by_cases hk2 : 1 < k
      · have hki : (1 : Int) < (k : Int) := by omega
        have b1 := HPB.out i (by omega)
        have b2 := HPB.out (i + 1) (by omega)
        have hmul : ((PW i : Nat) : Int) * (k : Int) = ((PW (i + 1) : Nat) : Int) := by rw [← HPS.out, Int.natCast_mul]
        go_wp2
        go_roundw
        case rel => exact ⟨i + 1, by go_num, by omega, rfl, trivial⟩
        case measure => simp [intOf] <;> omega
      · have hki : ¬ (1 : Int) < (k : Int) := by omega
        have h1 := H1.out (by omega)
        have HE : Hid (PW i = PW n) := hid (by rw [h1, h1])
        clear h1
        go_wp2
        go_ret
        exact ⟨by rw [← HE.out]; rfl, rfl⟩
    · obtain rfl : i = n := by omega
      have hii : ¬ (i : Int) < (i : Int) := by omega
      go_wp2
      go_ret
      exact ⟨rfl, rfl⟩

set_option maxHeartbeats 1000000 in
theorem gdigits_ok (c k n : Nat) (w : World) (hk : 1 ≤ k) (hk7 : k ≤ 7) (hn : n ≤ 7) (hc : c ≤ 1000000) :
    Calls Try.prog 74 #[.int .i64 c, .int .i64 k, .int .i64 n] w fun e w' => (∃ r, e = .returned r ∧ OI w.heap.size w' r (elL n (dgt k c))) ∧ Below w.heap.size w w' := by
  have HD : Hid (∀ i, c / k ^ i % k = dgt k c i) := hid (fun i => rfl)
  have HQ : Hid (∀ i, c / k ^ i / k = c / k ^ (i + 1)) := hid (fun i => by rw [Nat.div_div_eq_div_mul, ← Nat.pow_succ])
  have HQ0 : Hid (c / k ^ 0 = c) := hid (by rw [Nat.pow_zero, Nat.div_one])
  have HQB := hid (fun i => Nat.div_le_self c (k ^ i))
  have HDB := hid (fun i => dgt_lt hk c i)
  have HES : Hid (∀ i x, elL (i + 1) x = elL i x ++ [((x i : Nat) : Int)]) := hid (fun i x => by
    unfold elL
    rw [List.range_succ, List.map_append]
    rfl)
  have HEL := hid elL_len
  have hb0 := hid (Below.refl w.heap.size w)
  obtain ⟨QF, hqf⟩ : ∃ QF : Nat → Nat, ∀ e, c / k ^ e = QF e := ⟨_, fun e => rfl⟩
  simp only [hqf] at HD HQ HQ0 HQB
  clear hqf
  generalize dgt k c = dg at *
  go_enter Try.func74, Try.ntmps74
  go_wp2_with fail
  go_loopw [0, 7, 8] (fun v0 v7 v8 wr => ∃ i : Nat, v8 = .int .i64 i ∧ i ≤ n ∧ v0 = .int .i64 (QF i : Nat) ∧ OI w.heap.size wr v7 (elL i dg) ∧ Below w.heap.size w wr) (fun _ _ v8 _ => n - (intOf v8).toNat)
  case atStart => exact ⟨0, rfl, Nat.zero_le _, by rw [HQ0.out], OI.nil _ _, hb0.out⟩
  case round =>
    obtain ⟨i, rfl, hi, rfl, ho, hb⟩ := hrel
    by_cases hil : i < n
    · have hii : (i : Int) < (n : Int) := by omega
      have hq := HQB.out i
      have hk0 : (k : Int) ≠ 0 := by omega
      have hrem : ((QF i : Nat) : Int) % (k : Int) = ((dg i : Nat) : Int) := by rw [← HD.out, Int.natCast_emod]
      have hdiv : ((QF i : Nat) : Int) / (k : Int) = ((QF (i + 1) : Nat) : Int) := by rw [← HQ.out, Int.natCast_ediv]
      have hq2 := HQB.out (i + 1)
      have hdb := HDB.out i
      have hl : (elL i dg).length ≤ 1000000000000 := by rw [HEL.out]; omega
      have hsz := hb.size
      have HSi := hid (HES.out i dg)
      have HI := hid (And.intro ho hb)
      clear ho hb
      go_wp2_with (first
        | (at_builtin; refine wpList_appi wr (.tmp 14) _ 23 rfl rfl Try.underlying23 Try.info3 w.heap.size _ _ rfl HI.out.1 rfl hl hsz ?_
           intro g9 c9 w9 hown1 hg1 hg2 hg3
           have hg1' : wr.grownBy w9 u7.ownBlock := hg1
           have hb9 := HI.out.1.grown HI.out.2 hg1' hsz
           have HX := hid (And.intro hown1 hb9)
           clear hown1 hg1 hg2 hg3 hg1' hb9)
        | fail)
      go_roundw
      case rel => exact ⟨i + 1, by go_num, by omega, by first | rfl | (rw [IntWalk.wrap64_in _ (by omega)]), by rw [HSi.out]; exact HX.out.1, HX.out.2⟩
      case measure => simp [intOf] <;> omega
    · obtain rfl : i = n := by omega
      have hii : ¬ (i : Int) < (i : Int) := by omega
      have HI := hid (And.intro ho hb)
      clear ho hb
      go_wp2
      go_ret
      exact ⟨⟨_, rfl, HI.out.1⟩, HI.out.2⟩

/-- What has been laid of a moved colouring after i points. -/
def mvd (n k c : Nat) (a : Nat → Nat) (i j : Nat) : Nat := if bkF n a j < i then dgt k c (bkF n a j) else 0
theorem mvd_set {n k c i : Nat} {a : Nat → Nat} (P : Mv n a) (hi : i < n) : (elL n (mvd n k c a i)).set (a i) ((dgt k c i : Nat) : Int) = elL n (mvd n k c a (i + 1)) := by
  refine List.ext_getElem? fun q => ?_
  have hbi : bkF n a (a i) = i := congrFun (comp_bk P) i
  by_cases hq : q < n
  · by_cases e : a i = q
    · subst e
      rw [List.getElem?_set_self (by rw [elL_len]; exact hq)]
      simp [elL, hq, mvd, hbi]
    · rw [List.getElem?_set_ne e]
      have hne : bkF n a q ≠ i := fun h => e (by
        rw [← h]
        exact congrFun (bk_comp P) q)
      have : (bkF n a q < i + 1) ↔ (bkF n a q < i) := by omega
      simp [elL, hq, mvd, this]
  · rw [List.getElem?_eq_none (by rw [List.length_set, elL_len]; omega), List.getElem?_eq_none (by rw [elL_len]; omega)]
theorem mvd_end {n k c : Nat} {a : Nat → Nat} (P : Mv n a) : elL n (mvd n k c a n) = elL n (fun j => dgt k c (bkF n a j)) := by
  unfold elL
  refine List.map_congr_left fun j hj => ?_
  unfold mvd
  rw [if_pos (bk_right P (List.mem_range.1 hj)).2]
theorem mvd_zero (n k c : Nat) (a : Nat → Nat) : elL n (mvd n k c a 0) = List.replicate n 0 := by
  unfold elL
  rw [show (fun i => ((mvd n k c a 0 i : Nat) : Int)) = fun _ => 0 by funext i; simp [mvd], List.map_const', List.length_range]

set_option maxHeartbeats 1000000 in
set_option maxRecDepth 100000 in
theorem gmoved_ok (c k n : Nat) (v : Value) (a : Nat → Nat) (w : World) (hk : 1 ≤ k) (hk7 : k ≤ 7) (hn1 : 1 ≤ n) (hn : n ≤ 7) (hc : c ≤ 1000000) (hv : Sl w v (elL n a)) (P : Mv n a) :
    Calls Try.prog 93 #[.int .i64 c, v, .int .i64 k] w fun e w' => e = .returned (.int .i64 (colA n k a c : Nat)) ∧ Below w.heap.size w w' := by
  have HDG := hid (gdigits_ok c k n w hk hk7 hn hc)
  obtain ⟨vb, vo, vc, rfl, hcc⟩ := hv.elFix hn1
  have HCC := hid hcc
  have HN := hid (fun (u : Value) (w1 : World) (hu : Sl w1 u (elL n (fun j => dgt k c (bkF n a j)))) => gnumber_ok k n u _ w1 hu hk hk7 hn (fun i _ => dgt_lt hk c _))
  have HE : Hid (numF k (fun j => dgt k c (bkF n a j)) 0 n = colA n k a c) := hid rfl
  have HS := hid (fun i (hi : i < n) => mvd_set (k := k) (c := c) P hi)
  have H0 := hid (mvd_zero n k c a)
  have HF := hid (mvd_end (k := k) (c := c) P)
  have HAL := hid (fun i (hi : i < n) => P.pm.lt i hi)
  have HEL := hid elL_len
  have HDL : Hid (∀ i, i < n → (elL n (dgt k c)).getD i 0 = ((dgt k c i : Nat) : Int)) := hid (fun i hi => by rw [List.getD_eq_getElem?_getD, elL_get hi])
  have HDB := hid (fun i => dgt_lt hk c i)
  clear hcc hv
  generalize numF k (fun j => dgt k c (bkF n a j)) 0 n = R at *
  generalize (fun j => dgt k c (bkF n a j)) = mf at *
  generalize mvd n k c a = MD at *
  generalize dgt k c = dg at *
  go_enter Try.func93, Try.ntmps93
  go_wp2_with fail
  refine HDG.out.mono ?_
  rintro e w1 ⟨⟨r, rfl, hr⟩, hb1⟩
  obtain ⟨g1, c1, e1, hg1a, hg1b⟩ := hr.form (by rw [HEL.out]; omega)
  rw [HEL.out] at e1
  subst e1
  have H1 := hid (And.intro hr hb1)
  clear hr hb1
  go_wp2_with (at_make; refine wpList_mk (w := w1) _ _ 23 3 (.int .i64 0) 8 rfl rfl Try.underlying23 Try.info3 rfl (by decide) w1.heap.size _ n rfl rfl rfl (by omega) (Nat.le_refl _) ?_; intro w6 hs6 hgr6 hz6)
  have hoi : OI w1.heap.size w6 (.slice (some ⟨w1.heap.size, 0, none⟩) n n) (elL n (MD 0)) := by
    unfold OI
    rw [H0.out, List.map_replicate]
    exact hs6
  have hb6 : Below w1.heap.size w1 w6 := (Below.refl _ _).grown hgr6 (Nat.le_refl _) (fun k h => by cases h)
  have H6 := hid (And.intro hoi (And.intro (H1.out.1.below hb6) (H1.out.2.trans (hb6.mono H1.out.2.size))))
  have hww := H1.out.2.size
  clear hs6 hgr6 hoi hb6
  go_loopw [9] (fun v9 wr => ∃ i : Nat, v9 = .int .i64 i ∧ i ≤ n ∧ OI w1.heap.size wr (.slice (some ⟨w1.heap.size, 0, none⟩) n n) (elL n (MD i)) ∧ OI w.heap.size wr (.slice (some ⟨g1, 0, none⟩) n c1) (elL n dg) ∧ Below w.heap.size w wr) (fun v9 _ => n - (intOf v9).toNat)
  case atStart => exact ⟨0, rfl, Nat.zero_le _, H6.out.1, H6.out.2.1, H6.out.2.2⟩
  case round =>
    clear H6 hz6
    obtain ⟨i, rfl, hi, ho, hd, hb⟩ := hrel
    by_cases hil : i < n
    · have hii : (i : Int) < (n : Int) := by omega
      have ha := HAL.out i hil
      have hca := HCC.out wr hb i hil
      have hcd := hd.cell i (by rw [HEL.out]; exact hil)
      rw [HDL.out i hil] at hcd
      have hfz := ho.frozen (a i)
      have hce := ho.cell (a i) (by rw [HEL.out]; exact ha)
      obtain ⟨hs8, hg8⟩ := ho.stored (a i) ((dg i : Nat) : Int)
      rw [HS.out i hil] at hs8
      have hd8 := hd.kept hg8 (.inr (by simp [Value.ownBlock]; omega))
      have hb8 := hb.grown hg8 hb.size (fun b e => by cases e; exact hww)
      have hai : ((a i : Nat) : Int) < (n : Int) := by omega
      have HX := hid (And.intro hs8 (And.intro hd8 hb8))
      clear ho hd hb hs8 hg8 hd8 hb8
      generalize a i = ai at *
      generalize dg i = di at *
      generalize (elL n (MD i)).getD ai 0 = old at *
      go_wp2_with fail
      go_region
      all_goals go_wp2
      all_goals go_roundw
      all_goals first
        | (case rel => exact ⟨i + 1, by go_num, by omega, HX.out.1.drewN _, HX.out.2.1.drewN _, below_drewN HX.out.2.2 _⟩)
        | (case measure => simp [intOf] <;> omega)
    · obtain rfl : i = n := by omega
      have hii : ¬ (i : Int) < (i : Int) := by omega
      rw [HF.out] at ho
      have HNN := hid (HN.out _ wr (ho.sl (by rw [HEL.out]; omega)))
      have HB := hid hb
      clear ho hd hb
      go_wp2_with fail
      refine HNN.out.mono ?_
      rintro e w9 ⟨rfl, hb9⟩
      have H9 := hid (HB.out.trans (hb9.mono HB.out.size))
      clear hb9
      go_wp2
      go_ret
      exact ⟨by rw [← HE.out]; rfl, H9.out⟩
end Go.Proofs.Ytnbgnoimanpjnaa
/-
  Classes of what has numbers: each marked with its least; found one from another. No program in sight.
-/
namespace Go.Proofs.Ytnbgnoimanpjnaa
set_option linter.unusedVariables false

/-- The least that comes to x. -/
def lcF (L : List (Nat → Nat)) (A : (Nat → Nat) → Nat → Nat) (x : Nat) : Nat := ((List.range (x + 1)).find? fun l => orB L A l x).getD x
section
variable {n N : Nat} {ms : List (Nat → Nat)} {A : (Nat → Nat) → Nat → Nat}
theorem lc_spec (hm : ∀ m ∈ ms, Mv n m) (H : Acts n ms N A fun _ => true) {x : Nat} (hx : x < N) : lcF (GL n ms) A x ≤ x ∧ orB (GL n ms) A (lcF (GL n ms) A x) x = true ∧ ∀ l, l < lcF (GL n ms) A x → ¬ orB (GL n ms) A l x = true := by
  have hself : orB (GL n ms) A x x = true := (mem_orB hm x x).2 ⟨id, GenF.one, H.one x hx⟩
  unfold lcF
  cases h : (List.range (x + 1)).find? fun l => orB (GL n ms) A l x with
  | none =>
    rw [List.find?_eq_none] at h
    exact absurd hself (h x (List.mem_range.2 (by omega)))
  | some l =>
    rw [List.find?_range_eq_some] at h
    obtain ⟨h1, h2, h3⟩ := h
    have h2 := List.mem_range.1 h2
    refine ⟨by simp; omega, h1, fun j hj e => ?_⟩
    have := h3 j hj
    rw [e] at this
    simp at this
theorem lc_same (hm : ∀ m ∈ ms, Mv n m) (H : Acts n ms N A fun _ => true) {x y : Nat} (hx : x < N) (h : orB (GL n ms) A x y = true) : lcF (GL n ms) A x = lcF (GL n ms) A y := by
  have hy := orB_lt hm H hx h
  obtain ⟨a1, a2, a3⟩ := lc_spec hm H hx
  obtain ⟨b1, b2, b3⟩ := lc_spec hm H hy
  rcases Nat.lt_trichotomy (lcF (GL n ms) A x) (lcF (GL n ms) A y) with e | e | e
  · exact absurd (orB_trans hm H (by omega) a2 h) (b3 _ e)
  · exact e
  · exact absurd (orB_trans hm H (by omega) b2 (orB_symm hm H hx h)) (a3 _ e)
theorem lc_idem (hm : ∀ m ∈ ms, Mv n m) (H : Acts n ms N A fun _ => true) {x : Nat} (hx : x < N) : lcF (GL n ms) A (lcF (GL n ms) A x) = lcF (GL n ms) A x := by
  obtain ⟨a1, a2, a3⟩ := lc_spec hm H hx
  exact lc_same hm H (by omega) a2
theorem ld_lc (hm : ∀ m ∈ ms, Mv n m) (H : Acts n ms N A fun _ => true) {x : Nat} (hx : x < N) : ldB (GL n ms) A x = true ↔ lcF (GL n ms) A x = x := by
  obtain ⟨a1, a2, a3⟩ := lc_spec hm H hx
  rw [ld_iff]
  constructor
  · intro h
    apply Classical.byContradiction
    intro hne
    exact h _ (by omega) (orB_symm hm H (by omega) a2)
  · intro e q hq h2
    exact a3 q (by omega) (orB_symm hm H hx h2)
/-- The marks when all below c have been looked at; while c's class is found. -/
def mkO (lc : Nat → Nat) (c x : Nat) : Int := if lc x < c then ((lc x : Nat) : Int) else -1
def mkB (lc : Nat → Nat) (c : Nat) (l : List Nat) (x : Nat) : Int := if lc x < c then ((lc x : Nat) : Int) else if x ∈ l then ((c : Nat) : Int) else -1
/-- What the search for c's class keeps: i of the list are done, of the i-th j makers. -/
structure CB (N : Nat) (ms : List (Nat → Nat)) (A : (Nat → Nat) → Nat → Nat) (lc : Nat → Nat) (c : Nat) (l : List Nat) (i j : Nat) : Prop where
  nd : l.Nodup
  lt : ∀ x ∈ l, x < N ∧ lc x = c
  has : c ∈ l
  done : ∀ i', i' < i → ∀ j', j' < ms.length → A (ms.getD j' id) (l.getD i' 0) ∈ l
  part : ∀ j', j' < j → A (ms.getD j' id) (l.getD i 0) ∈ l
  le : i ≤ l.length
theorem CB.len {lc : Nat → Nat} {c : Nat} {l : List Nat} {i j : Nat} (h : CB N ms A lc c l i j) : l.length ≤ N := by
  have : l.length ≤ (List.range N).length := List.Nodup.length_le_of_subset h.nd fun x hx => List.mem_range.2 (h.lt x hx).1
  simpa using this
theorem CB.start {lc : Nat → Nat} {c : Nat} (hc : c < N) (hl : lc c = c) : CB N ms A lc c [c] 0 0 :=
  ⟨by simp, fun x hx => by rw [List.mem_singleton.1 hx]; exact ⟨hc, hl⟩, by simp, fun i' h => by omega, fun j' h => by omega, by simp⟩
theorem CB.there {lc : Nat → Nat} {c : Nat} {l : List Nat} {i j : Nat} (h : CB N ms A lc c l i j) (hx : A (ms.getD j id) (l.getD i 0) ∈ l) : CB N ms A lc c l i (j + 1) :=
  ⟨h.nd, h.lt, h.has, h.done, fun j' hj => by
    by_cases e : j' = j
    · rw [e]; exact hx
    · exact h.part j' (by omega), h.le⟩
theorem CB.add {lc : Nat → Nat} {c : Nat} {l : List Nat} {i j x : Nat} (h : CB N ms A lc c l i j) (hi : i < l.length) (hx : A (ms.getD j id) (l.getD i 0) = x) (hno : x ∉ l) (h1 : x < N) (h2 : lc x = c) : CB N ms A lc c (l ++ [x]) i (j + 1) := by
  have g : ∀ i', i' < l.length → (l ++ [x]).getD i' 0 = l.getD i' 0 := fun i' hi' => by rw [List.getD_eq_getElem?_getD, List.getElem?_append_left hi', ← List.getD_eq_getElem?_getD]
  refine ⟨?_, fun y hy => ?_, by simp [h.has], fun i' hi' j' hj' => ?_, fun j' hj' => ?_, by have := h.le; simp; omega⟩
  · rw [List.nodup_append]
    refine ⟨h.nd, by simp, fun a ha b hb e => ?_⟩
    rw [List.mem_singleton.1 hb] at e
    exact hno (by rw [← e]; exact ha)
  · rcases List.mem_append.1 hy with hy | hy
    · exact h.lt y hy
    · rw [List.mem_singleton.1 hy]; exact ⟨h1, h2⟩
  · rw [g i' (by omega)]
    exact List.mem_append_left _ (h.done i' hi' j' hj')
  · rw [g i hi]
    by_cases e : j' = j
    · rw [e, hx]; simp
    · exact List.mem_append_left _ (h.part j' (by omega))
theorem CB.next {lc : Nat → Nat} {c : Nat} {l : List Nat} {i : Nat} (h : CB N ms A lc c l i ms.length) (hi : i < l.length) : CB N ms A lc c l (i + 1) 0 :=
  ⟨h.nd, h.lt, h.has, fun i' hi' j' hj' => by
    by_cases e : i' = i
    · rw [e]; exact h.part j' hj'
    · exact h.done i' (by omega) j' hj', fun j' hj' => by omega, by omega⟩
/-- All of the class has been found. -/
theorem CB.all (hm : ∀ m ∈ ms, Mv n m) (H : Acts n ms N A fun _ => true) {c : Nat} {l : List Nat} (hc : c < N) (h : CB N ms A (lcF (GL n ms) A) c l l.length 0) : ∀ x, x < N → (lcF (GL n ms) A x = c ↔ x ∈ l) := by
  intro x hx
  refine ⟨fun e => ?_, fun hxl => (h.lt x hxl).2⟩
  have a2 := (lc_spec hm H hx).2.1
  rw [e] at a2
  obtain ⟨a, ha, rfl⟩ := (mem_orB hm c x).1 a2
  clear e hx a2
  induction ha with
  | one =>
    rw [H.one c hc]
    exact h.has
  | @step y m hy hmm ih =>
    rw [H.mul y m hy (GenF.maker hmm) c hc]
    obtain ⟨i, hi, e⟩ := List.mem_iff_getElem.1 ih
    obtain ⟨j, hj, e2⟩ := List.mem_iff_getElem.1 hmm
    have h1 := h.done i hi j hj
    rw [List.getD_eq_getElem?_getD, List.getElem?_eq_getElem hj, Option.getD_some, e2, List.getD_eq_getElem?_getD, List.getElem?_eq_getElem hi, Option.getD_some, e] at h1
    exact h1
theorem mk_end (hm : ∀ m ∈ ms, Mv n m) (H : Acts n ms N A fun _ => true) {c : Nat} {l : List Nat} (hc : c < N) (h : CB N ms A (lcF (GL n ms) A) c l l.length 0) : ∀ x, x < N → mkB (lcF (GL n ms) A) c l x = mkO (lcF (GL n ms) A) (c + 1) x := by
  intro x hx
  have hall := CB.all hm H hc h x hx
  unfold mkB mkO
  by_cases h1 : lcF (GL n ms) A x < c
  · rw [if_pos h1, if_pos (by omega)]
  · rw [if_neg h1]
    by_cases h2 : x ∈ l
    · rw [if_pos h2, if_pos (by have := hall.2 h2; omega), hall.2 h2]
    · rw [if_neg h2, if_neg (fun h3 => h2 (hall.1 (by omega)))]
theorem mk_skip (hm : ∀ m ∈ ms, Mv n m) (H : Acts n ms N A fun _ => true) {c : Nat} (hc : lcF (GL n ms) A c < c) : ∀ x, x < N → mkO (lcF (GL n ms) A) c x = mkO (lcF (GL n ms) A) (c + 1) x := by
  intro x hx
  have hne : lcF (GL n ms) A x ≠ c := fun e => by
    have := lc_idem hm H hx
    rw [e] at this
    omega
  unfold mkO
  by_cases h1 : lcF (GL n ms) A x < c
  · rw [if_pos h1, if_pos (by omega)]
  · rw [if_neg h1, if_neg (by omega)]
theorem mk_start (lc : Nat → Nat) {c : Nat} (h : lc c = c) (x : Nat) : mkB lc c [c] x = if x = c then ((c : Nat) : Int) else mkO lc c x := by
  unfold mkB mkO
  by_cases e : x = c
  · subst e
    rw [if_neg (by omega), if_pos (by simp), if_pos rfl]
  · rw [if_neg e]
    by_cases h1 : lc x < c
    · rw [if_pos h1, if_pos h1]
    · rw [if_neg h1, if_neg h1, if_neg (by simpa using e)]
theorem mk_add (lc : Nat → Nat) {c x : Nat} {l : List Nat} (h : lc x = c) (y : Nat) : mkB lc c (l ++ [x]) y = if y = x then ((c : Nat) : Int) else mkB lc c l y := by
  unfold mkB
  by_cases e : y = x
  · subst e
    rw [if_neg (by omega), if_pos (by simp), if_pos rfl]
  · rw [if_neg e]
    by_cases h1 : lc y < c
    · rw [if_pos h1, if_pos h1]
    · rw [if_neg h1, if_neg h1]
      by_cases h2 : y ∈ l
      · rw [if_pos h2, if_pos (List.mem_append_left _ h2)]
      · rw [if_neg h2, if_neg (fun h3 => (List.mem_append.1 h3).elim h2 fun h4 => e (List.mem_singleton.1 h4))]
/-- Those that are marked with themselves: one of each class. -/
theorem cl_marks (hm : ∀ m ∈ ms, Mv n m) (H : Acts n ms N A fun _ => true) : clN (GL n ms) A N (fun _ => true) = sumN (fun c => if mkO (lcF (GL n ms) A) N c = ((c : Nat) : Int) then 1 else 0) N := by
  unfold clN
  refine sumN_congr N fun c hc => ?_
  obtain ⟨a1, _, _⟩ := lc_spec hm H hc
  have h1 := ld_lc hm H hc
  unfold mkO
  rw [if_pos (show lcF (GL n ms) A c < N by omega)]
  by_cases e : lcF (GL n ms) A c = c
  · rw [if_pos ⟨rfl, h1.2 e⟩, if_pos (by rw [e])]
  · rw [if_neg (fun h => e (h1.1 h.2)), if_neg (fun h => e (by omega))]
end
end Go.Proofs.Ytnbgnoimanpjnaa
/-
  The walks over parterreref1.classes and ColouringsOf. Conditions: few colours, no more than 7 points; the makers can be read.
-/
namespace Go.Proofs.Ytnbgnoimanpjnaa
set_option linter.unusedVariables false
open Go.RowKit

def mkL (N : Nat) (g : Nat → Int) : List Int := (List.range N).map g
theorem mkL_len (N : Nat) (g : Nat → Int) : (mkL N g).length = N := by simp [mkL]
theorem mkL_get {N : Nat} {g : Nat → Int} {i : Nat} (h : i < N) : (mkL N g).getD i 0 = g i := by simp [mkL, h]
theorem mkL_congr {N : Nat} {g h : Nat → Int} (e : ∀ x, x < N → g x = h x) : mkL N g = mkL N h := List.map_congr_left fun x hx => e x (List.mem_range.1 hx)
theorem mkL_set {N x : Nat} {g h : Nat → Int} {z : Int} (hx : x < N) (e : ∀ y, y < N → h y = if y = x then z else g y) : (mkL N g).set x z = mkL N h := by
  refine List.ext_getElem? fun q => ?_
  by_cases hq : q < N
  · by_cases e2 : x = q
    · subst e2
      rw [List.getElem?_set_self (by rw [mkL_len]; exact hq)]
      simp [mkL, hq, e x hq]
    · rw [List.getElem?_set_ne e2]
      simp [mkL, hq, e q hq, if_neg (fun h : q = x => e2 h.symm)]
  · rw [List.getElem?_eq_none (by rw [List.length_set, mkL_len]; omega), List.getElem?_eq_none (by rw [mkL_len]; omega)]
theorem ints_snoc (l : List Nat) (x : Nat) : intsL (l ++ [x]) = intsL l ++ [((x : Nat) : Int)] := intsL_snoc l x

set_option maxHeartbeats 4000000 in
set_option maxRecDepth 100000 in
theorem gclasses_ok (n k : Nat) (v : Value) (ms : List (Nat → Nat)) (w : World) (hk : 1 ≤ k) (hk7 : k ≤ 7) (hn1 : 1 ≤ n) (hn : n ≤ 7) (hv : RL w v (ms.map (elL n))) (hm : ∀ m ∈ ms, Mv n m) (hml : ms.length ≤ 1000000) :
    Calls Try.prog 71 #[.int .i64 n, v, .int .i64 k] w fun e w' => (∃ r, e = .returned r ∧ OI w.heap.size w' r (mkL (k ^ n) (mkO (lcF (GL n ms) (colA n k)) (k ^ n)))) ∧ Below w.heap.size w w' := by
  have HPO := hid (fun w1 => gpower_ok k n w1 hk hk7 hn)
  have HA := col_acts hk hm (fun _ => true) fun _ _ _ _ => rfl
  have hNb := pow7 hk7 hn
  have hN1 : 1 ≤ k ^ n := Nat.pow_pos (by omega)
  have HK1 : Hid (k = 1 → k ^ n = 1) := hid (fun e => by rw [e, Nat.one_pow])
  have HMV := hid (fun (c : Nat) (u : Value) (a : Nat → Nat) (w1 : World) (hc : c ≤ 1000000) (hu : Sl w1 u (elL n a)) (P : Mv n a) => gmoved_ok c k n u a w1 hk hk7 hn1 hn hc hu P)
  have HMA := hid (fun j (hj : j < ms.length) => hv.mvAt hj)
  have HVB := hid (fun w1 (hb : Below w.heap.size w w1) => hv.below hb)
  have HPM := hid (fun j (hj : j < ms.length) => hm _ (getD_mem hj id))
  have HLC := hid (fun x (hx : x < k ^ n) => lc_spec hm HA hx)
  have HSAME := hid (fun x j (hx : x < k ^ n) (hj : j < ms.length) => (⟨col_lt hk (ms.getD j id) x, lc_same hm HA hx ((mem_orB hm x _).2 ⟨ms.getD j id, GenF.maker (getD_mem hj id), rfl⟩)⟩ : colA n k (ms.getD j id) x < k ^ n ∧ lcF (GL n ms) (colA n k) x = lcF (GL n ms) (colA n k) (colA n k (ms.getD j id) x)))
  have HST := hid (fun c (hc : c < k ^ n) h => CB.start (ms := ms) (A := colA n k) (lc := lcF (GL n ms) (colA n k)) hc h)
  have HEND := hid (fun c l (hc : c < k ^ n) h => mk_end (l := l) hm HA hc h)
  have HSKIP := hid (fun c h => mk_skip (c := c) hm HA h)
  clear HA hm
  obtain ⟨va, vc, rfl, hv1, _⟩ := hv
  rw [List.length_map] at hv1 HVB HMA ⊢
  have hkk : ∀ j, (fun x => mkO (lcF (GL n ms) (colA n k)) j x) = mkO (lcF (GL n ms) (colA n k)) j := fun j => rfl
  generalize lcF (GL n ms) (colA n k) = lc at *
  generalize colA n k = CA at *
  obtain ⟨N, hN⟩ : ∃ N, k ^ n = N := ⟨_, rfl⟩
  simp only [hN] at *
  clear hN hkk
  obtain ⟨K, hK⟩ : ∃ K, ms.length = K := ⟨_, rfl⟩
  have HK := hid hK
  rw [hK] at hv1 hml HMA HPM HSAME HVB ⊢
  clear hK
  have HM0 : Hid (∀ x, x < N → mkO lc 0 x = -1) := hid (fun x hx => if_neg (by omega))
  have HMS := hid (fun c (h : lc c = c) => mk_start lc h)
  have HMD := hid (fun c x l (h : lc x = c) => mk_add (l := l) lc h)
  have HLEN := hid (mkL_len N)
  have HIN := hid intsL_len
  go_enter Try.func71, Try.ntmps71
  go_wp2_with fail
  refine (HPO.out _).mono ?_
  rintro e w0 ⟨rfl, hw0⟩
  subst hw0
  go_upto_if 19 with fail
  go_cut [7] from 18 (fun v7 wc => v7 = .int .i64 (N : Nat) ∧ wc = w0)
  case first =>
    by_cases h1 : k = 1
    · have hbe : (((k : Nat) : Int) == 1) = true := beq_iff_eq.2 (by omega)
      have h2 := HK1.out h1
      clear h1
      go_wp2_with fail
      go_meet
      case rel => exact ⟨by rw [h2]; rfl, rfl⟩
    · have hbe : (((k : Nat) : Int) == 1) = false := beq_eq_false_iff_ne.2 (by omega)
      clear h1
      go_wp2_with fail
      go_meet
      case rel => exact ⟨rfl, rfl⟩
  case rest =>
    obtain ⟨rfl, hwc⟩ := hcut
    subst hwc
    have HB0 := hid (Below.refl wc.heap.size wc)
    go_wp2_with (at_make; refine wpList_mk (w := wc) _ _ 23 3 (.int .i64 0) 8 rfl rfl Try.underlying23 Try.info3 rfl (by decide) wc.heap.size _ N rfl rfl rfl (by omega) (Nat.le_refl _) ?_; intro w6 hs6 hgr6 hz6)
    have hoi : OI wc.heap.size w6 (.slice (some ⟨wc.heap.size, 0, none⟩) N N) (mkL N fun _ => 0) := by
      unfold OI mkL
      rw [List.map_const', List.length_range, List.map_replicate]
      exact hs6
    have hb6 : Below wc.heap.size wc w6 := (Below.refl _ _).grown hgr6 (Nat.le_refl _) (fun k h => by cases h)
    have H6 := hid (And.intro hoi hb6)
    clear hs6 hgr6 hoi hb6
    go_loopw [9] (fun v9 wr => ∃ i : Nat, v9 = .int .i64 i ∧ i ≤ N ∧ OI wc.heap.size wr (.slice (some ⟨wc.heap.size, 0, none⟩) N N) (mkL N fun x => if x < i then -1 else 0) ∧ Below wc.heap.size wc wr ∧ wc.heap.size < wr.heap.size) (fun v9 _ => N - (intOf v9).toNat)
    case atStart => exact ⟨0, rfl, Nat.zero_le _, by rw [show (fun x => if x < 0 then (-1 : Int) else 0) = fun _ => 0 by funext x; simp]; exact H6.out.1, H6.out.2, hz6⟩
    case round =>
      clear H6 hz6
      obtain ⟨i, rfl, hi, ho, hb, hsz⟩ := hrel
      by_cases hil : i < N
      · have hii : (i : Int) < (N : Int) := by omega
        have hfz := ho.frozen i
        have hce := ho.cell i (by rw [HLEN.out]; exact hil)
        obtain ⟨hs8, hg8⟩ := ho.stored i (-1)
        rw [mkL_set (h := fun x => if x < i + 1 then -1 else 0) hil (fun y _ => by
          by_cases e : y = i
          · rw [if_pos e, if_pos (by omega)]
          · rw [if_neg e]
            by_cases h : y < i
            · rw [if_pos h, if_pos (by omega)]
            · rw [if_neg h, if_neg (by omega)])] at hs8
        have HX := hid (And.intro hs8 (And.intro (hb.grown hg8 hb.size (fun b e => by cases e; exact Nat.le_refl _)) (Nat.lt_of_lt_of_le hsz hg8.size)))
        clear ho hb hs8 hg8
        generalize (mkL N fun x => if x < i then -1 else 0).getD i 0 = old at *
        go_wp2
        go_roundw
        case rel => exact ⟨i + 1, by go_num, by omega, HX.out.1, HX.out.2.1, HX.out.2.2⟩
        case measure => simp [intOf] <;> omega
      · obtain rfl : i = N := by omega
        have hii : ¬ (i : Int) < (i : Int) := by omega
        rw [mkL_congr (h := mkO lc 0) (fun x hx => by rw [if_pos hx, HM0.out x hx])] at ho
        have HI := hid (And.intro ho hb)
        clear ho hb
        go_wp2_with fail
        go_loopw [10, 11, 12, 13, 14] (fun v10 _ _ _ _ wr => ∃ c : Nat, v10 = .int .i64 c ∧ c ≤ i ∧ OI wc.heap.size wr (.slice (some ⟨wc.heap.size, 0, none⟩) i i) (mkL i (mkO lc c)) ∧ Below wc.heap.size wc wr ∧ wc.heap.size < wr.heap.size) (fun v10 _ _ _ _ _ => i - (intOf v10).toNat)
        case atStart => exact ⟨0, rfl, Nat.zero_le _, HI.out.1, HI.out.2, hsz⟩
        case round =>
          clear HI hsz
          obtain ⟨c, rfl, hc, ho, hb, hsz⟩ := hrel
          by_cases hcl : c < i
          · have hci : (c : Int) < (i : Int) := by omega
            obtain ⟨hl1, _, _⟩ := HLC.out c hcl
            have hfz := ho.frozen c
            have hce := ho.cell c (by rw [HLEN.out]; exact hcl)
            rw [mkL_get hcl] at hce
            by_cases hlc : lc c < c
            · have hcv : mkO lc c c = ((lc c : Nat) : Int) := if_pos hlc
              rw [hcv] at hce
              have hsk := HSKIP.out c hlc
              rw [mkL_congr hsk] at ho
              have HI := hid (And.intro ho hb)
              clear ho hb hcv hsk hl1
              generalize lc c = lv at *
              have hge : (0 : Int) ≤ ((lv : Nat) : Int) := by omega
              go_wp2
              go_roundw
              case rel => exact ⟨c + 1, by go_num, by omega, HI.out.1, HI.out.2, hsz⟩
              case measure => simp [intOf] <;> omega
            · have hlc' : lc c = c := by omega
              have hcv : mkO lc c c = -1 := if_neg hlc
              rw [hcv] at hce
              obtain ⟨hs8, hg8⟩ := ho.stored c ((c : Nat) : Int)
              rw [mkL_set (h := mkB lc c [c]) hcl (fun y _ => HMS.out c hlc' y)] at hs8
              have HCB := hid (HST.out c hcl hlc')
              have hb8 := hb.grown hg8 hb.size (fun b e => by cases e; exact Nat.le_refl _)
              have hz8 := Nat.lt_of_lt_of_le hsz hg8.size
              have hsz8 : (wr.setCell ⟨wc.heap.size, c, none⟩ (.int .i64 ((c : Nat) : Int))).heap.size = wr.heap.size := by simp [World.setCell]
              have hl1' := OI.lit1 (wc.heap.size + 1) (wr.setCell ⟨wc.heap.size, c, none⟩ (.int .i64 ((c : Nat) : Int))) ((c : Nat) : Int) (by omega)
              rw [hsz8] at hl1'
              have HL1 := hid hl1'
              have h9 : Below (wr.setCell ⟨wc.heap.size, c, none⟩ (.int .i64 ((c : Nat) : Int))).heap.size (wr.setCell ⟨wc.heap.size, c, none⟩ (.int .i64 ((c : Nat) : Int))) ((wr.setCell ⟨wc.heap.size, c, none⟩ (.int .i64 ((c : Nat) : Int))).alloc (.cells #[.int .i64 ((c : Nat) : Int)] 3)) := (Below.refl _ _).alloc (Nat.le_refl _) _
              have HX := hid (And.intro (hs8.below h9) (And.intro (hb8.trans (h9.mono hb8.size)) (show wc.heap.size < ((wr.setCell ⟨wc.heap.size, c, none⟩ (.int .i64 ((c : Nat) : Int))).alloc (.cells #[.int .i64 ((c : Nat) : Int)] 3)).heap.size by simp [World.setCell]; omega)))
              clear ho hb hs8 hg8 hb8 hcv h9 hl1' hsz8 hl1
              go_wp2_with fail
              go_loopw [11, 12, 13, 14] (fun v11 v12 _ _ wr => ∃ (l : List Nat) (q : Nat), v12 = .int .i64 q ∧ Hid (CB i ms CA lc c l q 0) ∧ OI (wc.heap.size + 1) wr v11 (intsL l) ∧ OI wc.heap.size wr (.slice (some ⟨wc.heap.size, 0, none⟩) i i) (mkL i (mkB lc c l)) ∧ Below wc.heap.size wc wr ∧ wc.heap.size < wr.heap.size) (fun _ v12 _ _ _ => i + 1 - (intOf v12).toNat)
              case atStart => exact ⟨[c], 0, rfl, HCB, HL1.out, HX.out.1, HX.out.2.1, HX.out.2.2⟩
              case round =>
                clear HX HL1 HCB hz8 hce hfz hsz
                obtain ⟨l, q, rfl, HC, hol, ho, hb, hsz⟩ := hrel
                have hll := HC.out.len
                have hle := HC.out.le
                obtain ⟨la, lcp, el⟩ := hol.len
                rw [HIN.out] at el
                subst el
                by_cases hql : q < l.length
                · have hqi : (q : Int) < ((l.length : Nat) : Int) := by omega
                  have hlp : 0 < l.length := by omega
                  have HI := hid (And.intro hol (And.intro ho hb))
                  clear hol ho hb
                  obtain ⟨LN, hLN⟩ : ∃ LN, l.length = LN := ⟨_, rfl⟩
                  have HLN := hid hLN
                  rw [hLN] at hll hle hql hqi hlp HI ⊢
                  clear hLN
                  go_wp2_with fail
                  go_loopw [11, 13, 14] (fun v11 v13 _ wr => ∃ (l : List Nat) (j : Nat), v13 = .int .i64 j ∧ j ≤ K ∧ q < l.length ∧ Hid (CB i ms CA lc c l q j) ∧ OI (wc.heap.size + 1) wr v11 (intsL l) ∧ OI wc.heap.size wr (.slice (some ⟨wc.heap.size, 0, none⟩) i i) (mkL i (mkB lc c l)) ∧ Below wc.heap.size wc wr ∧ wc.heap.size < wr.heap.size) (fun _ v13 _ _ => K - (intOf v13).toNat)
                  case atStart => exact ⟨l, 0, rfl, Nat.zero_le _, by rw [HLN.out]; exact hql, HC, HI.out.1, HI.out.2.1, HI.out.2.2, hsz⟩
                  case round =>
                    clear HI HC HLN hll hle hql hqi hlp hsz
                    obtain ⟨l, j, rfl, hj, hql, HC, hol, ho, hb, hsz⟩ := hrel
                    have hll := HC.out.len
                    by_cases hjl : j < K
                    · have hji : (j : Int) < (K : Int) := by omega
                      obtain ⟨gl, cl, el, hgl, _⟩ := hol.form (by rw [HIN.out]; omega)
                      rw [HIN.out] at el
                      subst el
                      obtain ⟨g1, o1, c1, a1, d1, e1, hg1, hc1, hs1⟩ := HMA.out j hjl
                      simp only [Value.slice.injEq] at e1
                      obtain ⟨rfl, rfl⟩ : va = some ⟨g1, o1, none⟩ ∧ vc = c1 := ⟨e1.1, e1.2.2⟩
                      obtain ⟨p, hp⟩ : ∃ p, l.getD q 0 = p := ⟨_, rfl⟩
                      have hpl : p ∈ l := by
                        rw [← hp, List.getD_eq_getElem?_getD, List.getElem?_eq_getElem hql]
                        exact List.getElem_mem hql
                      obtain ⟨hpi, hpc⟩ := HC.out.lt p hpl
                      obtain ⟨hx1, hx2⟩ := HSAME.out p j hpi hjl
                      have hpm := HPM.out j hjl
                      have HX0 : Hid (CA (ms.getD j id) (l.getD q 0) = CA (ms.getD j id) p) := hid (by rw [hp])
                      obtain ⟨m, hm⟩ : ∃ m, ms.getD j id = m := ⟨_, rfl⟩
                      have hqc := hol.cell q (by rw [HIN.out]; exact hql)
                      have hqv : (intsL l).getD q 0 = ((p : Nat) : Int) := by
                        rw [← hp]
                        simp [intsL, hql]
                      rw [hqv] at hqc
                      have hc1w := (hb.cell (p := ⟨g1, o1 + j, none⟩) hg1).trans hc1
                      have hs1w := hs1.below hb
                      rw [hm] at hx1 hx2 hpm hs1w HX0
                      have HMO := hid (HMV.out p _ m wr.drew (by omega) hs1w.drew hpm)
                      have hqli : (q : Int) < ((l.length : Nat) : Int) := by omega
                      have HME := hid hm
                      have HI := hid (And.intro hol (And.intro ho hb))
                      obtain ⟨LN, hLN⟩ : ∃ LN, l.length = LN := ⟨_, rfl⟩
                      have HLN := hid hLN
                      rw [hLN] at hqli hql hll HI ⊢
                      obtain ⟨x, hx⟩ : ∃ x, CA m p = x := ⟨_, rfl⟩
                      rw [hx] at hx1 hx2 HMO HX0
                      clear hol ho hb hp hqv hc1 hs1 hs1w hLN hm e1 hx
                      go_wp2_with fail
                      go_still_tail 9, (by kernel_rfl)
                      go_wp2_with fail
                      refine HMO.out.mono ?_
                      rintro e w2 ⟨rfl, hb2⟩
                      have hb2' : Below wr.heap.size wr w2 := ((Below.refl _ _).drew).trans hb2
                      have hol2 := HI.out.1.below hb2'
                      have ho2 := HI.out.2.1.below hb2'
                      have hbb2 := HI.out.2.2.trans (hb2'.mono HI.out.2.2.size)
                      have hsz2 := Nat.lt_of_lt_of_le hsz hb2'.size
                      have hfz := ho2.frozen x
                      have hce := ho2.cell x (by rw [HLEN.out]; exact hx1)
                      rw [mkL_get hx1] at hce
                      have hxi : ((x : Nat) : Int) < (i : Int) := by omega
                      by_cases hxl : x ∈ l
                      · have hcv : mkB lc c l x = ((c : Nat) : Int) := by
                          unfold mkB
                          rw [if_neg (by omega), if_pos hxl]
                        rw [hcv] at hce
                        have HC2 := hid (HC.out.there (by rw [HME.out, HX0.out]; exact hxl))
                        have HI2 := hid (And.intro hol2 (And.intro ho2 hbb2))
                        have hge : ¬ ((c : Nat) : Int) < 0 := by omega
                        clear hol2 ho2 hbb2 hb2 hb2' hcv hxl
                        go_wp2
                        go_roundw
                        case rel => exact ⟨l, j + 1, by go_num, by omega, by rw [HLN.out]; exact hql, HC2, HI2.out.1, HI2.out.2.1, HI2.out.2.2, hsz2⟩
                        case measure => simp [intOf] <;> omega
                      · have hcv : mkB lc c l x = -1 := by
                          unfold mkB
                          rw [if_neg (by omega), if_neg hxl]
                        rw [hcv] at hce
                        have HC2 := hid (HC.out.add (by rw [HLN.out]; exact hql) (by rw [HME.out]; exact HX0.out) hxl hx1 (by omega))
                        obtain ⟨hs8, hg8⟩ := ho2.stored x ((c : Nat) : Int)
                        rw [mkL_set (h := mkB lc c (l ++ [x])) hx1 (fun y _ => HMD.out c x l (by omega) y)] at hs8
                        have hol8 := hol2.kept hg8 (.inr (by simp [Value.ownBlock]; omega))
                        have hb8 := hbb2.grown hg8 hbb2.size (fun b e => by cases e; exact Nat.le_refl _)
                        have hz8 := Nat.lt_of_lt_of_le hsz2 hg8.size
                        have hlq : (intsL l).length ≤ 1000000000000 := by rw [HIN.out, HLN.out]; omega
                        have HSN := hid (ints_snoc l x)
                        have H8 := hid (And.intro hol8 (And.intro hs8 hb8))
                        have hwb : wc.heap.size + 1 ≤ (w2.setCell ⟨wc.heap.size, x, none⟩ (.int .i64 ((c : Nat) : Int))).heap.size := by omega
                        clear hol2 ho2 hbb2 hb2 hb2' hcv hxl hs8 hg8 hol8 hb8
                        go_wp2_with (first
                          | (at_builtin; refine wpList_appi (w2.setCell ⟨wc.heap.size, x, none⟩ (.int .i64 ((c : Nat) : Int))) (.tmp 77) _ 23 rfl rfl Try.underlying23 Try.info3 (wc.heap.size + 1) _ _ rfl H8.out.1 rfl hlq hwb ?_
                             intro g9 c9 w9 hown1 hg1 hg2 hg3
                             have hg1' : (w2.setCell ⟨wc.heap.size, x, none⟩ (.int .i64 ((c : Nat) : Int))).grownBy w9 (some gl) := hg1
                             have hm9 := H8.out.2.1.kept hg1' (.inr (by simp [Value.ownBlock]; omega))
                             have hb9 := H8.out.2.2.grown hg1' H8.out.2.2.size (fun b e => by cases e; omega)
                             have hl9 : OI (wc.heap.size + 1) w9 (.slice (some ⟨g9, 0, none⟩) ((intsL l).length + 1) c9) (intsL (l ++ [x])) := by
                               rw [HSN.out]
                               exact hown1
                             have HX := hid (And.intro hl9 (And.intro hm9 (And.intro hb9 (Nat.lt_of_lt_of_le hz8 hg1'.size))))
                             clear hown1 hg1 hg2 hg3 hg1' hm9 hb9 hl9)
                          | fail)
                        go_roundw
                        case rel => exact ⟨l ++ [x], j + 1, by go_num, by omega, by rw [List.length_append, HLN.out]; omega, HC2, HX.out.1, HX.out.2.1, HX.out.2.2.1, HX.out.2.2.2⟩
                        case measure => simp [intOf] <;> omega
                    · obtain rfl : j = K := by omega
                      have hji : ¬ (j : Int) < (j : Int) := by omega
                      have HC2 := hid (by
                        have h := HC.out
                        rw [← HK.out] at h
                        exact h.next hql : CB i ms CA lc c l (q + 1) 0)
                      have HI := hid (And.intro hol (And.intro ho hb))
                      clear hol ho hb
                      go_wp2
                      go_roundw
                      case rel => exact ⟨l, q + 1, by go_num, HC2, HI.out.1, HI.out.2.1, HI.out.2.2, hsz⟩
                      case measure => simp [intOf] <;> omega
                · obtain rfl : q = l.length := by omega
                  have hqi : ¬ ((l.length : Nat) : Int) < ((l.length : Nat) : Int) := by omega
                  have hend := HEND.out c l hcl HC.out
                  rw [mkL_congr hend] at ho
                  have HI := hid (And.intro ho hb)
                  clear hol ho hb hend
                  go_wp2
                  go_roundw
                  case rel => exact ⟨c + 1, by go_num, by omega, HI.out.1, HI.out.2, hsz⟩
                  case measure => simp [intOf] <;> omega
          · obtain rfl : c = i := by omega
            have hci : ¬ (c : Int) < (c : Int) := by omega
            have HI := hid (And.intro ho hb)
            clear ho hb
            go_wp2
            go_ret
            exact ⟨⟨_, rfl, HI.out.1⟩, HI.out.2⟩
end Go.Proofs.Ytnbgnoimanpjnaa
/-
  The walk over parterreref1.ColouringsOf. Conditions: few colours, no more than 7 points; the makers can be read.
-/
namespace Go.Proofs.Ytnbgnoimanpjnaa
set_option linter.unusedVariables false
open Go.RowKit

set_option maxHeartbeats 1000000 in
set_option maxRecDepth 100000 in
theorem gcolof_ok (n k : Nat) (v : Value) (ms : List (Nat → Nat)) (w : World) (hk : 1 ≤ k) (hk7 : k ≤ 7) (hn1 : 1 ≤ n) (hn : n ≤ 7) (hv : RL w v (ms.map (elL n))) (hm : ∀ m ∈ ms, Mv n m) (hml : ms.length ≤ 1000000) :
    Calls Try.prog 44 #[.int .i64 n, v, .int .i64 k] w fun e w' => e = .returned (.int .i64 (clN (GL n ms) (colA n k) (k ^ n) (fun _ => true) : Nat)) ∧ Below w.heap.size w w' := by
  have HCL := hid (gclasses_ok n k v ms w hk hk7 hn1 hn hv hm hml)
  have HA := col_acts hk hm (fun _ => true) fun _ _ _ _ => rfl
  have HR := hid (cl_marks hm HA)
  have hNb := pow7 hk7 hn
  have hN1 : 1 ≤ k ^ n := Nat.pow_pos (by omega)
  have HS := hid (fun c => sumN_le (fun c => if mkO (lcF (GL n ms) (colA n k)) (k ^ n) c = ((c : Nat) : Int) then 1 else 0) (fun i => by split <;> omega) c)
  obtain ⟨va, vc, rfl, hv1, _⟩ := hv
  rw [List.length_map] at hv1 HCL ⊢
  clear HA hm
  generalize clN (GL n ms) (colA n k) (k ^ n) (fun _ => true) = R at *
  generalize mkO (lcF (GL n ms) (colA n k)) (k ^ n) = g at *
  obtain ⟨N, hN⟩ : ∃ N, k ^ n = N := ⟨_, rfl⟩
  simp only [hN] at *
  clear hN
  have HLEN := hid (mkL_len N)
  obtain ⟨SM, hSM⟩ : ∃ SM : Nat → Nat, SM = sumN (fun c => if g c = ((c : Nat) : Int) then 1 else 0) := ⟨_, rfl⟩
  have HSS : Hid (∀ c, SM (c + 1) = SM c + if g c = ((c : Nat) : Int) then 1 else 0) := hid (fun c => by rw [hSM]; rfl)
  have HS0 : Hid (SM 0 = 0) := hid (by rw [hSM]; rfl)
  rw [← hSM] at HR HS
  clear hSM
  generalize ms.length = K at *
  go_enter Try.func44, Try.ntmps44
  go_wp2_with fail
  refine HCL.out.mono ?_
  rintro e w1 ⟨⟨r, rfl, hr⟩, hb1⟩
  obtain ⟨gr, cr, er, _, _⟩ := hr.form (by rw [HLEN.out]; omega)
  rw [HLEN.out] at er
  subst er
  have H1 := hid (And.intro hr hb1)
  clear hr hb1
  go_wp2_with fail
  go_loopw [8, 9] (fun v8 v9 wr => ∃ c : Nat, v9 = .int .i64 c ∧ c ≤ N ∧ v8 = .int .i64 (SM c : Nat) ∧ wr = w1) (fun _ v9 _ => N - (intOf v9).toNat)
  case atStart => exact ⟨0, rfl, Nat.zero_le _, by rw [HS0.out]; rfl, rfl⟩
  case round =>
    obtain ⟨c, rfl, hc, rfl, hw⟩ := hrel
    subst hw
    have hs := HS.out c
    by_cases hcl : c < N
    · have hci : (c : Int) < (N : Int) := by omega
      have hce := H1.out.1.cell c (by rw [HLEN.out]; exact hcl)
      rw [mkL_get hcl] at hce
      have hss := HSS.out c
      by_cases he : g c = ((c : Nat) : Int)
      · rw [he] at hce
        have HSk : Hid (SM (c + 1) = SM c + 1) := hid (by rw [hss, if_pos he])
        clear hss he
        go_wp2
        go_roundw
        case rel => exact ⟨c + 1, by go_num, by omega, by rw [HSk.out]; go_num, trivial⟩
        case measure => simp [intOf] <;> omega
      · have hbe : (g c == ((c : Nat) : Int)) = false := beq_eq_false_iff_ne.2 he
        have HSk : Hid (SM (c + 1) = SM c) := hid (by rw [hss, if_neg he, Nat.add_zero])
        clear hss he
        generalize g c = gc at *
        go_wp2
        go_roundw
        case rel => exact ⟨c + 1, by go_num, by omega, by rw [HSk.out], trivial⟩
        case measure => simp [intOf] <;> omega
    · obtain rfl : c = N := by omega
      have hci : ¬ (c : Int) < (c : Int) := by omega
      go_wp2
      go_ret
      exact ⟨by rw [HR.out]; rfl, H1.out.2⟩
end Go.Proofs.Ytnbgnoimanpjnaa
/-
  slices.SortFunc of slices of ints by count's order: the kit's contract, laid at this program; slices.Compare and the function handed over. Conditions: the slices are the call's own, all of one length.
-/
namespace Go.Proofs.Ytnbgnoimanpjnaa
set_option linter.unusedVariables false
open Go.RowKit Go.Shelf

set_option maxRecDepth 100000 in
def ksortRen : Ren := ⟨fun x => match x with | 6 => 66 | 15 => 90 | 14 => 89 | 28 => 105 | 29 => 106 | 20 => 97 | 21 => 98 | 22 => 99 | 23 => 100 | 24 => 101 | 25 => 102 | 26 => 103 | 27 => 104 | 46 => 125 | 47 => 126 | 48 => 127 | 49 => 128 | 50 => 129 | 57 => 136 | n => n, fun x => match x with | 22 => 22 | 24 => 23 | 25 => 87 | 3 => 3 | 39 => 105 | 0 => 0 | 53 => 118 | 55 => 120 | 4 => 4 | 46 => 112 | 45 => 111 | 50 => 93 | 5 => 5 | 9 => 9 | 66 => 132 | 70 => 136 | 76 => 142 | 77 => 143 | n => n, fun n => n⟩
theorem ksort : SlLaysF.n6 Try.prog ksortRen where
  mixed := by kernel_rfl
  f6 := ⟨(Try.f66).name, by kernel_rfl, Try.func66.trans (congrArg some (by kernel_rfl))⟩
  f14 := ⟨(Try.f89).name, by kernel_rfl, Try.func89.trans (congrArg some (by kernel_rfl))⟩
  f15 := Try.func90.trans (congrArg some (by kernel_rfl))
  f20 := ⟨(Try.f97).name, by kernel_rfl, Try.func97.trans (congrArg some (by kernel_rfl))⟩
  f21 := ⟨(Try.f98).name, by kernel_rfl, Try.func98.trans (congrArg some (by kernel_rfl))⟩
  f22 := ⟨(Try.f99).name, by kernel_rfl, Try.func99.trans (congrArg some (by kernel_rfl))⟩
  f23 := ⟨(Try.f100).name, by kernel_rfl, Try.func100.trans (congrArg some (by kernel_rfl))⟩
  f24 := ⟨(Try.f101).name, by kernel_rfl, Try.func101.trans (congrArg some (by kernel_rfl))⟩
  f25 := ⟨(Try.f102).name, by kernel_rfl, Try.func102.trans (congrArg some (by kernel_rfl))⟩
  f26 := ⟨(Try.f103).name, by kernel_rfl, Try.func103.trans (congrArg some (by kernel_rfl))⟩
  f27 := ⟨(Try.f104).name, by kernel_rfl, Try.func104.trans (congrArg some (by kernel_rfl))⟩
  f28 := Try.func105.trans (congrArg some (by kernel_rfl))
  f29 := Try.func106.trans (congrArg some (by kernel_rfl))
  f46 := ⟨(Try.f125).name, by kernel_rfl, Try.func125.trans (congrArg some (by kernel_rfl))⟩
  f47 := Try.func126.trans (congrArg some (by kernel_rfl))
  f48 := Try.func127.trans (congrArg some (by kernel_rfl))
  f49 := ⟨(Try.f128).name, by kernel_rfl, Try.func128.trans (congrArg some (by kernel_rfl))⟩
  f50 := ⟨(Try.f129).name, by kernel_rfl, Try.func129.trans (congrArg some (by kernel_rfl))⟩
  f57 := ⟨(Try.f136).name, by kernel_rfl, Try.func136.trans (congrArg some (by kernel_rfl))⟩
  t0 := Try.underlying0
  a0 := Try.isAgg0
  z0 := Try.sizeOf0
  v0 := Try.zeroValue0
  t3 := Try.underlying3
  a3 := Try.isAgg3
  z3 := Try.sizeOf3
  v3 := Try.zeroValue3
  t4 := Try.underlying4
  a4 := Try.isAgg4
  z4 := Try.sizeOf4
  v4 := Try.zeroValue4
  t5 := Try.underlying5
  a5 := Try.isAgg5
  z5 := Try.sizeOf5
  v5 := Try.zeroValue5
  t9 := Try.underlying9
  a9 := Try.isAgg9
  z9 := Try.sizeOf9
  v9 := Try.zeroValue9
  t22 := Try.underlying22
  a22 := Try.isAgg22
  z22 := Try.sizeOf22
  v22 := Try.zeroValue22
  a24 := Try.isAgg23
  z24 := Try.sizeOf23
  t25 := Try.underlying87
  a25 := Try.isAgg87
  z25 := Try.sizeOf87
  v25 := Try.zeroValue87
  t39 := Try.underlying105
  a39 := Try.isAgg105
  z39 := Try.sizeOf105
  v39 := Try.zeroValue105
  t45 := Try.underlying111
  a45 := Try.isAgg111
  z45 := Try.sizeOf111
  v45 := Try.zeroValue111
  t46 := Try.underlying112
  a46 := Try.isAgg112
  z46 := Try.sizeOf112
  v46 := Try.zeroValue112
  t50 := Try.underlying93
  a50 := Try.isAgg93
  z50 := Try.sizeOf93
  v50 := Try.zeroValue93
  t53 := Try.underlying118
  a53 := Try.isAgg118
  z53 := Try.sizeOf118
  v53 := Try.zeroValue118
  t55 := Try.underlying120
  a55 := Try.isAgg120
  z55 := Try.sizeOf120
  v55 := Try.zeroValue120
  t66 := Try.underlying132
  a66 := Try.isAgg132
  z66 := Try.sizeOf132
  v66 := Try.zeroValue132
  t70 := Try.underlying136
  a70 := Try.isAgg136
  z70 := Try.sizeOf136
  v70 := Try.zeroValue136
  t76 := Try.underlying142
  a76 := Try.isAgg142
  z76 := Try.sizeOf142
  v76 := Try.zeroValue142
  t77 := Try.underlying143
  a77 := Try.isAgg143
  z77 := Try.sizeOf143
  v77 := Try.zeroValue143
open Go.Sort Go.Lib
/-- The first n numbers compared. -/
def cfN (n : Nat) (x y : Nat → Nat) : Int := match (List.range n).find? (fun i => !(x i == y i)) with
  | none => 0
  | some i => if x i < y i then -1 else 1
theorem cfn_none {n : Nat} {x y : Nat → Nat} (h : ∀ i, i < n → x i = y i) : cfN n x y = 0 := by
  unfold cfN
  rw [List.find?_eq_none.2 (fun i hi => by simp [h i (List.mem_range.1 hi)])]
theorem cfn_some {n : Nat} {x y : Nat → Nat} {k : Nat} (hk : k < n) (h : ∀ i, i < k → x i = y i) (hne : x k ≠ y k) : cfN n x y = if x k < y k then -1 else 1 := by
  unfold cfN
  rw [List.find?_range_eq_some.2 ⟨by simp [hne], List.mem_range.2 hk, fun j hj => by simp [h j hj]⟩]
theorem cfn_lt (n : Nat) (x y : Nat → Nat) : cfN n x y < 0 ↔ LexF n x y := by
  rcases first_diff (f := x) (g := y) n with h | ⟨k, h1, h2, h3⟩
  · rw [cfn_none h]
    refine ⟨fun h => by omega, fun ⟨i, hi, _, hl⟩ => ?_⟩
    have := h i hi
    omega
  · rw [cfn_some h1 h2 h3]
    constructor
    · intro h
      by_cases hl : x k < y k
      · exact ⟨k, h1, h2, hl⟩
      · rw [if_neg hl] at h; omega
    · rintro ⟨i, hi, he, hl⟩
      have hik : i = k := by
        rcases Nat.lt_trichotomy i k with e | e | e
        · have := h2 i e; omega
        · exact e
        · exact absurd (he k e) h3
      subst hik
      rw [if_pos hl]
      omega

set_option maxHeartbeats 1000000 in
theorem scmpn_ok (n : Nat) (x y : Nat → Nat) (b1 o1 c1 b2 o2 c2 : Nat) (w : World) (hn : n ≤ 7) (hx : ∀ i, i < n → w.cell? ⟨b1, o1 + i, none⟩ = some (.int .i64 ((x i : Nat) : Int))) (hy : ∀ i, i < n → w.cell? ⟨b2, o2 + i, none⟩ = some (.int .i64 ((y i : Nat) : Int))) :
    Calls Try.prog 68 #[.slice (some ⟨b1, o1, none⟩) n c1, .slice (some ⟨b2, o2, none⟩) n c2] w fun e w' => e = .returned (.int .i64 (cfN n x y)) ∧ ∃ q, w' = w.drewN q := by
  have HX := hid hx
  have HY := hid hy
  have HC := hid (fun (a b : Int) (w1 : World) => cmpint_ok a b w1)
  have HN := hid (cfn_none (n := n) (x := x) (y := y))
  have HS := hid (fun k (hk : k < n) h hne => cfn_some (x := x) (y := y) (k := k) hk h hne)
  clear hx hy
  generalize cfN n x y = z at *
  go_enter Try.func68, Try.ntmps68
  go_wp2_with fail
  go_loopw [4, 5, 6, 7, 8, 11] (fun _ _ _ _ _ i wq => ∃ k q : Nat, k ≤ n ∧ i = .int .i64 k ∧ Hid (∀ j, j < k → x j = y j) ∧ wq = w.drewN q) (fun _ _ _ _ _ i _ => n - (intOf i).toNat)
  case atStart => exact ⟨0, 0, by omega, rfl, hid (fun j hj => by omega), rfl⟩
  case round =>
    obtain ⟨k, q, hk, rfl, HE, rfl⟩ := hrel
    by_cases hlt : k < n
    · have hki : (k : Int) < (n : Int) := by omega
      have hki2 : ¬ (n : Int) ≤ (k : Int) := by omega
      have c1 := HX.out k hlt
      have c2 := HY.out k hlt
      by_cases he : x k = y k
      · have HE2 : Hid (∀ j, j < k + 1 → x j = y j) := hid (fun j hj => by
          by_cases e : j = k
          · rw [e]; exact he
          · exact HE.out j (by omega))
        have HCC := hid (fun w1 => HC.out ((x k : Nat) : Int) ((y k : Nat) : Int) w1)
        rw [show cmp3 ((x k : Nat) : Int) ((y k : Nat) : Int) = 0 by rw [he]; exact cmp3_eq _] at HCC
        clear he
        generalize x k = xk at *
        generalize y k = yk at *
        go_wp2_with fail
        refine (HCC.out _).mono ?_
        rintro e w1 ⟨rfl, rfl⟩
        go_wp2
        go_roundw
        case rel => exact ⟨k + 1, q, by omega, by go_num, HE2.out, rfl⟩
        case measure => simp [intOf] <;> omega
      · have HCC := hid (fun w1 => HC.out ((x k : Nat) : Int) ((y k : Nat) : Int) w1)
        have hz := HS.out k hlt HE.out he
        rw [cmp3_ne he, ← hz] at HCC
        have hz0 : (z != 0) = true := by rw [bne_iff_ne, hz]; split <;> decide
        clear he hz
        generalize x k = xk at *
        generalize y k = yk at *
        go_wp2_with fail
        refine (HCC.out _).mono ?_
        rintro e w1 ⟨rfl, rfl⟩
        go_wp2
        go_ret
        exact ⟨rfl, q, rfl⟩
    · have hki : ¬ (k : Int) < (n : Int) := by omega
      have hz := HN.out (fun i hi => HE.out i (by omega))
      have HZ := hid hz
      clear hz
      go_wp2
      go_ret
      exact ⟨by rw [HZ.out]; rfl, q, rfl⟩

set_option maxHeartbeats 1000000 in
set_option maxRecDepth 10000 in
/-- The function handed over: what is behind the first numbers, the greater ahead. -/
theorem kcmp_ok (n : Nat) (x y : Nat → Nat) (v u : Value) (w : World) (hn1 : 1 ≤ n) (hn : n ≤ 7) (hv : Sl w v (elL (n + 1) x)) (hu : Sl w u (elL (n + 1) y)) :
    Calls Try.prog 67 #[v, u] w fun e w' => e = .returned (.int .i64 (cfN n (fun i => y (i + 1)) fun i => x (i + 1))) ∧ ∃ q, w' = w.drewN q := by
  obtain ⟨va, vo, vc, rfl, hv1⟩ := hv.elFix (by omega)
  obtain ⟨ua, uo, uc, rfl, hu1⟩ := hu.elFix (by omega)
  have hvc : n + 1 ≤ vc := by
    obtain ⟨a', c', e, hh, _⟩ := hv.out
    rw [elL_len] at e hh
    simp only [Value.slice.injEq] at e
    omega
  have huc : n + 1 ≤ uc := by
    obtain ⟨a', c', e, hh, _⟩ := hu.out
    rw [elL_len] at e hh
    simp only [Value.slice.injEq] at e
    omega
  have HC := hid (fun m c1 c2 => scmpn_ok n (fun i => y (i + 1)) (fun i => x (i + 1)) ua (uo + 1) c1 va (vo + 1) c2 (w.drewN m) hn (fun i hi => by
    have := hu1 (w.drewN m) (below_drewN (Below.refl _ _) m) (i + 1) (by omega)
    rw [Nat.add_assoc, Nat.add_comm 1 i]
    exact this) (fun i hi => by
    have := hv1 (w.drewN m) (below_drewN (Below.refl _ _) m) (i + 1) (by omega)
    rw [Nat.add_assoc, Nat.add_comm 1 i]
    exact this))
  have h1v : ¬ vc = 1 := by omega
  have h1u : ¬ uc = 1 := by omega
  clear hv hu hv1 hu1
  generalize cfN n (fun i => y (i + 1)) (fun i => x (i + 1)) = z at *
  go_enter Try.func67, Try.ntmps67
  go_wp2_with fail
  go_region_with (go_at_call 68; refine (HC.out _ _ _).mono ?_; rintro e w1 ⟨rfl, q, rfl⟩)
  all_goals (go_wp2; go_ret)
  all_goals exact ⟨rfl, _, rfl⟩
end Go.Proofs.Ytnbgnoimanpjnaa
/-
  slices.SortFunc of rows of numbers by count's order, as lists. Conditions: the slices are the call's own, all of one length.
-/
namespace Go.Proofs.Ytnbgnoimanpjnaa
set_option linter.unusedVariables false
open Go.RowKit Go.Shelf Go.Sort Go.Lib

/-- What stands behind the first number. -/
def tlF (x : Nat → Nat) (i : Nat) : Nat := x (i + 1)
section
variable {vs : List Value} {fs : List (Nat → Nat)} {n : Nat}
def kEnc (vs : List Value) (i : Nat) : Value := vs.getD (min i (vs.length - 1)) undef
def kFun (fs : List (Nat → Nat)) (i : Nat) : Nat → Nat := fs.getD (min i (fs.length - 1)) id
theorem k_swo (n : Nat) (fs : List (Nat → Nat)) : SWO (ltOf fun i j => cfN n (tlF (kFun fs j)) (tlF (kFun fs i))) where
  irrefl x := decide_eq_false (by rw [cfn_lt]; exact lex_irrefl n _)
  trans x y z h1 h2 := decide_eq_true ((cfn_lt _ _ _).2 (lex_trans ((cfn_lt _ _ _).1 (of_decide_eq_true h2)) ((cfn_lt _ _ _).1 (of_decide_eq_true h1))))
  ntrans x y z h1 h2 := decide_eq_false (fun h => lex_ntrans (fun h3 => of_decide_eq_false h2 ((cfn_lt _ _ _).2 h3)) (fun h3 => of_decide_eq_false h1 ((cfn_lt _ _ _).2 h3)) ((cfn_lt _ _ _).1 h))
end
theorem heap_sortedE {α : Type} [Inhabited α] (enc : α → Value) {w : World} {g n : Nat} {os : Array Obj} {cur : Array Value} {e : TypeId} {fr : Nat × Nat} (d : Array α) (hb : w.heap[g]? = some (.cells cur e fr)) :
    (sortWorld enc w g 0 n d os).heap[g]? = some (.cells (putCells enc 0 d cur) e fr) := by
  have hg : g < w.heap.size := (Array.getElem?_eq_some_iff.1 hb).1
  unfold sortWorld
  rw [heap_grow_old _ _ (by simpa using hg)]
  simp [putRow, mapBlock, Sort.ahead, Array.getElem?_modify, hb, onCells]
theorem grownBy_sortedE {α : Type} [Inhabited α] (enc : α → Value) {w : World} {g n : Nat} {os : Array Obj} (d : Array α) : w.grownBy (sortWorld enc w g 0 n d os) (some g) := by
  unfold sortWorld
  refine ⟨rfl, rfl, rfl, by simp, fun k hk hne => ?_⟩
  rw [heap_grow_old _ _ (by simpa using hk)]
  have : g ≠ k := fun e => hne (by rw [e])
  simp [putRow, mapBlock, Sort.ahead, Array.getElem?_modify, this]
theorem take_putCellsE {α : Type} [Inhabited α] (enc : α → Value) (cur : Array Value) (d : Array α) (h : d.size ≤ cur.size) : (putCells enc 0 d cur).toList.take d.size = d.toList.map enc := by
  apply List.ext_getElem?
  intro j
  by_cases hj : j < d.size
  · rw [List.getElem?_take_of_lt hj, Array.getElem?_toList]
    simp [putCells, hj, show j < cur.size by omega]
  · rw [List.getElem?_take_eq_none (by omega), List.getElem?_eq_none (by simp; omega)]

set_option maxHeartbeats 1000000 in
theorem ksort_ok (n : Nat) (fs : List (Nat → Nat)) (B U og lc : Nat) (w : World) (hn1 : 1 ≤ n) (hn : n ≤ 7) (h0 : 0 < fs.length) (hlen : fs.length ≤ 1000000) (h : OL B U w (.slice (some ⟨og, 0, none⟩) fs.length lc) (fs.map (elL (n + 1)))) :
    Calls Try.prog 66 #[.slice (some ⟨og, 0, none⟩) fs.length lc, .func (.func 67) #[] #[]] w fun e w' =>
      e = .returned (.tuple #[]) ∧ ∃ fs' : List (Nat → Nat), fs'.Perm fs ∧ fs'.Pairwise (fun a b => ¬ LexF n (tlF a) (tlF b)) ∧ OL B U w' (.slice (some ⟨og, 0, none⟩) fs.length lc) (fs'.map (elL (n + 1))) ∧ w.grownBy w' (some og) := by
  obtain ⟨vs, o1, o2, o3, o4⟩ := h
  rw [List.length_map] at o3 o4
  have hvl : vs.length = fs.length := o3
  rcases o1.2 with ⟨h1, _⟩ | ⟨g, cap, cur, hv, hbase, hb, hnc, hcap, hcs, ht⟩
  · cases h1
  obtain ⟨rfl, _, rfl⟩ : og = g ∧ fs.length = vs.length ∧ lc = cap := by simpa using hv
  have hgt : ∀ i, i < fs.length → (fs.map (elL (n + 1))).getD i [] = elL (n + 1) (fs.getD i id) := fun i hi => by simp [hi]
  have eg : ∀ args w, (callFunc 67 args).run Try.prog w = .ok (.enter 67 args) w := enters_of Try.func67 (by kernel_rfl) rfl
  have hcell : ∀ j, j < fs.length → w.cell? ⟨og, j, none⟩ = vs[j]? := fun j hj => o1.cell j (by omega)
  have henc : ∀ j, j < fs.length → kEnc vs j = vs.getD j undef := fun j hj => by unfold kEnc; rw [show min j (vs.length - 1) = j by omega]
  have hH : Holds (kEnc vs) w og 0 (Array.range fs.length) := by
    intro j hj
    have hj' : j < fs.length := by simpa using hj
    refine ⟨?_, by rw [Nat.zero_add]; exact o1.frozen j⟩
    rw [Nat.zero_add, hcell j hj', getElem!_pos _ j hj, Array.getElem_range, henc j hj', List.getD_eq_getElem?_getD, List.getElem?_eq_getElem (by omega)]
    rfl
  have hoc : ∀ x : Nat, (kEnc vs x).oneCell' = true := fun x => by
    unfold kEnc
    have hlt : min x (vs.length - 1) < fs.length := by omega
    have := (o4 _ hlt).1
    obtain ⟨a, c, e⟩ := this.len
    rw [e]
    rfl
  have key := Any.slices_SortFunc ksort (kEnc vs) hoc (fun i j => cfN n (tlF (kFun fs j)) (tlF (kFun fs i))) (k_swo n fs) 67 #[] og 0 lc (Array.range fs.length) w eg (CmpReads.lays fun m os dk hs x y => by
      have hg := grownBy_sortedE (kEnc vs) (w := w) (g := og) (n := m) (os := os) dk
      have hrd : ∀ x, Sl (sortWorld (kEnc vs) w og 0 m dk os) (kEnc vs x) (elL (n + 1) (kFun fs x)) := fun x => by
        have hlt : min x (vs.length - 1) < fs.length := by omega
        have h5 := (o4 _ hlt).1
        rw [hgt _ hlt] at h5
        have h6 := h5.kept hg (by
          have := ow_apart o1 h5
          simpa [Value.ownBlock] using this)
        unfold kEnc kFun
        rw [show min x (fs.length - 1) = min x (vs.length - 1) by omega]
        exact h6.sl (by rw [elL_len]; omega)
      exact kcmp_ok n (kFun fs x) (kFun fs y) _ _ _ hn1 hn (hrd x) (hrd y)) hH (Array.getElem?_eq_some_iff.1 hb).1 (by simp; omega)
  rw [show (Array.range fs.length).size = fs.length by simp] at key
  have key2 : Calls Try.prog 66 #[.slice (some ⟨og, 0, none⟩) fs.length lc, .func (.func 67) #[] #[]] w _ := key
  refine key2.mono ?_
  rintro e w' ⟨rfl, d', m, os, ⟨hps, _, hpp⟩, hs, rfl⟩
  have hd : d'.size = fs.length := by rw [hps]; simp
  have hperm : d'.toList.Perm (List.range fs.length) := by
    rw [Array.extract_eq_self_of_le (by omega), Array.extract_eq_self_of_le (by simp)] at hpp
    simpa using hpp
  have hlt : ∀ i ∈ d'.toList, i < fs.length := fun i hi => List.mem_range.1 (hperm.mem_iff.1 hi)
  have hg := grownBy_sortedE (kEnc vs) (w := w) (g := og) (n := m) (os := os) d'
  have hrange : (List.range fs.length).map (kFun fs) = fs := by
    refine List.ext_getElem? fun i => ?_
    by_cases hi : i < fs.length
    · rw [List.getElem?_map, List.getElem?_range hi, Option.map_some, List.getElem?_eq_getElem hi]
      unfold kFun
      rw [show min i (fs.length - 1) = i by omega, List.getD_eq_getElem?_getD, List.getElem?_eq_getElem hi]
      rfl
    · rw [List.getElem?_eq_none (by simp; omega), List.getElem?_eq_none (by omega)]
  refine ⟨rfl, d'.toList.map (kFun fs), ?_, ?_, ?_, hg⟩
  · have := hperm.map (kFun fs)
    rwa [hrange] at this
  · rw [List.pairwise_map, List.pairwise_iff_getElem]
    intro i j hi hj hij
    have h3 := hs i j (Nat.zero_le _) hij (by simp at hj; omega)
    have hi' : i < d'.size := by simpa using hi
    have hj' : j < d'.size := by simpa using hj
    rw [getElem!_pos _ i hi', getElem!_pos _ j hj'] at h3
    have h4 := of_decide_eq_false h3
    rw [cfn_lt] at h4
    simpa using h4
  · refine ⟨d'.toList.map (kEnc vs), ?_, o2, by simp [hd], fun i hi => ?_⟩
    · have hfll : (d'.toList.map (kEnc vs)).length = fs.length := by simp [hd]
      unfold Ow
      rw [hfll]
      refine ⟨by rw [hfll]; omega, .inr ⟨og, lc, _, rfl, hbase, heap_sortedE _ d' hb, by omega, hcap, by simp [putCells, hcs], ?_⟩⟩
      rw [Nat.mul_one, ← hd]
      exact take_putCellsE (kEnc vs) cur d' (by rw [hd, hcs]; omega)
    · have hi' : i < d'.size := by simpa using hi
      have hx := hlt (d'.toList[i]'(by simpa using hi')) (List.getElem_mem _)
      have e1 : (d'.toList.map (kEnc vs)).getD i undef = vs.getD (d'.toList[i]'(by simpa using hi')) undef := by
        rw [List.getD_eq_getElem?_getD, List.getElem?_map, List.getElem?_eq_getElem (by simpa using hi')]
        exact henc _ hx
      have e2 : ((d'.toList.map (kFun fs)).map (elL (n + 1))).getD i [] = elL (n + 1) (fs.getD (d'.toList[i]'(by simpa using hi')) id) := by
        rw [List.getD_eq_getElem?_getD, List.getElem?_map, List.getElem?_map, List.getElem?_eq_getElem (by simpa using hi')]
        show elL (n + 1) (kFun fs _) = _
        unfold kFun
        rw [show min (d'.toList[i]'(by simpa using hi')) (fs.length - 1) = d'.toList[i]'(by simpa using hi') by omega]
      rw [e1, e2]
      obtain ⟨h5, h6⟩ := o4 _ hx
      rw [hgt _ hx] at h5
      exact ⟨h5.kept hg (by
        have := ow_apart o1 h5
        simpa [Value.ownBlock] using this), h6⟩
end Go.Proofs.Ytnbgnoimanpjnaa
/-
  The walk over count.Index. Conditions: the slices can be read; numbers of 64 bits.
-/
namespace Go.Proofs.Ytnbgnoimanpjnaa
set_option linter.unusedVariables false
open Go.RowKit Go.Maps

/-- A row of the index: how many there are, then how many cycles of each length. -/
def rwF (n : Nat) (L : List (Nat → Nat)) (y : List Int) (i : Nat) : Nat := if i = 0 then cnN n L y else (y.getD i 0).toNat
theorem elL_cons (n : Nat) (x : Nat → Nat) : elL (n + 1) x = ((x 0 : Nat) : Int) :: elL n (tlF x) := by
  unfold elL
  rw [List.range_succ_eq_map, List.map_cons, List.map_map]
  rfl
theorem idx_bad (n : Int) (v : Value) (ll : List (List Int)) (w : World) (hl : RL w v ll) (hE : grpE n ll ≠ 0) :
    Calls Try.prog 41 #[.int .i64 n, v] w fun e w' => e = .returned (.tuple #[.slice none 0 0, .int .i64 (grpE n ll)]) ∧ Below w.heap.size w w' := by
  have HO := hid (kinds_bad n v ll w hl hE)
  obtain ⟨a, c, N, rfl, hN, hc1, hc2⟩ := hl.open
  have hb : (grpE n ll != 0) = true := bne_iff_ne.2 hE
  clear hE hl hc2
  generalize grpE n ll = E at *
  go_enter Try.func41, Try.ntmps41
  go_wp2_with fail
  refine HO.out.mono ?_
  rintro e w1 ⟨rfl, hb1⟩
  have HB := hid hb1
  clear hb1
  go_wp2
  go_ret2
  exact ⟨rfl, HB.out⟩

set_option maxHeartbeats 4000000 in
set_option maxRecDepth 100000 in
theorem idx_ok (n : Nat) (v : Value) (ll : List (List Int)) (w : World) (hl : RL w v ll) (hE : grpE (n : Int) ll = 0) :
    Calls Try.prog 41 #[.int .i64 n, v] w fun e w' => (∃ (r : Value) (fs : List (Nat → Nat)), e = .returned (.tuple #[r, .int .i64 0]) ∧ OL w.heap.size w'.heap.size w' r (fs.map (elL (n + 1))) ∧ fs.Perm ((skS n (GL n (msL n ll)) (GL n (msL n ll)).length).map (rwF n (GL n (msL n ll)))) ∧ fs.Pairwise (fun a b => ¬ LexF n (tlF a) (tlF b))) ∧ Below w.heap.size w w' := by
  have HO := hid (kinds_ok n v ll w hl hE)
  obtain ⟨n', hn', hG⟩ := gok_of hE
  obtain rfl : n = n' := by omega
  have hn7 := hG.n7
  have hn1 := hG.n1
  have hlen := GL_len9 hG
  have hfb := fac7 n hn7
  obtain ⟨a, c, N, rfl, hN, hc1, hc2⟩ := hl.open
  clear hE hl hc2 hG hn'
  generalize GL n (msL n ll) = L at *
  have HSK := hid (fun y (h : y ∈ skS n L L.length) => skS_of h)
  have HCK := hid (fun y => ckN_all (n := n) (L := L) y)
  have HSL : Hid (0 < (skS n L L.length).length ∧ (skS n L L.length).length ≤ L.length) := hid ⟨by
    obtain ⟨x, hx⟩ : ∃ x, x ∈ L := List.exists_mem_of_length_pos (by omega)
    exact List.length_pos_of_mem (of_skS hx), by
    have : ∀ k, (skS n L k).length ≤ k := by
      intro k
      induction k with
      | zero => exact Nat.le_refl _
      | succ k ih =>
        rw [skS, ins]
        split
        · omega
        · rw [List.length_cons]; omega
    exact this _⟩
  have HKS := hid (fun (fs : List (Nat → Nat)) (B U og lc : Nat) (w : World) h0 hlen h => ksort_ok n fs B U og lc w hn1 hn7 h0 hlen h)
  have HEC := hid (elL_cons n)
  have HEL := hid elL_len
  generalize skS n L L.length = SK at *
  generalize ckN n L L.length = CK at *
  have HRW : Hid (∀ y, ((rwF n L y 0 : Nat) : Int) = ((cnN n L y : Nat) : Int)) := hid (fun y => rfl)
  have HRT : Hid (∀ f, elL n (tlF (rwF n L (kdI f))) = (List.range n).map fun i => ((f (i + 1) : Nat) : Int)) := hid (fun f => by
    unfold elL
    refine List.map_congr_left fun i hi => ?_
    have hi := List.mem_range.1 hi
    unfold tlF rwF
    rw [if_neg (by omega)]
    simp [kdI, show i + 1 < 8 by omega])
  generalize rwF n L = RW at *
  have HCB : Hid (∀ y, cnN n L y ≤ L.length) := hid (fun y => List.length_filter_le _ _)
  generalize cnN n L = CN at *
  generalize L.length = M at *
  go_enter Try.func41, Try.ntmps41
  go_wp2_with fail
  refine HO.out.mono ?_
  rintro e w1 ⟨⟨b, rfl, hbs, hkc⟩, hb1⟩
  have H1 := hid (And.intro hkc hb1)
  have hbl := hkc.lt
  clear hkc hb1
  go_wp2_with (first
    | (at_range; refine wpList_krange rfl _ rfl rfl H1.out.1 ?_; intro w2 cnt2 hrg2 hg2 hz2)
    | fail)
  go_frame
  have hR : Below w.heap.size w w2 := H1.out.2.grown hg2 H1.out.2.size (fun b e => by cases e)
  have H2 := hid (And.intro hrg2 hR)
  have hw1 : w1.heap.size < w2.heap.size := by omega
  have hwr := H1.out.2.size
  clear hrg2 hR hg2 hz2
  go_loopw [9, 10, 11] (fun v9 _ _ wr => ∃ (T D : List (List Int)) (cnt : Nat), KR wr b w1.heap.size (3 * M) T CK cnt ∧ Hid ((D ++ T).Perm SK) ∧ OL (w1.heap.size + 1) wr.heap.size wr v9 ((D.map RW).map (elL (n + 1))) ∧ Below w.heap.size w wr) (fun _ _ _ wr => wr.rangeLeft b w1.heap.size)
  case atStart => exact ⟨SK, [], _, H2.out.1, hid (List.Perm.refl _), OL.nil _ _ _, H2.out.2⟩
  case round =>
    clear H2 H1
    obtain ⟨T, D, cnt, hrg, HT, hol, hb⟩ := hrel
    have HI := hid (And.intro hrg (And.intro hol hb))
    clear hrg hol hb
    go_wp2_with (first
      | (at_next; refine wpList_knext rfl _ rfl rfl HI.out.1 ?_ ?_)
      | fail)
    · intro hT
      have hp := HT.out
      rw [hT, List.append_nil] at hp
      have hlp := hp.length_eq
      have hsl := HSL.out
      have hml : (D.map RW).length = D.length := by simp
      obtain ⟨g9, c9, e9, _, hg9⟩ := HI.out.2.1.form (by rw [List.length_map, hml]; omega)
      rw [List.length_map] at e9
      subst e9
      have hks := HKS.out (D.map RW) (w1.heap.size + 1) wr.heap.size g9 c9 wr (by rw [hml]; omega) (by rw [hml]; omega) HI.out.2.1
      have HKK := hid hks
      have HPP := hid (hp.map RW)
      have hgl := (show w1.heap.size + 1 ≤ g9 from by
        obtain ⟨g', c', e', h1, _⟩ := HI.out.2.1.form (by rw [List.length_map, hml]; omega)
        simp only [Value.slice.injEq, Option.some.injEq, Addr.mk.injEq, and_true] at e'
        omega)
      have HB := hid HI.out.2.2
      clear HI HT hks hp hlp hml hsl
      generalize D.map RW = DR at *
      obtain ⟨Z, hZ⟩ : ∃ Z, DR.length = Z := ⟨_, rfl⟩
      rw [hZ] at HKK ⊢
      clear hZ
      go_wp2_with fail
      refine HKK.out.mono ?_
      rintro e w5 ⟨rfl, fs, hp5, hs5, ho5, hg5⟩
      have H5 := hid (And.intro (ho5.mono (B' := w.heap.size) (U' := w5.heap.size) (by omega) hg5.size) (And.intro (hp5.trans HPP.out) (And.intro hs5 (HB.out.grown hg5 HB.out.size (fun b e => by cases e; omega)))))
      clear hp5 hs5 ho5 hg5
      go_wp2
      go_ret2
      exact ⟨⟨_, fs, rfl, H5.out.1, H5.out.2.1, H5.out.2.2.1⟩, H5.out.2.2.2⟩
    · intro y w3 cnt3 hy hrg3 hlt3 hg3 hz3 hen
      have hyS : y ∈ SK := HT.out.mem_iff.1 (List.mem_append_right _ hy)
      obtain ⟨f, hf⟩ : ∃ f : Nat → Nat, y = kdI f := by
        obtain ⟨x, _, e⟩ := HSK.out y hyS
        exact ⟨_, e⟩
      have hkf : kF y = .agg (kdC f).toArray := by rw [hf]; rfl
      rw [HCK.out, hkf] at hen
      have hw3 : w1.heap.size < w3.heap.size := hrg3.lt.2
      have hb3 := HI.out.2.2.grown hg3 HI.out.2.2.size (fun b e => by cases e; exact hwr)
      have ho3 : OL (w1.heap.size + 1) w3.heap.size w3 u9 ((D.map RW).map (elL (n + 1))) := (HI.out.2.1.kept hg3 (fun k e => by cases e; exact .inl (Nat.lt_succ_self _))).mono (Nat.le_refl _) (by omega)
      have HP3 : Hid (((D ++ [y]) ++ T.erase y).Perm SK) := hid (by
        refine List.Perm.trans ?_ HT.out
        rw [List.append_assoc]
        exact (List.perm_cons_erase hy).symm.append_left D)
      have hmeas : w3.rangeLeft b w1.heap.size < wr.rangeLeft b w1.heap.size := by rw [hrg3.left_eq, HI.out.1.left_eq]; exact hlt3
      have hDl : D.length ≤ M := by
        have h1 := HT.out.length_eq
        rw [List.length_append] at h1
        have := HSL.out.2
        omega
      have HAZ := hid (Arr.new w3 85 (kdC fun _ => 0))
      have HI3 := hid (And.intro hrg3 (And.intro ho3 hb3))
      have ix : (Try.prog.info? 85).map (·.size) = some (kdC f).length := by rw [kdC_len]; kernel_rfl
      have h1c := kdC_one f
      have hll : (kdC fun _ => 0).length = (kdC f).length := by rw [kdC_len, kdC_len]
      have HGX : Hid (∀ q, q < 8 → (kdC f)[q]? = some (.int .i64 ((f q : Nat) : Int))) := hid (fun q hq => kdC_get hq)
      have HROW : Hid (((CN y : Nat) : Int) :: ((List.range n).map fun i => ((f (i + 1) : Nat) : Int)) = elL (n + 1) (RW y)) := hid (by
        rw [HEC.out, HRW.out, hf, HRT.out])
      have HDR : Hid (((D ++ [y]).map RW).map (elL (n + 1)) = (D.map RW).map (elL (n + 1)) ++ [elL (n + 1) (RW y)]) := hid (by simp)
      have hcy := HCB.out y
      clear HI hrg3 hb3 ho3 hg3 hz3 hkf HT hy hlt3 hf hyS
      generalize kdC f = cs at *
      generalize CN y = cn at *
      have hal : Try.prog.arrayLen 85 = 8 := by kernel_rfl
      have hsl : ∀ W, (Instr.sliceAt 85 (.pointer (some ⟨w3.heap.size, 0, none⟩)) (some (.int .i64 1)) (some (.int .i64 ((n : Int) + 1))) none).run Try.prog W = .ok (.slice (some ⟨w3.heap.size, 1, none⟩) n 7) W := fun W => by
        have he : Try.prog.elem 85 = 3 := by kernel_rfl
        have hu : Try.prog.underlying 85 = some (.array (Try.prog.arrayLen 85) (Try.prog.elem 85)) := by rw [hal, he]; exact Try.underlying85
        have h1 := run_sliceAt_array_lh (P := Try.prog) (w := W) 85 ⟨w3.heap.size, 0, none⟩ hu .i64 .i64 1 ((n : Int) + 1) (by omega) (by omega) (by rw [hal]; omega)
        rw [he, Try.sizeOf3, hal] at h1
        rw [h1]
        simp [slicedAt, Addr.add]
      go_wp2_with (first
        | (refine wpList_store_arr rfl 85 _ _ rfl w3.heap.size cs rfl rfl HAZ.out hll ix h1c ?_
           intro w5 hA5 hg5
           have hB5 : Below w3.heap.size w3 w5 := ((Below.refl _ _).alloc (Nat.le_refl _) _).grown hg5 (by simp) (fun b e => by cases e; exact Nat.le_refl _)
           have H5 := hid (And.intro hA5 hB5)
           have hRD : Rd (w5.alloc (.cells #[.int .i64 ((cn : Nat) : Int)] 3)) (.slice (some ⟨w3.heap.size, 1, none⟩) n 7) (((List.range n).map fun i => ((f (i + 1) : Nat) : Int)).map (Value.int .i64)) := by
             refine ⟨_, 7, by simp, by simp; omega, fun _ => ⟨w3.heap.size, 1, rfl, by have := hA5.lt; simp; omega, fun i hi => ?_⟩⟩
             have hi : i < n := by simpa using hi
             have h1 := (hA5.alloc (.cells #[.int .i64 ((cn : Nat) : Int)] 3)).cell (1 + i)
             rw [HGX.out (1 + i) (by omega)] at h1
             rw [h1]
             simp [hi, Nat.add_comm]
           have HRD := hid hRD
           clear hA5 hg5 hB5 hRD)
        | (at_builtin; refine wpList_apps (.tmp 31) (.tmp 34) 23 3 (.int .i64 0) 8 rfl rfl Try.underlying23 Try.info3 rfl (by decide) (w1.heap.size + 1) _ _ _ _ rfl (OI.lit1 (w1.heap.size + 1) w5 ((cn : Nat) : Int) (by have := H5.out.2.size; omega)) rfl HRD.out (ints_one _) (by simp; omega) (by have := H5.out.2.size; simp; omega) ?_
           intro v6 w6 ho6 hg6 hl6
           have hg6' : Below w5.heap.size w5 w6 := ((Below.refl _ _).alloc (Nat.le_refl _) _).grown hg6 (by simp) (fun b e => by cases e; exact Nat.le_refl _)
           have ho6' : OI (w1.heap.size + 1) w6 v6 (elL (n + 1) (RW y)) := by
             rw [← HROW.out]
             exact OI.ofApp (l := [((cn : Nat) : Int)]) ho6
           obtain ⟨va, vc, ev⟩ := ho6'.len
           rw [HEL.out] at ev
           subst ev
           have hb36 := H5.out.2.trans (hg6'.mono H5.out.2.size)
           have H6 := hid (And.intro ho6' (And.intro (HI3.out.1.below hb36) (And.intro (HI3.out.2.1.below hb36) (HI3.out.2.2.trans (hb36.mono HI3.out.2.2.size)))))
           have hsz6 := hb36.size
           obtain ⟨vs, o1, o2, o3, o4⟩ := H6.out.2.2.1
           have hvs : vs.length ≤ 1000000000000 := by
             rw [o3, List.length_map, List.length_map]
             omega
           have HO2 := hid o2
           have HO3 := hid o3
           have HO4 := hid o4
           have hws : w1.heap.size + 1 ≤ w6.heap.size := by omega
           clear ho6 hg6 hl6 hg6' ho6' hb36 o2 o3 o4)
        | (at_builtin; refine wpList_app w6 (.tmp 29) (.tmp 36) 22 23 (.slice none 0 0) 24 rfl rfl Try.underlying22 Try.info23 rfl (by decide) (w1.heap.size + 1) _ vs rfl o1 rfl rfl hvs hws ?_
           intro g9 c9 w9 hown1 hg1 hg2 hg3
           have hg1' : w6.grownBy w9 u9.ownBlock := hg1
           have hol2 := OL.snoc o1 HO2.out HO3.out HO4.out H6.out.1 (Nat.le_refl _) hown1 hg1'
           rw [← HDR.out] at hol2
           have hr9 := H6.out.2.1.kept hg1' (fun e => by have := (o1.lt b e.symm).1; omega) (fun e => by have := (o1.lt _ e.symm).1; omega)
           have hb9 := H6.out.2.2.2.grown hg1' H6.out.2.2.2.size (fun k e => by have := (o1.lt k e).1; omega)
           have hm9 : w9.rangeLeft b w1.heap.size < wr.rangeLeft b w1.heap.size := by rw [hr9.left_eq, ← HI3.out.1.left_eq]; exact hmeas
           have HX := hid (And.intro hr9 (And.intro hol2 hb9))
           clear hown1 hg1 hg2 hg3 hg1' hol2 hr9 hb9)
        | fail)
      go_roundw
      case rel => exact ⟨T.erase y, D ++ [y], cnt3, HX.out.1, HP3, HX.out.2.1, HX.out.2.2⟩
      case measure => exact hm9
end Go.Proofs.Ytnbgnoimanpjnaa
/-
  The index as the reference builds it: kinds in falling order, each with how many there are. No program in sight.
-/
namespace Go.Proofs.Ytnbgnoimanpjnaa
set_option linter.unusedVariables false

def tlY (y : List Int) (j : Nat) : Nat := (y.getD (j + 1) 0).toNat
def rwI (n : Nat) (L : List (Nat → Nat)) (i : Nat) (y : List Int) (j : Nat) : Nat := if j = 0 then (ckN n L i y).toNat else (y.getD j 0).toNat
theorem tl_rwI (n : Nat) (L : List (Nat → Nat)) (i : Nat) (y : List Int) : tlF (rwI n L i y) = tlY y := by
  funext j
  unfold tlF rwI
  rw [if_neg (by omega)]
  rfl
theorem tlY_kd (n : Nat) (x : Nat → Nat) {j : Nat} (h : j < 7) : tlY (kdL n x) j = kdF x n n (j + 1) := by
  unfold tlY kdL
  simp [kdI, show j + 1 < 8 by omega]
theorem kd_zero {n : Nat} {x : Nat → Nat} (P : Pm n x) : kdF x n n 0 = 0 ∧ ∀ c, n < c → kdF x n n c = 0 := by
  unfold kdF
  constructor
  · rw [sumN_congr n (h := fun _ => 0) (fun j hj => if_neg fun h => by have := (P.per_spec hj).2.1; omega), sumN_zero]
  · intro c hc
    rw [sumN_congr n (h := fun _ => 0) (fun j hj => if_neg fun h => by have := (P.per_spec hj).2.2.1; omega), sumN_zero]
/-- Kinds that are alike behind the first are one. -/
theorem kd_tail {n : Nat} (hn : n ≤ 7) {x z : Nat → Nat} (P : Pm n x) (Q : Pm n z) (h : ∀ j, j < n → tlY (kdL n x) j = tlY (kdL n z) j) : kdL n x = kdL n z := by
  refine kdI_inj.2 fun c hc => ?_
  cases c with
  | zero => rw [(kd_zero P).1, (kd_zero Q).1]
  | succ c =>
    by_cases e : c < n
    · have := h c e
      rwa [tlY_kd n x (by omega), tlY_kd n z (by omega)] at this
    · rw [(kd_zero P).2 _ (by omega), (kd_zero Q).2 _ (by omega)]
/-- The kinds of the first i, falling. -/
structure IX (n : Nat) (L : List (Nat → Nat)) (i : Nat) (T : List (List Int)) : Prop where
  fall : T.Pairwise fun a b => LexF n (tlY b) (tlY a)
  mem : ∀ y, y ∈ T ↔ ∃ j, j < i ∧ y = kdL n (L.getD j id)
section
variable {n i : Nat} {L : List (Nat → Nat)} {T : List (List Int)}
theorem IX.zero : IX n L 0 [] := ⟨List.Pairwise.nil, fun y => by simp⟩
theorem IX.same (h : IX n L i T) (hy : kdL n (L.getD i id) ∈ T) : IX n L (i + 1) T := by
  refine ⟨h.fall, fun y => ⟨fun hy2 => ?_, ?_⟩⟩
  · obtain ⟨j, hj, e⟩ := (h.mem y).1 hy2
    exact ⟨j, by omega, e⟩
  · rintro ⟨j, hj, e⟩
    by_cases e2 : j = i
    · rw [e, e2]; exact hy
    · exact (h.mem y).2 ⟨j, by omega, e⟩
theorem pw_get {l : List (List Int)} {R : List Int → List Int → Prop} (h : l.Pairwise R) {a b : Nat} (hab : a < b) (hb : b < l.length) : R (l.getD a []) (l.getD b []) := by
  rw [List.pairwise_iff_getElem] at h
  have := h a b (by omega) hb hab
  rwa [List.getD_eq_getElem?_getD, List.getElem?_eq_getElem (by omega), List.getD_eq_getElem?_getD, List.getElem?_eq_getElem hb]
theorem IX.ins (h : IX n L i T) {at' : Nat} (hat : at' ≤ T.length) (hlt : ∀ j, j < at' → LexF n (tlY (kdL n (L.getD i id))) (tlY (T.getD j []))) (hgt : ∀ j, at' ≤ j → j < T.length → LexF n (tlY (T.getD j [])) (tlY (kdL n (L.getD i id)))) : IX n L (i + 1) (T.take at' ++ (kdL n (L.getD i id) :: T.drop at')) := by
  have hg : ∀ a ∈ T.take at', ∃ j, j < at' ∧ a = T.getD j [] := fun a ha => by
    obtain ⟨j, hj, e⟩ := List.mem_iff_getElem.1 ha
    rw [List.length_take] at hj
    rw [List.getElem_take] at e
    exact ⟨j, by omega, by rw [← e, List.getD_eq_getElem?_getD, List.getElem?_eq_getElem (by omega)]; rfl⟩
  have hd : ∀ a ∈ T.drop at', ∃ j, at' ≤ j ∧ j < T.length ∧ a = T.getD j [] := fun a ha => by
    obtain ⟨j, hj, e⟩ := List.mem_iff_getElem.1 ha
    rw [List.length_drop] at hj
    rw [List.getElem_drop] at e
    exact ⟨at' + j, by omega, by omega, by rw [← e, List.getD_eq_getElem?_getD, List.getElem?_eq_getElem (by omega)]; rfl⟩
  refine ⟨?_, fun y => ?_⟩
  · rw [List.pairwise_append, List.pairwise_cons]
    refine ⟨h.fall.sublist (List.take_sublist _ _), ⟨fun b hb => ?_, h.fall.sublist (List.drop_sublist _ _)⟩, fun a ha b hb => ?_⟩
    · obtain ⟨j, h1, h2, rfl⟩ := hd b hb
      exact hgt j h1 h2
    · obtain ⟨j, h1, rfl⟩ := hg a ha
      rcases List.mem_cons.1 hb with rfl | hb
      · exact hlt j h1
      · obtain ⟨j2, h2, h3, rfl⟩ := hd b hb
        exact pw_get h.fall (by omega) h3
  · have e : (T.take at' ++ (kdL n (L.getD i id) :: T.drop at')).Perm (kdL n (L.getD i id) :: T) := by
      have := (List.perm_middle (a := kdL n (L.getD i id)) (l₁ := T.take at') (l₂ := T.drop at'))
      rwa [List.take_append_drop] at this
    rw [e.mem_iff, List.mem_cons, h.mem]
    constructor
    · rintro (h1 | ⟨j, hj, h1⟩)
      · exact ⟨i, by omega, h1⟩
      · exact ⟨j, by omega, h1⟩
    · rintro ⟨j, hj, h1⟩
      by_cases e2 : j = i
      · exact .inl (by rw [h1, e2])
      · exact .inr ⟨j, by omega, h1⟩
/-- Where the new one belongs. -/
theorem IX.place (hn : n ≤ 7) (hL : ∀ x ∈ L, Mv n x) (h : IX n L i T) (hi : i < L.length) (hle : i ≤ L.length) {at' : Nat} (hat : at' < T.length) (hno : ¬ LexF n (tlY (kdL n (L.getD i id))) (tlY (T.getD at' []))) (hne : ¬ ∀ j, j < n → tlY (T.getD at' []) j = tlY (kdL n (L.getD i id)) j) : ∀ j, at' ≤ j → j < T.length → LexF n (tlY (T.getD j [])) (tlY (kdL n (L.getD i id))) := by
  have h0 : LexF n (tlY (T.getD at' [])) (tlY (kdL n (L.getD i id))) := by
    rcases lex_tot (N := n) (tlY (T.getD at' [])) (tlY (kdL n (L.getD i id))) with e | e | e
    · exact absurd e hne
    · exact e
    · exact absurd e hno
  intro j h1 h2
  by_cases e : j = at'
  · rw [e]; exact h0
  · exact lex_trans (pw_get h.fall (by omega) h2) h0
theorem IX.inT (hn : n ≤ 7) (hL : ∀ x ∈ L, Mv n x) (h : IX n L i T) (hi : i < L.length) {at' : Nat} (hat : at' < T.length) (he : ∀ j, j < n → tlY (T.getD at' []) j = tlY (kdL n (L.getD i id)) j) : T.getD at' [] = kdL n (L.getD i id) := by
  have hm : T.getD at' [] ∈ T := by
    rw [List.getD_eq_getElem?_getD, List.getElem?_eq_getElem hat]
    exact List.getElem_mem hat
  obtain ⟨j, hj, e⟩ := (h.mem _).1 hm
  rw [e] at he ⊢
  exact kd_tail hn (hL _ (getD_mem (by omega) id)).pm (hL _ (getD_mem hi id)).pm he
theorem ck_succ (hi : i < L.length) (y : List Int) : ckN n L (i + 1) y = ckN n L i y + if y = kdL n (L.getD i id) then 1 else 0 := by
  rw [← ckN_up hi]
  unfold upC
  by_cases e : y = kdL n (L.getD i id)
  · rw [if_pos e, if_pos e, e]
  · rw [if_neg e, if_neg e, Int.add_zero]
theorem IX.nodup (h : IX n L i T) : T.Nodup := by
  unfold List.Nodup
  refine h.fall.imp fun {a b} hl e => ?_
  rw [e] at hl
  exact lex_irrefl n _ hl
/-- A new one is the first of its kind. -/
theorem IX.first (h : IX n L i T) (hi : i ≤ L.length) (hno : kdL n (L.getD i id) ∉ T) : ckN n L i (kdL n (L.getD i id)) = 0 := by
  unfold ckN
  rw [List.filter_eq_nil_iff.2 fun x hx e => hno ((h.mem _).2 ?_)]
  · rfl
  · obtain ⟨j, hj, e2⟩ := List.mem_iff_getElem.1 hx
    rw [List.length_take] at hj
    rw [List.getElem_take] at e2
    refine ⟨j, by omega, ?_⟩
    have hjl : j < L.length := by omega
    rw [show L.getD j id = x by rw [List.getD_eq_getElem?_getD, List.getElem?_eq_getElem hjl, Option.getD_some, e2]]
    exact (by simpa using e : kdL n x = _).symm
end
theorem sorted_uniq {α : Type} {R : α → α → Prop} (hi : ∀ a, ¬ R a a) (ht : ∀ a b c, R a b → R b c → R a c) : ∀ (l m : List α), l.Pairwise R → m.Pairwise R → (∀ x, x ∈ l ↔ x ∈ m) → l = m
  | [], [], _, _, _ => rfl
  | [], b :: m, _, _, h => by have := (h b).2 (by simp); simp at this
  | a :: l, [], _, _, h => by have := (h a).1 (by simp); simp at this
  | a :: l, b :: m, h1, h2, h => by
    obtain ⟨a1, a2⟩ := List.pairwise_cons.1 h1
    obtain ⟨b1, b2⟩ := List.pairwise_cons.1 h2
    have hab : a = b := by
      apply Classical.byContradiction
      intro hne
      have h3 := (List.mem_cons.1 ((h a).1 (by simp))).resolve_left hne
      have h4 := (List.mem_cons.1 ((h b).2 (by simp))).resolve_left (fun e => hne e.symm)
      exact hi _ (ht _ _ _ (a1 b h4) (b1 a h3))
    subst hab
    refine congrArg (a :: ·) (sorted_uniq hi ht l m a2 b2 fun x => ⟨fun hx => ?_, fun hx => ?_⟩)
    · rcases List.mem_cons.1 ((h x).1 (by simp [hx])) with e | e
      · rw [e] at hx
        exact absurd (a1 _ hx) (hi _)
      · exact e
    · rcases List.mem_cons.1 ((h x).2 (by simp [hx])) with e | e
      · rw [e] at hx
        exact absurd (b1 _ hx) (hi _)
      · exact e
/-- Both lists of rows are one. -/
theorem idx_same {n : Nat} (hn : n ≤ 7) {L : List (Nat → Nat)} (hL : ∀ x ∈ L, Mv n x) {T : List (List Int)} (h : IX n L L.length T) {fs : List (Nat → Nat)} (hp : fs.Perm ((skS n L L.length).map (rwF n L))) (hs : fs.Pairwise fun a b => ¬ LexF n (tlF a) (tlF b)) : fs.map (elL (n + 1)) = (T.map (rwI n L L.length)).map (elL (n + 1)) := by
  have hrw : ∀ y, rwI n L L.length y = rwF n L y := fun y => by
    funext j
    unfold rwI rwF
    rw [ckN_all]
    rfl
  have htl : ∀ y, tlF (rwF n L y) = tlY y := fun y => by rw [← hrw, tl_rwI]
  have hT : T.map (rwI n L L.length) = T.map (rwF n L) := List.map_congr_left fun y _ => hrw y
  have hmem : ∀ f, f ∈ fs ↔ f ∈ T.map (rwF n L) := fun f => by
    rw [hp.mem_iff, List.mem_map, List.mem_map]
    constructor
    · rintro ⟨y, hy, e⟩
      obtain ⟨j, hj, e2⟩ := (mem_skS y _).1 hy
      exact ⟨y, (h.mem y).2 ⟨j, hj, e2⟩, e⟩
    · rintro ⟨y, hy, e⟩
      obtain ⟨j, hj, e2⟩ := (h.mem y).1 hy
      exact ⟨y, (mem_skS y _).2 ⟨j, hj, e2⟩, e⟩
  have hkd : ∀ y ∈ T, ∃ x, Pm n x ∧ y = kdL n x := fun y hy => by
    obtain ⟨j, hj, e⟩ := (h.mem y).1 hy
    exact ⟨_, (hL _ (getD_mem hj id)).pm, e⟩
  have hinj : ∀ a ∈ T, ∀ b ∈ T, (∀ j, j < n → tlY a j = tlY b j) → a = b := fun a ha b hb e => by
    obtain ⟨x, P, rfl⟩ := hkd a ha
    obtain ⟨z, Q, rfl⟩ := hkd b hb
    exact kd_tail hn P Q e
  have hnd : fs.Nodup := by
    rw [hp.nodup_iff]
    unfold List.Nodup
    rw [List.pairwise_map]
    refine List.Pairwise.imp_of_mem (R := fun a b => a ≠ b) (fun {a b} ha hb hne e => hne ?_) (skS_nodup n L _)
    have h1 : a ∈ T := by
      obtain ⟨j, hj, e2⟩ := (mem_skS a _).1 ha
      exact (h.mem a).2 ⟨j, hj, e2⟩
    have h2 : b ∈ T := by
      obtain ⟨j, hj, e2⟩ := (mem_skS b _).1 hb
      exact (h.mem b).2 ⟨j, hj, e2⟩
    exact hinj a h1 b h2 fun j _ => by rw [← htl, ← htl, e]
  have hfs : fs.Pairwise fun a b => LexF n (tlF b) (tlF a) := by
    refine List.Pairwise.imp_of_mem ?_ (List.pairwise_and_iff.2 ⟨hs, hnd⟩)
    rintro a b ha hb ⟨h1, h2⟩
    rcases lex_tot (N := n) (tlF a) (tlF b) with e | e | e
    · obtain ⟨y, hy, rfl⟩ := List.mem_map.1 ((hmem a).1 ha)
      obtain ⟨z, hz, rfl⟩ := List.mem_map.1 ((hmem b).1 hb)
      rw [htl, htl] at e
      exact absurd (by rw [hinj y hy z hz e]) h2
    · exact absurd e h1
    · exact e
  have hts : (T.map (rwF n L)).Pairwise fun a b => LexF n (tlF b) (tlF a) := by
    rw [List.pairwise_map]
    exact h.fall.imp fun {a b} hl => by rw [htl, htl]; exact hl
  rw [hT, sorted_uniq (R := fun a b => LexF n (tlF b) (tlF a)) (fun a => lex_irrefl n _) (fun a b c h1 h2 => lex_trans h2 h1) fs _ hfs hts hmem]
end Go.Proofs.Ytnbgnoimanpjnaa
/-
  The walk over parterreref1.greater; rows of the reference's index as slices of the call's own. Conditions as each states.
-/
namespace Go.Proofs.Ytnbgnoimanpjnaa
set_option linter.unusedVariables false
open Go.RowKit

set_option maxHeartbeats 1000000 in
set_option maxRecDepth 100000 in
theorem greater_ok (n : Nat) (x y : Nat → Nat) (v u : Value) (w : World) (hn : n ≤ 7) (hv : Sl w v (elL (n + 1) x)) (hu : Sl w u (elL (n + 1) y)) :
    Calls Try.prog 70 #[v, u] w fun e w' => e = .returned (.bool (decide (cfN n (tlF y) (tlF x) < 0))) ∧ Below w.heap.size w w' := by
  obtain ⟨va, vo, vc, rfl, hv1⟩ := hv.elFix (by omega)
  obtain ⟨ua, uo, uc, rfl, hu1⟩ := hu.elFix (by omega)
  have HX := hid hv1
  have HY := hid hu1
  have HN := hid (cfn_none (n := n) (x := tlF y) (y := tlF x))
  have HS := hid (fun k (hk : k < n) h hne => cfn_some (x := tlF y) (y := tlF x) (k := k) hk h hne)
  have HB := hid (Below.refl w.heap.size w)
  have HT : Hid (∀ (x : Nat → Nat) i, tlF x i = x (i + 1)) := hid (fun x i => rfl)
  clear hv hu hv1 hu1
  generalize cfN n (tlF y) (tlF x) = z at *
  go_enter Try.func70, Try.ntmps70
  go_wp2_with fail
  go_loopw [5] (fun v5 wr => ∃ k : Nat, v5 = .int .i64 k ∧ 1 ≤ k ∧ k ≤ n + 1 ∧ Hid (∀ j, 1 ≤ j → j < k → y j = x j) ∧ Below w.heap.size w wr) (fun v5 _ => n + 1 - (intOf v5).toNat)
  case atStart => exact ⟨1, rfl, Nat.le_refl _, by omega, hid (fun j h1 h2 => by omega), HB.out⟩
  case round =>
    obtain ⟨k, rfl, hk1, hk, HE, hb⟩ := hrel
    by_cases hlt : k < n + 1
    · have hki : (k : Int) < (n : Int) + 1 := by omega
      have c1 := HX.out wr hb k hlt
      have c2 := HY.out wr hb k hlt
      have hB := hid hb
      by_cases he : y k = x k
      · have HE2 : Hid (∀ j, 1 ≤ j → j < k + 1 → y j = x j) := hid (fun j h1 hj => by
          by_cases e : j = k
          · rw [e, he]
          · exact HE.out j h1 (by omega))
        rw [he] at c2
        clear he hb
        generalize x k = xk at *
        go_wp2_with fail
        go_quiet (fail)
        go_wp2
        go_roundw
        case rel => exact ⟨k + 1, by go_num, by omega, by omega, HE2, below_drewN hB.out _⟩
        case measure => simp [intOf] <;> omega
      · have hz := HS.out (k - 1) (by omega) (fun i hi => HE.out (i + 1) (by omega) (by omega)) (by rw [HT.out, HT.out, show k - 1 + 1 = k by omega]; exact he)
        rw [HT.out, HT.out, show k - 1 + 1 = k by omega] at hz
        have HZ : Hid (decide (z < 0) = decide (y k < x k)) := hid (by
          rw [hz]
          by_cases h : y k < x k
          · simp [h]
          · simp [h])
        have hbe : (((x k : Nat) : Int) != ((y k : Nat) : Int)) = true := bne_iff_ne.2 (by omega)
        clear he hb hz
        generalize x k = xk at *
        generalize y k = yk at *
        go_wp2_with fail
        go_quiet (fail)
        go_wp2_with fail
        go_quiet (fail)
        go_wp2
        go_ret
        refine ⟨?_, ?_⟩
        · rw [HZ.out]
          simp
        · first
            | exact below_drewN (below_drewN hB.out _) _
            | exact below_drewN hB.out _
    · obtain rfl : k = n + 1 := by omega
      have hki : ¬ (((n + 1 : Nat) : Nat) : Int) < (n : Int) + 1 := by omega
      have hki2 : ¬ (n : Int) + 1 < (n : Int) + 1 := by omega
      have hz := HN.out (fun i hi => by rw [HT.out, HT.out]; exact HE.out (i + 1) (by omega) (by omega))
      have HZ := hid hz
      have HBB := hid hb
      clear hz hb
      go_wp2
      go_ret
      exact ⟨by rw [HZ.out]; rfl, HBB.out⟩
end Go.Proofs.Ytnbgnoimanpjnaa
/-
  The walk over parterreref1.IndexOf. Conditions: the lists can be read, permutations of n points, n <= 7.
-/
namespace Go.Proofs.Ytnbgnoimanpjnaa
set_option linter.unusedVariables false
open Go.RowKit

/-- Rows of the call's own, each in a block of its own. -/
structure RP (n B : Nat) (w : World) (v : Value) (ps : List (Value × (Nat → Nat))) : Prop where
  out : Ow 23 B w v (ps.map (·.1))
  row : ∀ p ∈ ps, OI B w p.1 (elL (n + 1) p.2)
  sep : ps.Pairwise fun p q => p.1.ownBlock ≠ q.1.ownBlock
section
variable {n B : Nat} {w w' : World} {v : Value} {ps : List (Value × (Nat → Nat))}
theorem RP.nil (n B : Nat) (w : World) : RP n B w (.slice none 0 0) [] := ⟨Ow.nil _ _ _, fun p h => by simp at h, List.Pairwise.nil⟩
theorem RP.below (h : RP n B w v ps) (hb : Below w.heap.size w w') : RP n B w' v ps := ⟨h.out.below hb, fun p hp => (h.row p hp).below hb, h.sep⟩
theorem RP.kept {row : Option Nat} (h : RP n B w v ps) (hg : w.grownBy w' row) (hv : ∀ k, v.ownBlock = some k → row ≠ some k) (hr : ∀ p ∈ ps, ∀ k, p.1.ownBlock = some k → row ≠ some k) : RP n B w' v ps := by
  have hne : ∀ u : Value, (∀ k, u.ownBlock = some k → row ≠ some k) → u.ownBlock = none ∨ u.ownBlock ≠ row := fun u hu => by
    cases e : u.ownBlock with
    | none => exact .inl rfl
    | some k => exact .inr fun e2 => hu k e e2.symm
  exact ⟨h.out.kept hg (hne v hv), fun p hp => (h.row p hp).kept hg (hne _ (hr p hp)), h.sep⟩
theorem RP.len (h : RP n B w v ps) : ∃ a c, v = .slice a ps.length c := by
  obtain ⟨a, c, e⟩ := h.out.len
  exact ⟨a, c, by rw [e, List.length_map]⟩
theorem RP.shape (h : RP n B w v ps) {p : Value × (Nat → Nat)} (hp : p ∈ ps) : ∃ g c, p.1 = .slice (some ⟨g, 0, none⟩) (n + 1) c ∧ B ≤ g ∧ g < w.heap.size := by
  obtain ⟨g, c, e, h1, h2⟩ := (h.row p hp).form (by rw [elL_len]; omega)
  rw [elL_len] at e
  exact ⟨g, c, e, h1, h2⟩
theorem rows_kept {vs : List Value} {u : Value} {l : List Int} (h : Ow 23 B w v vs) (hg : w.grownBy w' v.ownBlock) (hu : OI B w u l) : OI B w' u l := hu.kept hg (ow_apart h hu)
/-- One more in one row's first cell. -/
theorem RP.put (h : RP n B w v ps) {i g c : Nat} {f : Nat → Nat} (hi : i < ps.length) (hp : ps.getD i (undef, id) = (.slice (some ⟨g, 0, none⟩) (n + 1) c, f)) :
    RP n B (w.setCell ⟨g, 0, none⟩ (.int .i64 (((f 0 : Nat) : Int) + 1))) v (ps.set i (.slice (some ⟨g, 0, none⟩) (n + 1) c, fun j => if j = 0 then f 0 + 1 else f j)) ∧ w.grownBy (w.setCell ⟨g, 0, none⟩ (.int .i64 (((f 0 : Nat) : Int) + 1))) (some g) := by
  have hpe : ps[i] = (.slice (some ⟨g, 0, none⟩) (n + 1) c, f) := by
    rw [← hp, List.getD_eq_getElem?_getD, List.getElem?_eq_getElem hi]
    rfl
  have hmem : (Value.slice (some ⟨g, 0, none⟩) (n + 1) c, f) ∈ ps := by rw [← hpe]; exact List.getElem_mem hi
  have hro := h.row _ hmem
  obtain ⟨h1, h2⟩ := hro.stored 0 (((f 0 : Nat) : Int) + 1)
  have hset : (elL (n + 1) f).set 0 (((f 0 : Nat) : Int) + 1) = elL (n + 1) (fun j => if j = 0 then f 0 + 1 else f j) := by
    rw [elL_cons, elL_cons, List.set_cons_zero]
    rfl
  rw [hset] at h1
  have ho := h.out.kept h2 (by
      rcases ow_apart h.out hro with e | e
      · simp [Value.ownBlock] at e
      · exact .inr fun e2 => e (by rw [e2]; rfl))
  have hmap : (ps.set i (.slice (some ⟨g, 0, none⟩) (n + 1) c, fun j => if j = 0 then f 0 + 1 else f j)).map (·.1) = ps.map (·.1) := by
    rw [List.map_set]
    refine List.ext_getElem? fun q => ?_
    by_cases e : i = q
    · subst e
      rw [List.getElem?_set_self (by simpa using hi), List.getElem?_map, List.getElem?_eq_getElem hi, hpe]
      rfl
    · rw [List.getElem?_set_ne e]
  have hsep := h.sep
  rw [List.pairwise_iff_getElem] at hsep
  refine ⟨⟨by rw [hmap]; exact ho, fun p hp2 => ?_, ?_⟩, h2⟩
  · obtain ⟨q, hq, e⟩ := List.mem_iff_getElem.1 hp2
    rw [List.length_set] at hq
    by_cases e2 : i = q
    · subst e2
      rw [List.getElem_set_self] at e
      rw [← e]
      exact h1
    · rw [List.getElem_set_ne e2] at e
      rw [← e]
      refine (h.row _ (List.getElem_mem hq)).kept h2 (.inr fun e3 => ?_)
      rcases Nat.lt_trichotomy i q with h4 | h4 | h4
      · have := hsep i q hi hq h4
        rw [hpe] at this
        exact this (by rw [e3]; rfl)
      · exact e2 h4
      · have := hsep q i hq hi h4
        rw [hpe] at this
        exact this (by rw [e3]; rfl)
  · have e5 : (ps.set i (.slice (some ⟨g, 0, none⟩) (n + 1) c, fun j => if j = 0 then f 0 + 1 else f j)).Pairwise (fun p q => p.1.ownBlock ≠ q.1.ownBlock) ↔ ((ps.set i (.slice (some ⟨g, 0, none⟩) (n + 1) c, fun j => if j = 0 then f 0 + 1 else f j)).map (·.1)).Pairwise fun a b => a.ownBlock ≠ b.ownBlock := by rw [List.pairwise_map]
    rw [e5, hmap, List.pairwise_map]
    exact h.sep
/-- A new row among them. -/
theorem RP.ins {v' u : Value} {k : Nat} {f : Nat → Nat} (h : RP n B w v ps) (ho : Ow 23 B w' v' (((ps.take k).map (·.1) ++ [u]) ++ (ps.drop k).map (·.1))) (hr : ∀ p ∈ ps, OI B w' p.1 (elL (n + 1) p.2)) (hu : OI B w' u (elL (n + 1) f)) (hs : ∀ p ∈ ps, p.1.ownBlock ≠ u.ownBlock) : RP n B w' v' (ps.take k ++ ((u, f) :: ps.drop k)) := by
  refine ⟨?_, fun p hp => ?_, ?_⟩
  · have e : (ps.take k ++ ((u, f) :: ps.drop k)).map (·.1) = ((ps.take k).map (·.1) ++ [u]) ++ (ps.drop k).map (·.1) := by simp
    rw [e]
    exact ho
  · rcases List.mem_append.1 hp with hp | hp
    · exact hr p (List.mem_of_mem_take hp)
    · rcases List.mem_cons.1 hp with rfl | hp
      · exact hu
      · exact hr p (List.mem_of_mem_drop hp)
  · rw [List.pairwise_append, List.pairwise_cons]
    have hs2 := h.sep
    rw [← List.take_append_drop k ps, List.pairwise_append] at hs2
    refine ⟨hs2.1, ⟨fun b hb => fun e => hs b (List.mem_of_mem_drop hb) e.symm, hs2.2.1⟩, fun a ha b hb => ?_⟩
    rcases List.mem_cons.1 hb with rfl | hb
    · exact hs a (List.mem_of_mem_take ha)
    · exact hs2.2.2 a ha b hb
theorem RP.ol (h : RP n B w v ps) : OL B w.heap.size w v ((ps.map (·.2)).map (elL (n + 1))) := by
  refine ⟨_, h.out, fun k hk => (h.out.lt k hk).2, by simp, fun i hi => ?_⟩
  have hi' : i < ps.length := by simpa using hi
  have h1 := h.row _ (List.getElem_mem hi')
  have e1 : (ps.map (·.1)).getD i undef = ps[i].1 := by simp [hi']
  have e2 : ((ps.map (·.2)).map (elL (n + 1))).getD i [] = elL (n + 1) ps[i].2 := by simp [hi']
  rw [e1, e2]
  exact ⟨h1, fun k hk => (h1.lt k hk).2⟩
end

theorem lens_div {n : Nat} {x : Nat → Nat} (P : Pm n x) {c : Nat} (hc : c < n + 1) (h1 : 1 ≤ c) : (lenL x n n).getD c 0 = ((c * kdF x n n c : Nat) : Int) := by
  rw [lenL_get hc, P.lens c]
  rfl
/-- A row of one. -/
def r1F (n : Nat) (x : Nat → Nat) (j : Nat) : Nat := if j = 0 then 1 else kdF x n n j

theorem r1_tl (n : Nat) (x : Nat → Nat) {j : Nat} (h : j < 7) : tlF (r1F n x) j = tlY (kdL n x) j := by
  rw [tlY_kd n x h]
  unfold tlF r1F
  rw [if_neg (by omega)]
section
variable {n i t : Nat} {L : List (Nat → Nat)} {T : List (List Int)} {ps : List (Value × (Nat → Nat))}
theorem rowI_at (h : ps.map (·.2) = T.map (rwI n L i)) {j : Nat} (hj : j < ps.length) : (ps.getD j (undef, id)).2 = rwI n L i (T.getD j []) := by
  have hl : T.length = ps.length := by
    have := congrArg List.length h
    simpa using this.symm
  have h1 := congrArg (fun l => l[j]?) h
  simp only [List.getElem?_map, List.getElem?_eq_getElem hj, List.getElem?_eq_getElem (show j < T.length by omega), Option.map_some, Option.some.injEq] at h1
  rw [List.getD_eq_getElem?_getD, List.getElem?_eq_getElem hj, List.getD_eq_getElem?_getD, List.getElem?_eq_getElem (show j < T.length by omega)]
  exact h1
theorem row_tl (h : ps.map (·.2) = T.map (rwI n L i)) {j : Nat} (hj : j < ps.length) : tlF (ps.getD j (undef, id)).2 = tlY (T.getD j []) := by rw [rowI_at h hj, tl_rwI]
theorem rw_other (hi : i < L.length) {y : List Int} (h : y ≠ kdL n (L.getD i id)) : rwI n L (i + 1) y = rwI n L i y := by
  funext j
  unfold rwI
  rw [ck_succ hi, if_neg h, Int.add_zero]
theorem rw_new (hn : n ≤ 7) (hi : i < L.length) (hP : Pm n (L.getD i id)) (h : ckN n L i (kdL n (L.getD i id)) = 0) : rwI n L (i + 1) (kdL n (L.getD i id)) = r1F n (L.getD i id) := by
  funext j
  unfold rwI r1F
  rw [ck_succ hi, if_pos rfl, h]
  by_cases e : j = 0
  · rw [if_pos e, if_pos e]
    rfl
  · rw [if_neg e, if_neg e]
    by_cases h8 : j < 8
    · simp [kdL, kdI, h8]
    · rw [(kd_zero hP).2 j (by omega)]
      simp [kdL, kdI, h8]
theorem rw_more (hi : i < L.length) : rwI n L (i + 1) (kdL n (L.getD i id)) = fun j => if j = 0 then rwI n L i (kdL n (L.getD i id)) 0 + 1 else rwI n L i (kdL n (L.getD i id)) j := by
  have hb := ckN_le n L i (kdL n (L.getD i id))
  funext j
  unfold rwI
  by_cases e : j = 0
  · rw [if_pos e, if_pos e, if_pos rfl, ck_succ hi, if_pos rfl]
    omega
  · rw [if_neg e, if_neg e, if_neg e]
theorem ins_rows (hn : n ≤ 7) (hi : i < L.length) (hP : Pm n (L.getD i id)) (h : ps.map (·.2) = T.map (rwI n L i)) (hX : IX n L i T) (hno : kdL n (L.getD i id) ∉ T) (u : Value) : (ps.take t ++ ((u, r1F n (L.getD i id)) :: ps.drop t)).map (·.2) = (T.take t ++ (kdL n (L.getD i id) :: T.drop t)).map (rwI n L (i + 1)) := by
  have h1 : T.map (rwI n L (i + 1)) = T.map (rwI n L i) := List.map_congr_left fun y hy => rw_other hi fun e => hno (e ▸ hy)
  rw [List.map_append, List.map_cons, List.map_append, List.map_cons, rw_new hn hi hP (hX.first (Nat.le_of_lt hi) hno), List.map_take, List.map_drop, List.map_take, List.map_drop, h1, h]
theorem put_rows (hi : i < L.length) (h : ps.map (·.2) = T.map (rwI n L i)) (hX : IX n L i T) (ht : t < ps.length) (he : T.getD t [] = kdL n (L.getD i id)) {u : Value} {f : Nat → Nat} (hf : (ps.getD t (undef, id)).2 = f) : (ps.set t (u, fun j => if j = 0 then f 0 + 1 else f j)).map (·.2) = T.map (rwI n L (i + 1)) := by
  have hl : T.length = ps.length := by
    have := congrArg List.length h
    simpa using this.symm
  have hft : f = rwI n L i (kdL n (L.getD i id)) := by rw [← hf, rowI_at h ht, he]
  rw [List.map_set, h]
  refine List.ext_getElem? fun q => ?_
  by_cases e : t = q
  · subst e
    rw [List.getElem?_set_self (by simp; omega), List.getElem?_map, List.getElem?_eq_getElem (show t < T.length by omega), Option.map_some]
    have e2 : T[t]'(by omega) = kdL n (L.getD i id) := by
      rw [← he, List.getD_eq_getElem?_getD, List.getElem?_eq_getElem (show t < T.length by omega)]
      rfl
    rw [e2, rw_more hi, hft]
  · rw [List.getElem?_set_ne e, List.getElem?_map, List.getElem?_map]
    by_cases hq : q < T.length
    · rw [List.getElem?_eq_getElem hq, Option.map_some, Option.map_some, rw_other hi]
      intro e3
      have e2 : T.getD q [] = kdL n (L.getD i id) := by
        rw [List.getD_eq_getElem?_getD, List.getElem?_eq_getElem hq]
        exact e3
      rcases Nat.lt_trichotomy t q with h4 | h4 | h4
      · have := pw_get hX.fall h4 hq
        rw [e2, he] at this
        exact lex_irrefl n _ this
      · exact e h4
      · have := pw_get hX.fall h4 (by omega)
        rw [e2, he] at this
        exact lex_irrefl n _ this
    · rw [List.getElem?_eq_none (by omega)]
      rfl
theorem IX.len (h : IX n L i T) : T.length ≤ i := by
  have : T.length ≤ ((List.range i).map fun j => kdL n (L.getD j id)).length := List.Nodup.length_le_of_subset h.nodup fun y hy => by
    obtain ⟨j, hj, e⟩ := (h.mem y).1 hy
    exact List.mem_map.2 ⟨j, List.mem_range.2 hj, e.symm⟩
  simpa using this
theorem elL_same {x y : Nat → Nat} : elL n x = elL n y ↔ ∀ j, j < n → x j = y j := by
  constructor
  · intro h j hj
    have h1 := congrArg (fun l => l[j]?) h
    simp only [elL, List.getElem?_map, List.getElem?_range hj, Option.map_some, Option.some.injEq] at h1
    omega
  · intro h
    unfold elL
    exact List.map_congr_left fun j hj => by rw [h j (List.mem_range.1 hj)]
end

set_option maxHeartbeats 4000000 in
set_option maxRecDepth 100000 in
theorem indexof_ok (n : Nat) (v : Value) (L : List (Nat → Nat)) (w : World) (hn : n ≤ 7) (hn1 : 1 ≤ n) (hv : RL w v (L.map (elL n))) (hL : ∀ x ∈ L, Mv n x) (hlen : L.length ≤ 1000000) :
    Calls Try.prog 42 #[.int .i64 n, v] w fun e w' => (∃ (r : Value) (T : List (List Int)), e = .returned r ∧ OL w.heap.size w'.heap.size w' r ((T.map (rwI n L L.length)).map (elL (n + 1))) ∧ IX n L L.length T) ∧ Below w.heap.size w w' := by
  have HMA := hid (fun w1 (hb : Below w.heap.size w w1) i (hi : i < L.length) => (hv.below hb).mvAt hi)
  obtain ⟨va, vc, rfl, hv1, _⟩ := hv
  rw [List.length_map] at hv1 ⊢
  have HPM := hid (fun i (hi : i < L.length) => hL _ (getD_mem hi id))
  have HLE := hid (fun (u : Value) (x : Nat → Nat) (w1 : World) (hu : Sl w1 u (elL n x)) (P : Mv n x) => lengths_ok u (elL n x) n x w1 hu (elL_pm (by omega) P))
  have HLD := hid (fun (x : Nat → Nat) (P : Mv n x) c (h1 : c < n + 1) (h2 : 1 ≤ c) => lens_div P.pm h1 h2)
  have HKL := hid (fun x c => kd_le x n n c)
  have HGR := hid (fun (x y : Nat → Nat) (v u : Value) (w : World) hv hu => greater_ok n x y v u w hn hv hu)
  have HIN := hid (fun (v u : Value) (l m : List Int) (w : World) hl hm => ints_any v u l m w hl hm)
  have HIX0 := hid (IX.zero (n := n) (L := L))
  have HSAME := hid (fun i T (h : IX n L i T) hy => h.same hy)
  have HINS := hid (fun i T k (h : IX n L i T) h1 h2 h3 => h.ins (at' := k) h1 h2 h3)
  have HPLACE := hid (fun i T k (h : IX n L i T) (hi : i < L.length) h1 h2 h3 => h.place (at' := k) hn hL hi (Nat.le_of_lt hi) h1 h2 h3)
  have HINT := hid (fun i T k (h : IX n L i T) (hi : i < L.length) h1 h2 => h.inT (at' := k) hn hL hi h1 h2)
  have HFIRST := hid (fun i T (h : IX n L i T) (hi : i ≤ L.length) h1 => h.first hi h1)
  have HCKS := hid (fun i y (hi : i < L.length) => ck_succ (n := n) hi y)
  have HCKB := hid (fun i y => ckN_le n L i y)
  have HTL := hid (fun i y => tl_rwI n L i y)
  have HR1T := hid (fun x j (h : j < n) => r1_tl n x (j := j) (by omega))
  have HRO := hid (fun i T (ps : List (Value × (Nat → Nat))) t u (hi : i < L.length) h hX hno => ins_rows (t := t) (ps := ps) (T := T) hn hi (hL _ (getD_mem hi id)).pm h hX hno u)
  have HPU := hid (fun i T (ps : List (Value × (Nat → Nat))) t u f (hi : i < L.length) h hX ht he hf => put_rows (n := n) (t := t) (ps := ps) (T := T) (u := u) (f := f) hi h hX ht he hf)
  have HEL := hid elL_len
  have HLL := hid (fun x => lenL_len x n n)
  have hb0 := hid (Below.refl w.heap.size w)
  clear hL
  obtain ⟨M, hM⟩ : ∃ M, L.length = M := ⟨_, rfl⟩
  rw [hM] at HMA HPM HPLACE HINT HFIRST HCKS HRO HPU hlen hv1 ⊢
  clear hM
  go_enter Try.func42, Try.ntmps42
  go_wp2_with fail
  go_loopw [5, 6, 7, 8, 9, 10, 11, 12] (fun v5 v6 _ _ _ _ _ _ wr => ∃ (i : Nat) (T : List (List Int)) (ps : List (Value × (Nat → Nat))), v6 = .int .i64 i ∧ i ≤ M ∧ Hid (IX n L i T) ∧ Hid (ps.map (·.2) = T.map (rwI n L i)) ∧ RP n w.heap.size wr v5 ps ∧ Below w.heap.size w wr) (fun _ v6 _ _ _ _ _ _ _ => M - (intOf v6).toNat)
  case atStart => exact ⟨0, [], [], rfl, Nat.zero_le _, HIX0, hid rfl, RP.nil _ _ _, hb0.out⟩
  case round =>
    obtain ⟨i, T, ps, rfl, hi, HX, HPT, hrp, hb⟩ := hrel
    obtain ⟨a5, c5, e5⟩ := hrp.len
    subst e5
    have HVB : Hid (∀ k, (Value.slice a5 ps.length c5).ownBlock = some k → k < wr.heap.size) := hid (fun k hk => (hrp.out.lt k hk).2)
    have hcap : ps.length ≤ c5 := by
      have := Ow.cap hrp.out
      omega
    have hTl : T.length = ps.length := by
      have := congrArg List.length HPT.out
      simpa using this.symm
    have hpl : ps.length ≤ 1000000 := by
      have := HX.out.len
      omega
    by_cases hil : i < M
    · have hii : (i : Int) < (M : Int) := by omega
      obtain ⟨x, hx⟩ : ∃ x, L.getD i id = x := ⟨_, rfl⟩
      obtain ⟨g1, o1, c1, a1, d1, e1, hg1, hc1, hs1⟩ := HMA.out wr hb i hil
      simp only [Value.slice.injEq] at e1
      obtain ⟨rfl, rfl⟩ : va = some ⟨g1, o1, none⟩ ∧ vc = c1 := ⟨e1.1, e1.2.2⟩
      have hpm := HPM.out i hil
      rw [hx] at hs1 hpm
      have HXE := hid hx
      have HLEN := hid (HLE.out _ x wr hs1 hpm)
      have HI := hid (And.intro hrp hb)
      have HPMX := hid hpm
      clear hrp hb hs1 hx e1 hpm
      go_wp2_with fail
      refine HLEN.out.mono ?_
      rintro e w2 ⟨⟨r2, rfl, hr2⟩, hb2⟩
      obtain ⟨g2, cc2, e2, hg2a, hg2b⟩ := hr2.form (by rw [HLL.out]; omega)
      rw [HLL.out] at e2
      subst e2
      have H2 := hid (And.intro hr2 (And.intro (HI.out.1.below hb2) (And.intro (HI.out.2.trans (hb2.mono HI.out.2.size)) hb2)))
      have HR1 := hid (OI.lit1 w2.heap.size w2 1 (Nat.le_refl _))
      have hba : Below w2.heap.size w2 (w2.alloc (.cells #[.int .i64 1] 3)) := (Below.refl _ _).alloc (Nat.le_refl _) _
      have H3 := hid (And.intro (H2.out.1.below hba) (And.intro (H2.out.2.1.below hba) (H2.out.2.2.1.trans (hba.mono H2.out.2.2.1.size))))
      have hb23 := hba
      clear hr2 hb2 hba
      go_wp2_with fail
      have hw2 : wr.heap.size ≤ w2.heap.size := H2.out.2.2.2.size
      have hww : w.heap.size ≤ wr.heap.size := HI.out.2.size
      have HRB : Hid (∀ p ∈ ps, ∀ k, p.1.ownBlock = some k → k < wr.heap.size) := hid (fun p hp k hk => ((HI.out.1.row p hp).lt k hk).2)
      have H11 : Hid (elL 1 (r1F n x) = [1]) := hid rfl
      have HES : Hid (∀ k, elL (k + 1) (r1F n x) = elL k (r1F n x) ++ [((r1F n x k : Nat) : Int)]) := hid (fun k => by
        unfold elL
        rw [List.range_succ, List.map_append]
        rfl)
      have HR1F : Hid (∀ k, 1 ≤ k → r1F n x k = kdF x n n k) := hid (fun k hk => if_neg (by omega))
      have HR10 : Hid (r1F n x 0 = 1) := hid rfl
      go_loopw [8, 9] (fun v8 v9 wq => ∃ k : Nat, v9 = .int .i64 k ∧ 1 ≤ k ∧ k ≤ n + 1 ∧ OI w2.heap.size wq v8 (elL k (r1F n x)) ∧ OI wr.heap.size wq (.slice (some ⟨g2, 0, none⟩) (n + 1) cc2) (lenL x n n) ∧ RP n w.heap.size wq (.slice a5 ps.length c5) ps ∧ Below w.heap.size w wq ∧ w2.heap.size < wq.heap.size) (fun _ v9 _ => n + 1 - (intOf v9).toNat)
      case atStart => exact ⟨1, rfl, Nat.le_refl _, by omega, by rw [H11.out]; exact HR1.out, H3.out.1, H3.out.2.1, H3.out.2.2, by simp⟩
      case round =>
        clear HR1 H3 H2 HI hb23
        obtain ⟨k, rfl, hk1, hk, ho, hl, hrp, hb, hsz⟩ := hrel
        by_cases hkl : k < n + 1
        · have hki : (k : Int) ≤ (n : Int) := by omega
          have hki2 : (k : Int) < (n : Int) + 1 := by omega
          have hk0 : (k : Int) ≠ 0 := by omega
          have hce := hl.cell k (by rw [HLL.out]; exact hkl)
          rw [HLD.out x HPMX.out k hkl hk1] at hce
          have hkb := HKL.out x k
          have hr1 := HR1F.out k hk1
          have hdiv : ((k * kdF x n n k : Nat) : Int) / (k : Int) = ((kdF x n n k : Nat) : Int) := by
            rw [Int.natCast_mul]
            exact Int.mul_ediv_cancel_left _ hk0
          have hmb : k * kdF x n n k ≤ 8 * 7 := Nat.mul_le_mul (by omega) (by omega)
          have hle : (elL k (r1F n x)).length ≤ 1000000000000 := by rw [HEL.out]; omega
          have hwq : w2.heap.size ≤ wr.heap.size := by omega
          have HSk := hid (HES.out k)
          rw [hr1] at HSk
          have HI := hid (And.intro ho (And.intro hl (And.intro hrp hb)))
          clear ho hl hrp hb hr1
          generalize k * kdF x n n k = kk at *
          generalize kdF x n n k = kd at *
          go_wp2_with (first
            | (at_builtin; refine wpList_appi wr (.tmp 30) _ 23 rfl rfl Try.underlying23 Try.info3 w2.heap.size _ _ rfl HI.out.1 rfl hle hwq ?_
               intro g9 c9 w9 hown1 hg1 hg2 hg3
               have hg1' : wr.grownBy w9 u8.ownBlock := hg1
               have hl9 := HI.out.2.1.kept hg1' (.inr (fun e => by have := (HI.out.1.lt g2 e.symm).1; omega))
               have hrp9 := HI.out.2.2.1.kept hg1' (fun k h1 h2 => by have a := HVB.out k h1; have b := (HI.out.1.lt k h2).1; omega) (fun p hp k h1 h2 => by have a := HRB.out p hp k h1; have b := (HI.out.1.lt k h2).1; omega)
               have hb9 := HI.out.2.2.2.grown hg1' HI.out.2.2.2.size (fun b e => by have := (HI.out.1.lt b e).1; omega)
               have HX2 := hid (And.intro hown1 (And.intro hl9 (And.intro hrp9 (And.intro hb9 (Nat.lt_of_lt_of_le hsz hg1'.size)))))
               clear hown1 hg1 hg2 hg3 hg1' hl9 hrp9 hb9)
            | fail)
          go_roundw
          case rel => exact ⟨k + 1, by go_num, by omega, by omega, by rw [HSk.out]; exact HX2.out.1, HX2.out.2.1, HX2.out.2.2.1, HX2.out.2.2.2.1, HX2.out.2.2.2.2⟩
          case measure => simp [intOf] <;> omega
        · obtain rfl : k = n + 1 := by omega
          have hki : ¬ (n : Int) + 1 ≤ (n : Int) := by omega
          have hki2 : ¬ (((n + 1 : Nat) : Nat) : Int) ≤ (n : Int) := by omega
          obtain ⟨g8, c8, e8, hg8a, hg8b⟩ := ho.form (by rw [HEL.out]; omega)
          rw [HEL.out] at e8
          subst e8
          have HI := hid (And.intro ho (And.intro hrp hb))
          clear ho hl hrp hb
          go_wp2_with fail
          go_loopw [10] (fun v10 wq => ∃ t : Nat, v10 = .int .i64 t ∧ t ≤ ps.length ∧ Hid (∀ j, j < t → cfN n (tlF (r1F n x)) (tlF (ps.getD j (undef, id)).2) < 0) ∧ OI w2.heap.size wq (.slice (some ⟨g8, 0, none⟩) (n + 1) c8) (elL (n + 1) (r1F n x)) ∧ RP n w.heap.size wq (.slice a5 ps.length c5) ps ∧ Below w.heap.size w wq ∧ w2.heap.size < wq.heap.size) (fun v10 _ => ps.length - (intOf v10).toNat)
          case atStart => exact ⟨0, rfl, Nat.zero_le _, hid (fun j h => by omega), HI.out.1, HI.out.2.1, HI.out.2.2, hsz⟩
          case round =>
            clear HI hsz
            obtain ⟨t, rfl, ht, HG, ho, hrp, hb, hsz⟩ := hrel
            by_cases htl : t < ps.length
            · have hti : (t : Int) < ((ps.length : Nat) : Int) := by omega
              obtain ⟨go, cgo, ego, _, _⟩ := hrp.out.form (by rw [List.length_map]; omega)
              simp only [Value.slice.injEq] at ego
              obtain ⟨rfl, -, rfl⟩ := ego
              have hpm : ps.getD t (undef, id) ∈ ps := by
                rw [List.getD_eq_getElem?_getD, List.getElem?_eq_getElem htl]
                exact List.getElem_mem htl
              obtain ⟨pt, hpt⟩ : ∃ pt, ps.getD t (undef, id) = pt := ⟨_, rfl⟩
              rw [hpt] at hpm
              obtain ⟨gp, cp, ep, _, _⟩ := hrp.shape hpm
              have hce := hrp.out.cell t (by rw [List.length_map]; exact htl)
              rw [List.getElem?_map, List.getElem?_eq_getElem htl, Option.map_some] at hce
              have hpe : ps[t] = pt := by
                rw [← hpt, List.getD_eq_getElem?_getD, List.getElem?_eq_getElem htl]
                rfl
              rw [hpe, ep] at hce
              have hrow := hrp.row pt hpm
              have HRW := hid hrow
              have hsp := hrow.sl (by rw [HEL.out]; omega)
              rw [ep] at hsp
              have HGC := hid (HGR.out pt.2 (r1F n x) _ _ wr hsp (ho.sl (by rw [HEL.out]; omega)))
              have HI := hid (And.intro ho (And.intro hrp hb))
              have HPT2 := hid hpt
              have HPE := hid (And.intro hpe (And.intro hpm ep))
              clear ho hrp hb hrow hsp hpm hpe hpt ep
              go_wp2_with fail
              refine HGC.out.mono ?_
              rintro e w3 ⟨rfl, hb3⟩
              have HI3 := hid (And.intro (HI.out.1.below hb3) (And.intro (HI.out.2.1.below hb3) (And.intro (HI.out.2.2.trans (hb3.mono HI.out.2.2.size)) (Nat.lt_of_lt_of_le hsz hb3.size))))
              clear hb3 HI hce
              by_cases hlt : cfN n (tlF (r1F n x)) (tlF pt.2) < 0
              · have HG2 : Hid (∀ j, j < t + 1 → cfN n (tlF (r1F n x)) (tlF (ps.getD j (undef, id)).2) < 0) := hid (fun j hj => by
                  by_cases e : j = t
                  · rw [e, HPT2.out]; exact hlt
                  · exact HG.out j (by omega))
                have hdl := decide_eq_true hlt
                clear hlt
                go_wp2
                go_roundw
                case rel => exact ⟨t + 1, by go_num, by omega, HG2, HI3.out.1, HI3.out.2.1, HI3.out.2.2.1, HI3.out.2.2.2⟩
                case measure => simp [intOf] <;> omega
              · have hdl := decide_eq_false hlt
                rw [cfn_lt] at hlt
                obtain ⟨fp, hfp⟩ : ∃ fp, pt.2 = fp := ⟨_, rfl⟩
                have hTt : tlF fp = tlY (T.getD t []) := by rw [← hfp, ← HPT2.out]; exact row_tl HPT.out htl
                have hRW := HI3.out.2.1.row pt HPE.out.2.1
                have hsa := hRW.sl (by rw [HEL.out]; omega)
                rw [HPE.out.2.2, hfp] at hsa
                have hsb := HI3.out.1.sl (by rw [HEL.out]; omega)
                have hcp : n + 1 ≤ cp := by
                  obtain ⟨a', c', e, hh, _⟩ := hsa.out
                  rw [HEL.out] at e hh
                  simp only [Value.slice.injEq] at e
                  omega
                have hc8 : n + 1 ≤ c8 := by
                  obtain ⟨a', c', e, hh, _⟩ := hsb.out
                  rw [HEL.out] at e hh
                  simp only [Value.slice.injEq] at e
                  omega
                have hta : Sl w3 (.slice (some ⟨gp, 0 + 1, none⟩) (n + 1 - 1) (cp - 1)) (elL n (tlF fp)) := by
                  have := hsa.fromc (i := 1) (by omega) (by omega)
                  rwa [elL_cons, List.drop_one, List.tail_cons] at this
                have htb : Sl w3 (.slice (some ⟨g8, 0 + 1, none⟩) (n + 1 - 1) (c8 - 1)) (elL n (tlF (r1F n x))) := by
                  have := hsb.fromc (i := 1) (by omega) (by omega)
                  rwa [elL_cons, List.drop_one, List.tail_cons] at this
                have HII := hid (fun m => HIN.out _ _ _ _ (w3.drewN m) (hta.drewN m) (htb.drewN m))
                have hcpi : (1 : Int) ≤ (cp : Int) := by omega
                have hc8i : (1 : Int) ≤ (c8 : Int) := by omega
                have hce3 := HI3.out.2.1.out.cell t (by rw [List.length_map]; exact htl)
                rw [List.getElem?_map, List.getElem?_eq_getElem htl, Option.map_some, HPE.out.1, HPE.out.2.2] at hce3
                have h1cp : ¬ cp = 1 := by omega
                have h1c8 : ¬ c8 = 1 := by omega
                have HTT := hid hTt
                have HNL := hid hlt
                have HFP := hid hfp
                clear hRW hsa hsb hta htb hTt hlt hfp
                go_wp2_with fail
                go_quiet ((go_at_call 21; exact Calls.quiet_of (HII.out _)))
                have hnq := hid (below_drewN (Below.refl w3.heap.size w3) nq)
                have hRPq : RP n w.heap.size (w3.drewN nq) (.slice (some ⟨go, 0, none⟩) ps.length c5) ps := HI3.out.2.1.below hnq.out
                have hROq := HI3.out.1.below hnq.out
                have hBq := HI3.out.2.2.1.trans (hnq.out.mono HI3.out.2.2.1.size)
                have hSq : w2.heap.size < (w3.drewN nq).heap.size := HI3.out.2.2.2
                have HJ0 := hid (And.intro hROq (And.intro hRPq (And.intro hBq hSq)))
                replace hce3 : (w3.drewN nq).cell? ⟨go, t, none⟩ = some (.slice (some ⟨gp, 0, none⟩) (n + 1) cp) := hce3
                obtain ⟨wi, hwi⟩ : ∃ wi, wi = w3.drewN nq := ⟨_, rfl⟩
                rw [← hwi] at HJ0 hce3 ⊢
                clear hwi hRPq hROq hBq hSq HI3 hnq
                have HJ := HJ0
                have HGL : Hid (∀ j, j < t → LexF n (tlY (kdL n (L.getD i id))) (tlY (T.getD j []))) := hid (fun j hj => by
                  have h1 := (cfn_lt _ _ _).1 (HG.out j hj)
                  rw [row_tl HPT.out (by omega), (lex_congr fun q hq => HR1T.out x q hq).1] at h1
                  rw [HXE.out]
                  exact h1)
                by_cases he : elL n (tlF fp) = elL n (tlF (r1F n x))
                · have HE1 := hid ((elL_same).1 he)
                  rw [decide_eq_true he]
                  have hTe := HINT.out i T t HX.out hil (by omega) (fun j hj => by rw [← HTT.out, HE1.out j hj, HR1T.out x j hj, HXE.out])
                  have hp0 : ps.getD t (undef, id) = (.slice (some ⟨gp, 0, none⟩) (n + 1) cp, fp) := by
                    rw [HPT2.out, ← HPE.out.2.2, ← HFP.out]
                  obtain ⟨hpu, hgu⟩ := HJ.out.2.1.put htl hp0
                  have hfb : fp 0 ≤ 1000000 := by
                    have h1 : fp = rwI n L i (T.getD t []) := by rw [← HFP.out, ← HPT2.out]; exact rowI_at HPT.out htl
                    rw [h1]
                    have := HCKB.out i (T.getD t [])
                    show (ckN n L i (T.getD t [])).toNat ≤ _
                    omega
                  have hrw0 := HJ.out.2.1.row _ (show (Value.slice (some ⟨gp, 0, none⟩) (n + 1) cp, fp) ∈ ps by rw [← hp0, HPT2.out]; exact HPE.out.2.1)
                  have hc00 := hrw0.cell 0 (by rw [HEL.out]; omega)
                  rw [elL_cons] at hc00
                  simp only [List.getD_cons_zero] at hc00
                  have hfz0 := hrw0.frozen 0
                  have hXn := HSAME.out i T HX.out (by
                    rw [← hTe, List.getD_eq_getElem?_getD, List.getElem?_eq_getElem (by omega)]
                    exact List.getElem_mem _)
                  have hPn := HPU.out i T ps t (.slice (some ⟨gp, 0, none⟩) (n + 1) cp) fp hil HPT.out HX.out htl hTe (by rw [HPT2.out]; exact HFP.out)
                  have hbu := HJ.out.2.2.1.grown hgu HJ.out.2.2.1.size (fun b e => by
                    cases e
                    exact (hrw0.lt gp rfl).1)
                  have HXN := hid hXn
                  have HPN := hid hPn
                  have hll : (ps.set t (.slice (some ⟨gp, 0, none⟩) (n + 1) cp, fun j => if j = 0 then fp 0 + 1 else fp j)).length = ps.length := by simp
                  have HZ := hid (And.intro hpu hbu)
                  clear he hTe hp0 hpu hgu hrw0 hXn hPn hbu hll
                  generalize fp 0 = f0 at *
                  go_wp2_with fail
                  go_roundw
                  case rel => exact ⟨i + 1, T, _, by go_num, by omega, HXN, HPN, HZ.out.1, HZ.out.2⟩
                  case measure => simp [intOf] <;> omega
                · rw [decide_eq_false he]
                  have HGT : Hid (∀ j, t ≤ j → j < T.length → LexF n (tlY (T.getD j [])) (tlY (kdL n (L.getD i id)))) := hid (HPLACE.out i T t HX.out hil (by omega) (fun h => by
                    rw [HXE.out] at h
                    apply HNL.out
                    rw [HFP.out, HTT.out, (lex_congr fun q hq => HR1T.out x q hq).1]
                    exact h) (fun h => he ((elL_same).2 fun j hj => by
                      rw [HTT.out, HR1T.out x j hj, h j hj, HXE.out])))
                  clear he
                  have HNO : Hid (kdL n (L.getD i id) ∉ T) := hid (fun hmem => by
                    obtain ⟨j, hj, e⟩ := List.mem_iff_getElem.1 hmem
                    have e2 : T.getD j [] = kdL n (L.getD i id) := by
                      rw [List.getD_eq_getElem?_getD, List.getElem?_eq_getElem hj]
                      exact e
                    by_cases h : j < t
                    · have := HGL.out j h
                      rw [e2] at this
                      exact lex_irrefl n _ this
                    · have := HGT.out j (by omega) hj
                      rw [e2] at this
                      exact lex_irrefl n _ this)
                  have HIXN := hid (HINS.out i T t HX.out (by omega) HGL.out HGT.out)
                  have HROWS := hid (HRO.out i T ps t (.slice (some ⟨g8, 0, none⟩) (n + 1) c8) hil HPT.out HX.out HNO.out)
                  rw [HXE.out] at HROWS HIXN
                  have hrd0 := HJ.out.2.1.out.rd (by rw [List.length_map]; omega)
                  have hrd1 : Rd wi (.slice (some ⟨go, 0, none⟩) t c5) ((ps.take t).map (·.1)) := by
                    have h := hrd0.slice (lo := 0) (hi := t) (Nat.zero_le _) (by omega)
                    have e : (if c5 = 0 then (some ⟨go, 0, none⟩ : Option Addr) else (some ⟨go, 0, none⟩ : Option Addr).map (·.add 0)) = some ⟨go, 0, none⟩ := by
                      split
                      · rfl
                      · first | rfl | (cases (some ⟨go, 0, none⟩ : Option Addr) <;> rfl)
                    rw [e] at h
                    simpa [List.map_take] using h
                  have HRD1 := hid hrd1
                  have hrd2 : Rd wi (.slice (some ⟨go, t, none⟩) (ps.length - t) (c5 - t)) ((ps.drop t).map (·.1)) := by
                    have h := hrd0.slice (lo := t) (hi := ps.length) (by omega) (Nat.le_refl _)
                    have e : ((ps.map (·.1)).drop t).take (ps.length - t) = (ps.drop t).map (·.1) := by
                      rw [List.take_of_length_le (by simp), List.map_drop]
                    have e3 : (some (⟨go, 0, none⟩ : Addr)).map (·.add t) = some ⟨go, t, none⟩ := by
                      simp only [Option.map_some, Addr.add]
                      split
                      · rename_i h3; subst h3; rfl
                      · simp
                    rw [e, if_neg (by omega), e3] at h
                    exact h
                  have HRD2 := hid hrd2
                  have H1C : Hid (∀ x ∈ (ps.take t).map (·.1), x.oneCell' = true) := hid (fun x hx => by
                    obtain ⟨p, hp, rfl⟩ := List.mem_map.1 hx
                    obtain ⟨g, c, e, _⟩ := HJ.out.2.1.shape (List.mem_of_mem_take hp)
                    rw [e]; rfl)
                  have H2C : Hid (∀ x ∈ (ps.drop t).map (·.1), x.oneCell' = true) := hid (fun x hx => by
                    obtain ⟨p, hp, rfl⟩ := List.mem_map.1 hx
                    obtain ⟨g, c, e, _⟩ := HJ.out.2.1.shape (List.mem_of_mem_drop hp)
                    rw [e]; rfl)
                  have htc : (t : Int) ≤ (c5 : Int) := by omega
                  have HFR : Hid (∀ p ∈ ps, p.1.ownBlock ≠ (Value.slice (some ⟨g8, 0, none⟩) (n + 1) c8).ownBlock) := hid (fun p hp e => by
                    have a := HRB.out p hp g8 e
                    have b := (HJ.out.1.lt g8 rfl).1
                    omega)
                  have hwwi := HJ.out.2.2.1.size
                  clear hrd0 hrd1 hrd2
                  go_wp2_with (first
                    | (at_builtin; refine wpList_apps (.tmp 74) (.tmp 77) 22 23 (.slice none 0 0) 24 rfl rfl Try.underlying22 Try.info23 rfl (by decide) w.heap.size _ _ _ _ rfl (Ow.nil _ _ _) rfl HRD1.out H1C.out (by simp only [List.length_nil, List.length_map, List.length_take]; omega) hwwi ?_
                       intro v12 w12 ho12 hg12 hl12
                       rw [List.nil_append] at ho12
                       have hb12 : Below wi.heap.size wi w12 := (Below.refl _ _).grown hg12 (Nat.le_refl _) (fun k e => by cases e)
                       have H12 := hid (And.intro ho12 hb12)
                       have hw12 := hb12.size
                       have hlx : ((ps.take t).map (·.1)).length ≤ 1000000000000 := by simp only [List.length_map, List.length_take]; omega
                       have hb12w : w.heap.size ≤ w12.heap.size := by omega
                       have HL12 : Hid (∀ g, v12.ownBlock = some g → wi.heap.size ≤ g) := hid (fun g hg => (hl12 g hg).resolve_left (fun e => by cases e))
                       clear ho12 hg12 hl12 hb12)
                    | (at_builtin; refine wpList_app w12 (.tmp 79) (.tmp 81) 22 23 (.slice none 0 0) 24 rfl rfl Try.underlying22 Try.info23 rfl (by decide) w.heap.size _ _ rfl H12.out.1 rfl rfl hlx hb12w ?_
                       intro g13 c13 w13 ho13 hg13 hl13 _
                       have hg13' : w12.grownBy w13 v12.ownBlock := hg13
                       replace hl13 : v12.ownBlock = some g13 ∨ w12.heap.size ≤ g13 := hl13
                       have hb13 := H12.out.2.grown hg13' hw12 (fun k e => HL12.out k e)
                       have HL13 : Hid (wi.heap.size ≤ g13) := hid (by
                         rcases hl13 with h | h
                         · exact HL12.out g13 h
                         · omega)
                       have H13 := hid (And.intro ho13 hb13)
                       have HR13 := hid (HRD2.out.below hb13)
                       have hw13 := hb13.size
                       have hb13w : w.heap.size ≤ w13.heap.size := by omega
                       have hly : ((ps.take t).map (·.1) ++ [Value.slice (some ⟨g8, 0, none⟩) (n + 1) c8]).length + ((ps.drop t).map (·.1)).length ≤ 1000000000000 := by simp only [List.length_map, List.length_take, List.length_drop, List.length_append, List.length_singleton]; omega
                       have hlz : ((ps.take t).map (·.1)).length = t := by simp only [List.length_map, List.length_take]; omega
                       rw [hlz] at H13 ⊢
                       clear ho13 hg13 hl13 hg13' hb13 hlz)
                    | (at_builtin; refine wpList_apps (.tmp 83) (.tmp 86) 22 23 (.slice none 0 0) 24 rfl rfl Try.underlying22 Try.info23 rfl (by decide) w.heap.size _ _ _ _ rfl H13.out.1 rfl HR13.out H2C.out hly hb13w ?_
                       intro v14 w14 ho14 hg14 hl14
                       have hg14' : w13.grownBy w14 (some g13) := hg14
                       have hb14 := H13.out.2.grown hg14' hw13 (fun k e => by cases e; exact HL13.out)
                       have hRP14 := HJ.out.2.1.ins ho14 (fun p hp => (HJ.out.2.1.row p hp).below hb14) ((HJ.out.1.below hb14).mono (by omega)) HFR.out
                       have H14 := hid (And.intro hRP14 (HJ.out.2.2.1.trans (hb14.mono hwwi)))
                       clear ho14 hg14 hl14 hg14' hb14 hRP14)
                    | fail)
                  go_roundw
                  case rel => exact ⟨i + 1, _, _, by go_num, by omega, HIXN, HROWS, H14.out.1, H14.out.2⟩
                  case measure => simp [intOf] <;> omega
            · obtain ⟨tl, htl2⟩ : ∃ tl, ps.length = tl := ⟨_, rfl⟩
              obtain rfl : t = tl := by omega
              have HTL2 := hid htl2
              have hti : ¬ (t : Int) < ((ps.length : Nat) : Int) := by omega
              have HJ := hid (And.intro ho (And.intro hrp (And.intro hb hsz)))
              obtain ⟨wi, hwi⟩ : ∃ wi, wi = wr := ⟨_, rfl⟩
              subst hwi
              have HGL : Hid (∀ j, j < t → LexF n (tlY (kdL n (L.getD i id))) (tlY (T.getD j []))) := hid (fun j hj => by
                have h1 := (cfn_lt _ _ _).1 (HG.out j hj)
                rw [row_tl HPT.out (by omega), (lex_congr fun q hq => HR1T.out x q hq).1] at h1
                rw [HXE.out]
                exact h1)
              have HGT : Hid (∀ j, t ≤ j → j < T.length → LexF n (tlY (T.getD j [])) (tlY (kdL n (L.getD i id)))) := hid (fun j h1 h2 => by omega)
              obtain ⟨A2, C2, hsl⟩ : ∃ (A2 : Option Addr) (C2 : Nat), ∀ W, (Instr.slice 22 (.slice a5 ps.length c5) (some (.int .i64 ((t : Nat) : Int))) none none).run Try.prog W = .ok (.slice A2 0 C2) W := by
                refine ⟨if c5 = t then a5 else a5.map (·.add (t * 1)), c5 - t, fun W => ?_⟩
                have he : Try.prog.elem 22 = 23 := by kernel_rfl
                have hu : Try.prog.underlying 22 = some (.slice (Try.prog.elem 22)) := by rw [he]; exact Try.underlying22
                have h1 := run_slice_l (P := Try.prog) (w := W) 22 a5 ps.length c5 hu .i64 ((t : Nat) : Int) (by omega) (by omega)
                rw [he, Try.sizeOf23] at h1
                rw [h1]
                simp only [Result.andThen_ok, sliced, Int.toNat_natCast, htl2, Nat.sub_self]
              rw [htl2] at hsl
              have hplt : t ≤ 1000000 := by omega
              clear ho hrp hb
              have HNO : Hid (kdL n (L.getD i id) ∉ T) := hid (fun hmem => by
                obtain ⟨j, hj, e⟩ := List.mem_iff_getElem.1 hmem
                have e2 : T.getD j [] = kdL n (L.getD i id) := by
                  rw [List.getD_eq_getElem?_getD, List.getElem?_eq_getElem hj]
                  exact e
                by_cases h : j < t
                · have := HGL.out j h
                  rw [e2] at this
                  exact lex_irrefl n _ this
                · have := HGT.out j (by omega) hj
                  rw [e2] at this
                  exact lex_irrefl n _ this)
              have HIXN := hid (HINS.out i T t HX.out (by omega) HGL.out HGT.out)
              have HROWS := hid (HRO.out i T ps t (.slice (some ⟨g8, 0, none⟩) (n + 1) c8) hil HPT.out HX.out HNO.out)
              rw [HXE.out] at HROWS HIXN
              have hrd0 := HJ.out.2.1.out.rd (by rw [List.length_map]; omega)
              have hrd1 : Rd wi (.slice a5 t c5) ((ps.take t).map (·.1)) := by
                have h := hrd0.slice (lo := 0) (hi := t) (Nat.zero_le _) (by omega)
                have e : (if c5 = 0 then a5 else (a5).map (·.add 0)) = a5 := by
                  split
                  · rfl
                  · first | rfl | (cases (a5 : Option Addr) <;> rfl)
                rw [e] at h
                simpa [List.map_take] using h
              have HRD1 := hid hrd1
              have hrd2 : Rd wi (.slice A2 0 C2) ((ps.drop t).map (·.1)) := by
                rw [List.drop_eq_nil_of_le (by omega)]
                exact ⟨A2, C2, rfl, by simp, fun h => by simp at h⟩
              have HRD2 := hid hrd2
              have H1C : Hid (∀ x ∈ (ps.take t).map (·.1), x.oneCell' = true) := hid (fun x hx => by
                obtain ⟨p, hp, rfl⟩ := List.mem_map.1 hx
                obtain ⟨g, c, e, _⟩ := HJ.out.2.1.shape (List.mem_of_mem_take hp)
                rw [e]; rfl)
              have H2C : Hid (∀ x ∈ (ps.drop t).map (·.1), x.oneCell' = true) := hid (fun x hx => by
                obtain ⟨p, hp, rfl⟩ := List.mem_map.1 hx
                obtain ⟨g, c, e, _⟩ := HJ.out.2.1.shape (List.mem_of_mem_drop hp)
                rw [e]; rfl)
              have htc : (t : Int) ≤ (c5 : Int) := by omega
              have HFR : Hid (∀ p ∈ ps, p.1.ownBlock ≠ (Value.slice (some ⟨g8, 0, none⟩) (n + 1) c8).ownBlock) := hid (fun p hp e => by
                have a := HRB.out p hp g8 e
                have b := (HJ.out.1.lt g8 rfl).1
                omega)
              have hwwi := HJ.out.2.2.1.size
              clear hrd0 hrd1 hrd2
              go_wp2_with (first
                | (at_builtin; refine wpList_apps (.tmp 74) (.tmp 77) 22 23 (.slice none 0 0) 24 rfl rfl Try.underlying22 Try.info23 rfl (by decide) w.heap.size _ _ _ _ rfl (Ow.nil _ _ _) rfl HRD1.out H1C.out (by simp only [List.length_nil, List.length_map, List.length_take]; omega) hwwi ?_
                   intro v12 w12 ho12 hg12 hl12
                   rw [List.nil_append] at ho12
                   have hb12 : Below wi.heap.size wi w12 := (Below.refl _ _).grown hg12 (Nat.le_refl _) (fun k e => by cases e)
                   have H12 := hid (And.intro ho12 hb12)
                   have hw12 := hb12.size
                   have hlx : ((ps.take t).map (·.1)).length ≤ 1000000000000 := by simp only [List.length_map, List.length_take]; omega
                   have hb12w : w.heap.size ≤ w12.heap.size := by omega
                   have HL12 : Hid (∀ g, v12.ownBlock = some g → wi.heap.size ≤ g) := hid (fun g hg => (hl12 g hg).resolve_left (fun e => by cases e))
                   clear ho12 hg12 hl12 hb12)
                | (at_builtin; refine wpList_app w12 (.tmp 79) (.tmp 81) 22 23 (.slice none 0 0) 24 rfl rfl Try.underlying22 Try.info23 rfl (by decide) w.heap.size _ _ rfl H12.out.1 rfl rfl hlx hb12w ?_
                   intro g13 c13 w13 ho13 hg13 hl13 _
                   have hg13' : w12.grownBy w13 v12.ownBlock := hg13
                   replace hl13 : v12.ownBlock = some g13 ∨ w12.heap.size ≤ g13 := hl13
                   have hb13 := H12.out.2.grown hg13' hw12 (fun k e => HL12.out k e)
                   have HL13 : Hid (wi.heap.size ≤ g13) := hid (by
                     rcases hl13 with h | h
                     · exact HL12.out g13 h
                     · omega)
                   have H13 := hid (And.intro ho13 hb13)
                   have HR13 := hid (HRD2.out.below hb13)
                   have hw13 := hb13.size
                   have hb13w : w.heap.size ≤ w13.heap.size := by omega
                   have hly : ((ps.take t).map (·.1) ++ [Value.slice (some ⟨g8, 0, none⟩) (n + 1) c8]).length + ((ps.drop t).map (·.1)).length ≤ 1000000000000 := by simp only [List.length_map, List.length_take, List.length_drop, List.length_append, List.length_singleton]; omega
                   have hlz : ((ps.take t).map (·.1)).length = t := by simp only [List.length_map, List.length_take]; omega
                   rw [hlz] at H13 ⊢
                   clear ho13 hg13 hl13 hg13' hb13 hlz)
                | (at_builtin; refine wpList_apps (.tmp 83) (.tmp 86) 22 23 (.slice none 0 0) 24 rfl rfl Try.underlying22 Try.info23 rfl (by decide) w.heap.size _ _ _ _ rfl H13.out.1 rfl HR13.out H2C.out hly hb13w ?_
                   intro v14 w14 ho14 hg14 hl14
                   have hg14' : w13.grownBy w14 (some g13) := hg14
                   have hb14 := H13.out.2.grown hg14' hw13 (fun k e => by cases e; exact HL13.out)
                   have hRP14 := HJ.out.2.1.ins ho14 (fun p hp => (HJ.out.2.1.row p hp).below hb14) ((HJ.out.1.below hb14).mono (by omega)) HFR.out
                   have H14 := hid (And.intro hRP14 (HJ.out.2.2.1.trans (hb14.mono hwwi)))
                   clear ho14 hg14 hl14 hg14' hb14 hRP14)
                | fail)
              go_roundw
              case rel => exact ⟨i + 1, _, _, by go_num, by omega, HIXN, HROWS, H14.out.1, H14.out.2⟩
              case measure => simp [intOf] <;> omega
    · obtain rfl : i = M := by omega
      have hii : ¬ (i : Int) < (i : Int) := by omega
      have HOL := hid hrp.ol
      rw [HPT.out, List.map_map] at HOL
      have HB := hid hb
      clear hrp hb
      go_wp2
      go_ret
      exact ⟨⟨_, rfl, T, HOL.out, HX.out⟩, HB.out⟩
end Go.Proofs.Ytnbgnoimanpjnaa
/-
  The walk over parterrelaw1.CountColours. Conditions: the slices can be read; numbers of 64 bits.
-/
namespace Go.Proofs.Ytnbgnoimanpjnaa
set_option linter.unusedVariables false
open Go.RowKit

theorem clists_eq (v u : Value) (l : List (List Int)) (w : World) (hl : RL w v l) (hm : RL w u l) :
    Calls Try.prog 37 #[v, u] w fun e w' => e = .returned (.bool true) ∧ Below w.heap.size w w' := by
  refine (lists_any v u l l w hl hm).mono ?_
  rintro e w' ⟨rfl, q, rfl⟩
  exact ⟨by simp, below_drewN (Below.refl _ _) q⟩

set_option maxHeartbeats 1000000 in
theorem ccol_bad (w : World) (n k : Int) (v : Value) (ll : List (List Int)) (hl : RL w v ll) (hE : grpE n ll ≠ 0) :
    Calls Try.prog 10 #[.int .i64 n, v, .int .i64 k] w fun e w' => e = .returned (.bool true) ∧ Below w.heap.size w w' := by
  have HG := hid (fun w1 (hb : Below w.heap.size w w1) => gfault_bel n v ll w1 (hl.below hb))
  have HI := hid (fun w1 (hb : Below w.heap.size w w1) => idx_bad n v ll w1 (hl.below hb) hE)
  have HC := hid (fun w1 (hb : Below w.heap.size w w1) => col_bad n k v ll w1 (hl.below hb) hE)
  obtain ⟨a, c, N, rfl, hN, hc1, hc2⟩ := hl.open
  have hb : (grpE n ll != 0) = true := bne_iff_ne.2 hE
  have hb2 : (grpE n ll == 0) = false := beq_eq_false_iff_ne.2 hE
  clear hE hl hc2
  generalize grpE n ll = E at *
  go_enter Try.func10, Try.ntmps10
  go_wp2_with fail
  refine (HG.out _ (Below.refl _ _)).mono ?_
  rintro e w1 ⟨rfl, hb1⟩
  have H1 := hid hb1
  clear hb1
  go_wp2_with fail
  refine (HI.out _ H1.out).mono ?_
  rintro e w2 ⟨rfl, hb2⟩
  have H2 := hid (H1.out.trans (hb2.mono H1.out.size))
  clear hb2
  go_wp2_with fail
  refine (HC.out _ H2.out).mono ?_
  rintro e w3 ⟨rfl, hb3⟩
  have H3 := hid (H2.out.trans (hb3.mono H2.out.size))
  clear hb3
  go_wp2
  go_ret
  exact ⟨by simp, H3.out⟩

set_option maxHeartbeats 4000000 in
set_option maxRecDepth 100000 in
theorem ccol_ok (w : World) (n : Nat) (k : Int) (v : Value) (ll : List (List Int)) (hl : RL w v ll) (hE : grpE (n : Int) ll = 0) :
    Calls Try.prog 10 #[.int .i64 n, v, .int .i64 k] w fun e w' => e = .returned (.bool true) ∧ Below w.heap.size w w' := by
  obtain ⟨n', hn', hG⟩ := gok_of hE
  obtain rfl : n = n' := by omega
  have hn7 := hG.n7
  have hn1 := hG.n1
  have hlen := GL_len9 hG
  have hfb := fac7 n hn7
  have hmv := hG.mv
  have hLm := GL_mv hG
  have HGF := hid (fun w1 (hb : Below w.heap.size w w1) => gfault_bel n v ll w1 (hl.below hb))
  have HI := hid (fun w1 (hb : Below w.heap.size w w1) => idx_ok n v ll w1 (hl.below hb) hE)
  have HM := hid (fun w1 (hb : Below w.heap.size w w1) => members_ok n v ll w1 (hl.below hb) hG.n1 hn7 hG.pm (by have := hG.l4; omega))
  have HLO := hid (fun v w1 hv => listof_ok n v (memB n (msL n ll)) w1 hv hn7 (memB_len _ _))
  rw [sel_GL] at HLO
  have hel := ll_el hG.pm
  have hml : (msL n ll).length ≤ 1000000 := by rw [msL_len]; have := hG.l4; omega
  have HX := hid (fun u w1 (hu : RL w1 u ((GL n (msL n ll)).map (elL n))) => indexof_ok n u (GL n (msL n ll)) w1 hn7 hn1 hu hLm (by omega))
  have HSM := hid (fun T (h : IX n (GL n (msL n ll)) (GL n (msL n ll)).length T) (fs : List (Nat → Nat)) hp hs => idx_same hn7 hLm h (fs := fs) hp hs)
  have HCF := hid (fun w1 (hb : Below w.heap.size w w1) (hk : k < 1 ∨ 200 < k) => col_far n k v ll w1 (hl.below hb) hE hk)
  have HCO := hid (fun w1 (hb : Below w.heap.size w w1) (kn : Nat) (hk1 : 1 ≤ kn) (hk : kn ≤ 200) => col_ok n kn v ll w1 (hl.below hb) hE hk1 hk)
  have HCX := hid (fun w1 (hb : Below w.heap.size w w1) (kn : Nat) (hk1 : 1 ≤ kn) (hk : kn ≤ 7) => gcolof_ok n kn v (msL n ll) w1 hk1 hk hn1 hn7 (by rw [← hel]; exact hl.below hb) hmv hml)
  have HDIV : Hid (∀ kn, 1 ≤ kn → colS n (GL n (msL n ll)) kn / (GL n (msL n ll)).length = clN (GL n (msL n ll)) (colA n kn) (kn ^ n) (fun _ => true)) := hid (fun kn hk1 => by
    rw [col_burn hk1 hn7 hmv, Nat.mul_div_cancel_left _ (by omega)])
  have HRL := hid (fun B U w1 q (h : OL B U w1 q ((GL n (msL n ll)).map (elL n))) => h.rlm (by omega) hn7)
  have HLQ := hid (fun v u (l : List (List Int)) w1 h1 h2 => clists_eq v u l w1 h1 h2)
  have HRF := hid (fun B U w1 q (fs : List (Nat → Nat)) (hfl : fs.length ≤ 1000000) (h : OL B U w1 q (fs.map (elL (n + 1)))) => (h.rl (by rw [List.length_map]; omega) fun i hi => by
    rw [List.length_map] at hi
    have e : (fs.map (elL (n + 1))).getD i [] = elL (n + 1) fs[i] := by simp [hi]
    rw [e, elL_len]
    omega : RL w1 q (fs.map (elL (n + 1)))))
  have HSKL : Hid ((skS n (GL n (msL n ll)) (GL n (msL n ll)).length).length ≤ (GL n (msL n ll)).length) := hid (by
    have : ∀ k, (skS n (GL n (msL n ll)) k).length ≤ k := by
      intro k
      induction k with
      | zero => exact Nat.le_refl _
      | succ k ih =>
        rw [skS, ins]
        split
        · omega
        · rw [List.length_cons]; omega
    exact this _)
  have HIXL := hid (fun T (h : IX n (GL n (msL n ll)) (GL n (msL n ll)).length T) => h.len)
  have HML := hid (memB_len n (msL n ll))
  have HLL : Hid (((GL n (msL n ll)).map (elL n)).length = (GL n (msL n ll)).length) := hid (by simp)
  obtain ⟨a, c, N, rfl, hN, hc1, hc2⟩ := hl.open
  rw [hE] at HGF
  clear hE hl hc2 hG hn' hmv hLm hel hml
  generalize colS n (GL n (msL n ll)) = CS at *
  generalize (fun kn => clN (GL n (msL n ll)) (colA n kn) (kn ^ n) (fun _ => true)) = CLX at *
  generalize skS n (GL n (msL n ll)) (GL n (msL n ll)).length = SK at *
  generalize IX n (GL n (msL n ll)) (GL n (msL n ll)).length = IXP at *
  generalize rwI n (GL n (msL n ll)) (GL n (msL n ll)).length = RWI at *
  generalize rwF n (GL n (msL n ll)) = RWF at *
  generalize (GL n (msL n ll)).map (elL n) = L at *
  have hO1 : (GL n (msL n ll)).length ≤ 1000000 := by omega
  go_enter Try.func10, Try.ntmps10
  go_wp2_with fail
  refine (HGF.out _ (Below.refl _ _)).mono ?_
  rintro e w1 ⟨rfl, hb1⟩
  have H1 := hid hb1
  clear hb1
  go_wp2_with fail
  refine (HI.out _ H1.out).mono ?_
  rintro e w2 ⟨⟨r2, fs, rfl, hr2, hp2, hs2⟩, hb2⟩
  have hfl : fs.length ≤ 1000000 := by
    have h1 := hp2.length_eq
    rw [List.length_map] at h1
    have := HSKL.out
    omega
  have hrf := HRF.out _ _ _ _ fs hfl hr2
  obtain ⟨a2, c2, e2⟩ := hr2.len
  rw [List.length_map] at e2
  subst e2
  have H2 := hid (And.intro (H1.out.trans (hb2.mono H1.out.size)) hrf)
  have HPS := hid (And.intro hp2 hs2)
  clear hb2 hr2 hrf hp2 hs2
  go_wp2_with fail
  refine (HM.out _ H2.out.1).mono ?_
  rintro e w6 ⟨⟨r, rfl, hr⟩, hb6⟩
  obtain ⟨rg, rc, er, _, hrg⟩ := hr.form (by rw [List.length_map, HML.out]; omega)
  rw [List.length_map, HML.out] at er
  subst er
  have HR := hid hr
  have H6 := hid (And.intro (H2.out.1.trans (hb6.mono H2.out.1.size)) (H2.out.2.below hb6))
  clear hb6 hr
  go_wp2_with fail
  refine (HLO.out _ _ (HR.out.rd (by rw [List.length_map, HML.out]; omega))).mono ?_
  rintro e w7 ⟨⟨q, rfl, hq⟩, hb7⟩
  obtain ⟨qa, qc, eq⟩ := hq.len
  rw [HLL.out] at eq
  subst eq
  have H7 := hid (And.intro (H6.out.1.trans (hb7.mono H6.out.1.size)) (And.intro (HRL.out _ _ _ _ hq) (H6.out.2.below hb7)))
  clear hb7 hq
  go_wp2_with fail
  refine (HX.out _ _ H7.out.2.1).mono ?_
  rintro e w8 ⟨⟨r8, T, rfl, hr8, hix⟩, hb8⟩
  have hTl : T.length ≤ 1000000 := by
    have := HIXL.out T hix
    omega
  have hrt := HRF.out _ _ _ _ (T.map RWI) (by rw [List.length_map]; exact hTl) hr8
  have hsm := HSM.out T hix fs HPS.out.1 HPS.out.2
  rw [← hsm] at hrt hr8
  obtain ⟨a8, c8, e8⟩ := hr8.len
  rw [List.length_map] at e8
  subst e8
  have H8 := hid (And.intro (H7.out.1.trans (hb8.mono H7.out.1.size)) (And.intro (H7.out.2.2.below hb8) hrt))
  clear hb8 hr8 hrt hsm hix
  go_wp2_with fail
  refine (HLQ.out _ _ _ _ H8.out.2.1 H8.out.2.2).mono ?_
  rintro e w9 ⟨rfl, hb9⟩
  have H9 := hid (H8.out.1.trans (hb9.mono H8.out.1.size))
  clear hb9
  by_cases hk1 : k < 1
  · have HCC := hid (HCF.out _ H9.out (.inl hk1))
    go_wp2_with fail
    refine HCC.out.mono ?_
    rintro e w10 ⟨rfl, hb10⟩
    have H10 := hid (H9.out.trans (hb10.mono H9.out.size))
    clear hb10
    go_wp2
    go_ret
    exact ⟨by simp, H10.out⟩
  · by_cases hk2 : 200 < k
    · have HCC := hid (HCF.out _ H9.out (.inr hk2))
      go_wp2_with fail
      refine HCC.out.mono ?_
      rintro e w10 ⟨rfl, hb10⟩
      have H10 := hid (H9.out.trans (hb10.mono H9.out.size))
      clear hb10
      go_wp2
      go_ret
      exact ⟨by simp, H10.out⟩
    · obtain ⟨kn, rfl⟩ : ∃ kn : Nat, k = kn := ⟨k.toNat, by omega⟩
      have HCC := hid (HCO.out _ H9.out kn (by omega) (by omega))
      have HDK := hid (HDIV.out kn (by omega))
      rw [HDK.out] at HCC
      go_wp2_with fail
      refine HCC.out.mono ?_
      rintro e w10 ⟨rfl, hb10⟩
      have H10 := hid (H9.out.trans (hb10.mono H9.out.size))
      clear hb10
      by_cases hk3 : 3 < kn
      · have hki : (3 : Int) < (kn : Int) := by omega
        go_wp2
        go_ret
        exact ⟨by simp, H10.out⟩
      · have hki : ¬ (3 : Int) < (kn : Int) := by omega
        have HCY := hid (HCX.out _ H10.out kn (by omega) (by omega))
        go_wp2_with fail
        refine HCY.out.mono ?_
        rintro e w11 ⟨rfl, hb11⟩
        have H11 := hid (H10.out.trans (hb11.mono H10.out.size))
        clear hb11
        go_wp2
        go_ret
        exact ⟨by simp, H11.out⟩

theorem ccol_walk (w : World) (n : Int) (_hn : I64 n) (v : Value) (ll : List (List Int)) (hl : RL w v ll) (_hll : ∀ l ∈ ll, ∀ x ∈ l, I64 x) (k : Int) (_hk : I64 k) :
    Calls Try.prog 10 #[.int .i64 n, v, .int .i64 k] w fun e w' => e = .returned (.bool true) ∧ Below w.heap.size w w' := by
  by_cases hE : grpE n ll = 0
  · obtain ⟨n', rfl, hG⟩ := gok_of hE
    exact ccol_ok w n' k v ll hl hE
  · exact ccol_bad w n k v ll hl hE
end Go.Proofs.Ytnbgnoimanpjnaa
namespace Go.Proofs.Ytnbgnoimanpjnaa.countColours
open Go.ChangeShapes Go.WideShapes Go.ChangeAt Go.RowKit
set_option linter.unusedVariables false

theorem own : ownKnob Try.prog.godebug = none := by kernel_rfl
theorem laidOut : laidOutB Try.prog = true := by kernel_rfl
set_option maxRecDepth 100000 in
theorem lifted (os : Os) (started : os.Started) (H : Type) (enc : TypeId × Value → H) :
    ReturnsInHanded {} Try.checked os 10 .any (Rows.countColoursSpec.pre6 enc Try.prog Try.f10 Rows.countColoursRow.domain false) (Rows.countColoursSpec.post enc Try.prog Try.f10 false true false false) := by
  refine returnsInHanded_of_change_sized (C := Try.checked) own started (by kernel_rfl) Try.func10
    (ChangeSpec.witness6 (enc := enc) (C := Try.checked) false ⟨#[], #[.int .i64 0, .slice none 0 0, .int .i64 0], []⟩ 8 (by kernel_rfl) (by kernel_rfl) (by kernel_rfl) (by kernel_rfl)) ?_
  intro W base args ds gs before hval0 hW hcnd hsz0 _
  have hval : ∀ (j : Nat) t v, Try.f10.params[j]? = some t → args[j]? = some v → Value.okWide Try.prog W .any base t v := hval0
  have hsz : (DataW.weightsEach Try.prog (Try.f10.params.toList ++ Rows.countColoursSpec.plain.varTypes Try.prog) (ds ++ gs)).all (· ≤ reachBytes) = true := hsz0
  have hW' := hW
  obtain ⟨p, q, hA0, hV, rfl, hfz, hnd⟩ := hW
  have hA : DataW.TrodAll enc Try.prog W 0 (fun _ => true) true Try.f10.params.toList args.toList ds p := hA0
  rw [Try.params10] at hA hval hsz
  obtain ⟨v0, vs0, d0, ds0, p0, q0, hargs, rfl, rfl, h0, r0⟩ := trodAll_cons hA
  obtain ⟨v1, vs1, d1, ds1, p1, q1, rfl, rfl, rfl, h1, r1⟩ := trodAll_cons r0
  obtain ⟨v2, vs2, d2, ds2, p2, q2, rfl, rfl, rfl, h2, r2⟩ := trodAll_cons r1
  obtain ⟨rfl, rfl, rfl⟩ := trodAll_nil r2
  obtain rfl : args = #[v0, v1, v2] := by cases args; simp_all
  obtain ⟨rfl, rfl⟩ := trodVars_none hV
  obtain ⟨a0, rfl, rfl, rfl, w0⟩ := open_int Try.underlying3 (hval 0 3 v0 rfl rfl) h0
  obtain ⟨a1, len1, cap1, rfl⟩ := okWide_slice Try.underlying22 (hval 1 22 v1 rfl rfl)
  have k1 := h1
  have lt1 : ∀ x ∈ p1, x.block < W.heap.size := by obtain ⟨m, hm⟩ := k1; exact DataW.trod_lt m _ _ _ hm
  obtain ⟨z1, s1, b1⟩ : ∃ l, RL W (.slice a1 len1 cap1) l ∧ ∀ m ∈ l, ∀ x ∈ m, I64 x := by
    obtain ⟨fuel, hf⟩ := h1
    exact rl_of_open Try.underlying22 Try.underlying23 Try.underlying3 (by kernel_rfl) (by kernel_rfl) (by kernel_rfl) (by kernel_rfl) hf (fun elems spare hd => by subst hd; exact sized_rows hsz (j := 1) (t := 22) (e := 23) (q := 3) rfl rfl Try.underlying22 Try.underlying23)
  obtain ⟨a2, rfl, rfl, rfl, w2⟩ := open_int Try.underlying3 (hval 2 3 v2 rfl rfl) h2
  clear hA0 hval0 hsz hsz0
  refine (ccol_walk W a0 (I64.of_wf w0) _ z1 s1 b1 a2 (I64.of_wf w2)).mono fun e W' ⟨he, bel⟩ => ?_
  subst he
  exact ⟨_, rfl, _, _, _, [], _, [], hW', trodAll_mk1 (shut_bool Try.underlying4 _), (trodAll_cons_mk (shut_int Try.underlying3 w0) (trodAll_cons_mk (Below.trod laidOut (by kernel_rfl) (of_decide_eq_true (by kernel_rfl)) k1 bel lt1) (trodAll_cons_mk (shut_int Try.underlying3 w2) trodAll_mk0))), rfl, bel.frame _, fun h => by cases h⟩

theorem over : Rows.countColoursRow.holds Try.pinned (OpenSpec.ofChange Rows.countColoursSpec) :=
  OpenClaim.holds_of_wide 10 Try.f10 rfl rfl rfl rfl rfl rfl rfl ⟨rfl, rfl, rfl, rfl, rfl⟩ rfl rfl rfl rfl rfl (by kernel_rfl) Try.func10 (by kernel_rfl)
    (of_decide_eq_true (by kernel_rfl)) (by unfold Func.isWrapper; first | (rw [if_pos (by decide +kernel)]; kernel_rfl) | (rw [if_neg (by decide +kernel)]; exact ⟨rfl, rfl⟩))
    (fun os started H enc _ => lifted os started H enc)

/-- The statement. -/
theorem proved : Rows.CountColoursSaid := over
#print axioms proved
end Go.Proofs.Ytnbgnoimanpjnaa.countColours
