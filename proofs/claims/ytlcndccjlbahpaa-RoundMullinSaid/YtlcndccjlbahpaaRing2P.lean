/-
  Two rounds: what one comes to from the first team. No program in sight.
-/
import Derived.Test.YtlcndccjlbahpaaRchkP
import Derived.Test.YtlcndccjlbahpaaPm
namespace Go.Proofs.Ytlcndccjlbahpaa
set_option linter.unusedVariables false

/-- From a team to its other one by p, to that one's other one by q. -/
def sg (p q : Nat → Nat) (x : Nat) : Nat := q (p x)
section
variable {n : Nat} {p q : Nat → Nat}
theorem sg_pm (hp : Rnd n p) (hq : Rnd n q) : Pm n (sg p q) where
  lt := fun i hi => hq.lt _ (hp.lt i hi)
  inj := fun i j hi hj e => by
    have h1 : q (q (p i)) = q (q (p j)) := by rw [show q (p i) = q (p j) from e]
    rw [hq.back _ (hp.lt i hi), hq.back _ (hp.lt j hj)] at h1
    have h2 : p (p i) = p (p j) := by rw [h1]
    rwa [hp.back i hi, hp.back j hj] at h2
/-- Nobody is met on both ways round. -/
theorem xy_ne (hp : Rnd n p) (hq : Rnd n q) (h0 : 0 < n) : ∀ d i, it (sg p q) (i + d) 0 ≠ p (it (sg p q) i 0)
  | 0, i => fun e => hp.ne _ ((sg_pm hp hq).it_lt h0 i) e.symm
  | 1, i => fun e => hq.ne _ (hp.lt _ ((sg_pm hp hq).it_lt h0 i)) e
  | d + 2, i => fun e => by
    have hx := (sg_pm hp hq).it_lt h0
    have e1 : it (sg p q) (i + (d + 2)) 0 = q (p (it (sg p q) (i + 1 + d) 0)) := by rw [show i + (d + 2) = (i + 1 + d) + 1 by omega]; rfl
    rw [e1] at e
    have e2 : q (q (p (it (sg p q) (i + 1 + d) 0))) = q (p (it (sg p q) i 0)) := by rw [e]
    rw [hq.back _ (hp.lt _ (hx _))] at e2
    have e3 : p (p (it (sg p q) (i + 1 + d) 0)) = p (it (sg p q) (i + 1) 0) := by rw [e2]; rfl
    rw [hp.back _ (hx _)] at e3
    exact xy_ne hp hq h0 d (i + 1) e3
theorem xy_apart (hp : Rnd n p) (hq : Rnd n q) (h0 : 0 < n) (i j : Nat) : it (sg p q) i 0 ≠ p (it (sg p q) j 0) := by
  rcases Nat.le_total j i with h | h
  · have := xy_ne hp hq h0 (i - j) j
    rwa [show j + (i - j) = i by omega] at this
  · intro e
    have hx := (sg_pm hp hq).it_lt h0
    have := xy_ne hp hq h0 (j - i) i
    rw [show i + (j - i) = j by omega] at this
    refine this ?_
    rw [e, hp.back _ (hx j)]
def ringL (p q : Nat → Nat) (n : Nat) : List Nat := orb (sg p q) (per (sg p q) n 0) 0 ++ (orb (sg p q) (per (sg p q) n 0) 0).map p
theorem ring_len : (ringL p q n).length = 2 * per (sg p q) n 0 := by simp [ringL, orb_len]; omega
theorem ring_nodup (hp : Rnd n p) (hq : Rnd n q) (h0 : 0 < n) : (ringL p q n).Nodup := by
  have P := sg_pm hp hq
  have h1 := P.orb_nodup h0
  refine List.nodup_append.2 ⟨h1, ?_, ?_⟩
  · rw [List.Nodup, List.pairwise_map]
    refine h1.imp_of_mem ?_
    intro a b ha hb hab e
    have h2 : p (p a) = p (p b) := by rw [e]
    rw [hp.back _ (P.orb_lt h0 a ha), hp.back _ (P.orb_lt h0 b hb)] at h2
    exact hab h2
  · intro a ha b hb e
    rw [List.mem_map] at hb
    obtain ⟨c, hc, rfl⟩ := hb
    obtain ⟨k, rfl⟩ := (P.mem_orb h0).1 ha
    obtain ⟨m, rfl⟩ := (P.mem_orb h0).1 hc
    exact xy_apart hp hq h0 k m e
theorem ring_lt (hp : Rnd n p) (hq : Rnd n q) (h0 : 0 < n) : ∀ x ∈ ringL p q n, x < n := by
  have P := sg_pm hp hq
  intro x hx
  rcases List.mem_append.1 hx with h | h
  · exact P.orb_lt h0 x h
  · obtain ⟨c, hc, rfl⟩ := List.mem_map.1 h
    exact hp.lt _ (P.orb_lt h0 c hc)
theorem ring_p (hp : Rnd n p) (hq : Rnd n q) (h0 : 0 < n) {x : Nat} (hx : x ∈ ringL p q n) : p x ∈ ringL p q n := by
  have P := sg_pm hp hq
  rcases List.mem_append.1 hx with h | h
  · exact List.mem_append.2 (.inr (List.mem_map.2 ⟨x, h, rfl⟩))
  · obtain ⟨c, hc, rfl⟩ := List.mem_map.1 h
    rw [hp.back _ (P.orb_lt h0 c hc)]
    exact List.mem_append.2 (.inl hc)
theorem ring_q (hp : Rnd n p) (hq : Rnd n q) (h0 : 0 < n) {x : Nat} (hx : x ∈ ringL p q n) : q x ∈ ringL p q n := by
  have P := sg_pm hp hq
  rcases List.mem_append.1 hx with h | h
  · obtain ⟨k, rfl⟩ := (P.mem_orb h0).1 h
    obtain ⟨h1, h2, _⟩ := P.per_spec h0
    -- the one before it
    have h3 : ∃ m, it (sg p q) k 0 = it (sg p q) (m + 1) 0 := by
      rcases k with _ | m
      · exact ⟨per (sg p q) n 0 - 1, by rw [show per (sg p q) n 0 - 1 + 1 = per (sg p q) n 0 by omega, h1]; rfl⟩
      · exact ⟨m, rfl⟩
    obtain ⟨m, hm⟩ := h3
    rw [hm]
    have : q (it (sg p q) (m + 1) 0) = p (it (sg p q) m 0) := hq.back _ (hp.lt _ (P.it_lt h0 m))
    rw [this]
    exact List.mem_append.2 (.inr (List.mem_map.2 ⟨_, (P.mem_orb h0).2 ⟨m, rfl⟩, rfl⟩))
  · obtain ⟨c, hc, rfl⟩ := List.mem_map.1 h
    obtain ⟨k, rfl⟩ := (P.mem_orb h0).1 hc
    exact List.mem_append.2 (.inl ((P.mem_orb h0).2 ⟨k + 1, rfl⟩))
theorem ring_zero (hp : Rnd n p) (hq : Rnd n q) (h0 : 0 < n) : 0 ∈ ringL p q n := List.mem_append.2 (.inl (((sg_pm hp hq).mem_orb h0).2 ⟨0, rfl⟩))
/-- Whatever has the first team, and with each one its other ones, has the ring. -/
theorem ring_least (hp : Rnd n p) (hq : Rnd n q) (h0 : 0 < n) {T : Nat → Bool} (h1 : T 0 = true) (h2 : ∀ x, x < n → T (p x) = true → T x = true) (h3 : ∀ x, x < n → T (q x) = true → T x = true) : ∀ x ∈ ringL p q n, T x = true := by
  have P := sg_pm hp hq
  have g2 : ∀ x, x < n → T x = true → T (p x) = true := fun x hx h => h2 _ (hp.lt x hx) (by rw [hp.back x hx]; exact h)
  have g3 : ∀ x, x < n → T x = true → T (q x) = true := fun x hx h => h3 _ (hq.lt x hx) (by rw [hq.back x hx]; exact h)
  have hk : ∀ k, T (it (sg p q) k 0) = true := by
    intro k
    induction k with
    | zero => exact h1
    | succ k ih => exact g3 _ (hp.lt _ (P.it_lt h0 k)) (g2 _ (P.it_lt h0 k) ih)
  intro x hx
  rcases List.mem_append.1 hx with h | h
  · obtain ⟨k, rfl⟩ := (P.mem_orb h0).1 h
    exact hk k
  · obtain ⟨c, hc, rfl⟩ := List.mem_map.1 h
    obtain ⟨k, rfl⟩ := (P.mem_orb h0).1 hc
    exact g2 _ (P.it_lt h0 k) (hk k)
/-- How many are marked. -/
def mk (n : Nat) (T : Nat → Bool) : Nat := ((List.range n).filter T).length
theorem mk_le (n : Nat) (T : Nat → Bool) : mk n T ≤ n := by
  have := List.length_filter_le T (List.range n)
  simpa [mk] using this
theorem mk_one {n x : Nat} {T : Nat → Bool} (hx : x < n) (h : T x = false) : mk n (fun y => y == x || T y) = mk n T + 1 := by
  have : ∀ m, ((List.range m).filter (fun y => y == x || T y)).length = ((List.range m).filter T).length + if x < m then 1 else 0 := by
    intro m
    induction m with
    | zero => simp
    | succ m ih =>
      rw [List.range_succ, List.filter_append, List.filter_append, List.length_append, List.length_append, ih]
      by_cases e : m = x
      · subst e
        simp [h]
      · have e2 : (m == x) = false := by simpa using e
        have e3 : (if x < m + 1 then 1 else 0) = if x < m then 1 else 0 := by
          by_cases h1 : x < m
          · rw [if_pos h1, if_pos (show x < m + 1 by omega)]
          · rw [if_neg h1, if_neg (show ¬ x < m + 1 by omega)]
        rw [e3]
        simp only [List.filter_cons, e2, Bool.false_or, List.filter_nil]
        generalize (if x < m then 1 else 0) = z
        omega
  unfold mk
  rw [this n, if_pos hx]
theorem mk_ring (hp : Rnd n p) (hq : Rnd n q) (h0 : 0 < n) {T : Nat → Bool} (h : ∀ x, x < n → T x = true → x ∈ ringL p q n) (h1 : T 0 = true) (h2 : ∀ x, x < n → T (p x) = true → T x = true) (h3 : ∀ x, x < n → T (q x) = true → T x = true) : mk n T = 2 * per (sg p q) n 0 := by
  have hl := ring_least hp hq h0 h1 h2 h3
  have a1 := nodup_sub (A := (List.range n).filter T) (B := ringL p q n) (List.nodup_range.filter _) (fun x hx => by
    rw [List.mem_filter, List.mem_range] at hx
    exact h x hx.1 hx.2)
  have a2 := nodup_sub (A := ringL p q n) (B := (List.range n).filter T) (ring_nodup hp hq h0) (fun x hx => List.mem_filter.2 ⟨List.mem_range.2 (ring_lt hp hq h0 x hx), hl x hx⟩)
  rw [ring_len] at a1 a2
  unfold mk
  omega
end
/-- Marks, as values. -/
def bolL (m : Nat) (f : Nat → Bool) : List Value := (List.range m).map fun x => .bool (f x)
theorem bolL_len (m : Nat) (f : Nat → Bool) : (bolL m f).length = m := by simp [bolL]
theorem bolL_get {m : Nat} {f : Nat → Bool} {c : Nat} (h : c < m) : (bolL m f)[c]? = some (.bool (f c)) := by simp [bolL, h]
theorem bolL_set {m : Nat} {f : Nat → Bool} {c : Nat} (h : c < m) : (bolL m f).set c (.bool true) = bolL m (fun x => x == c || f x) := by
  refine List.ext_getElem? fun i => ?_
  by_cases e : c = i
  · subst e
    rw [List.getElem?_set_self (by rw [bolL_len]; exact h), bolL_get h]
    simp
  · rw [List.getElem?_set_ne e]
    by_cases hi : i < m
    · rw [bolL_get hi, bolL_get hi]
      have : (i == c) = false := by simpa using fun e2 => e e2.symm
      rw [this, Bool.false_or]
    · simp [bolL, hi]
theorem bolL_none (m : Nat) : List.replicate m (Value.bool false) = bolL m (fun _ => false) := by
  refine List.ext_getElem? fun i => ?_
  by_cases hi : i < m
  · rw [bolL_get hi]; simp [hi]
  · simp [bolL, hi]
end Go.Proofs.Ytlcndccjlbahpaa
