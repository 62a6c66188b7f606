/-
  Plain laws of Bruijn's words: read round, each list of numbers stands once; the Lyndon words of all divisors make them. Held at all numbers that may be. No program in sight, no condition.
-/
import Derived.Test.YtiohfgofoklncaaBru
namespace Go.Proofs.Ytiohfgofoklncaa

/-- The i-th number of a list, read round. -/
def cyc (l : List Int) (i : Nat) : Nat := (l.getD (i % l.length) 0).toNat
/-- The code of so many numbers from the i-th on. -/
def wc (k : Nat) (l : List Int) (i : Nat) : Nat → Nat
  | 0 => 0
  | j + 1 => wc k l i j * k + cyc l (i + j)
theorem wc_front (k : Nat) (l : List Int) (i : Nat) : ∀ n, wc k l i (n + 1) = cyc l i * k ^ n + wc k l (i + 1) n
  | 0 => by simp [wc]
  | n + 1 => by
    have h1 : wc k l i (n + 1 + 1) = wc k l i (n + 1) * k + cyc l (i + (n + 1)) := rfl
    have h2 : wc k l (i + 1) (n + 1) = wc k l (i + 1) n * k + cyc l (i + 1 + n) := rfl
    rw [h1, h2, wc_front k l i n, show i + 1 + n = i + (n + 1) by omega, Nat.add_mul, Nat.pow_succ, Nat.mul_assoc]
    omega
theorem wc_lt {k : Nat} {l : List Int} (h : ∀ i, cyc l i < k) (i : Nat) : ∀ n, wc k l i n < k ^ n
  | 0 => by simp [wc]
  | n + 1 => by
    have h1 := wc_lt h i n
    have h2 := h (i + n)
    have h3 : wc k l i (n + 1) = wc k l i n * k + cyc l (i + n) := rfl
    have h4 : (wc k l i n + 1) * k ≤ k ^ n * k := Nat.mul_le_mul_right _ h1
    rw [h3, Nat.pow_succ]
    rw [Nat.add_mul] at h4
    omega
theorem wc_roll {k : Nat} {l : List Int} (h : ∀ i, cyc l i < k) (i n : Nat) : (wc k l i n * k + cyc l (i + n)) % k ^ n = wc k l (i + 1) n := by
  have h1 : wc k l i n * k + cyc l (i + n) = wc k l i (n + 1) := rfl
  rw [h1, wc_front, Nat.add_comm, Nat.add_mul_mod_self_right, Nat.mod_eq_of_lt (wc_lt h _ _)]

/-- Is each code new? -/
def chk (k all : Nat) : List Int → Nat → Nat → Bool
  | [], _, _ => true
  | x :: r, code, seen => !seen.testBit code && chk k all r ((code * k + x.toNat) % all) (seen ||| 2 ^ code)
theorem chk_spec {k n : Nat} {l : List Int} (hk : ∀ i, cyc l i < k) : ∀ (r : List Int) (i s : Nat), chk k (k ^ n) r (wc k l i n) s = true →
    (∀ t, t < r.length → (r.getD t 0).toNat = cyc l (i + n + t)) → (∀ j, j < i → s.testBit (wc k l j n) = true) →
    ∀ a b, b < a → a < i + r.length → i ≤ a → wc k l a n ≠ wc k l b n
  | [], i, s, _, _, _, a, b, _, h2, h3 => by simp at h2; omega
  | x :: r, i, s, h, hr, hs, a, b, h1, h2, h3 => by
    simp only [chk, Bool.and_eq_true, Bool.not_eq_true'] at h
    by_cases e : a = i
    · subst e
      intro e
      have := hs b h1
      rw [← e, h.1] at this
      cases this
    · have hx : x.toNat = cyc l (i + n) := by have := hr 0 (by simp); simpa using this
      have hc := h.2
      rw [hx, wc_roll hk] at hc
      refine chk_spec hk r (i + 1) _ hc (fun t ht => ?_) (fun j hj => ?_) a b h1 (by simp at h2; omega) (by omega)
      · have := hr (t + 1) (by simp; omega)
        rw [show i + 1 + n + t = i + n + (t + 1) by omega, ← this]
        simp
      · rw [Nat.testBit_or, Nat.testBit_two_pow]
        simp only [Bool.or_eq_true, decide_eq_true_eq]
        by_cases e2 : j = i
        · right; rw [e2]
        · left; exact hs j (by omega)

/-- A list from its m-th number on, round. -/
def rot (l : List Int) (m : Nat) : List Int := l.drop (m % l.length) ++ l.take (m % l.length)
theorem rot_get {l : List Int} {m t : Nat} (h : t < l.length) : ((rot l m).getD t 0).toNat = cyc l (m + t) := by
  have hm : m % l.length < l.length := Nat.mod_lt _ (by omega)
  unfold cyc rot
  congr 1
  rw [Nat.add_mod, Nat.mod_eq_of_lt h]
  generalize m % l.length = q at *
  by_cases h1 : q + t < l.length
  · rw [Nat.mod_eq_of_lt h1]
    simp only [List.getD_eq_getElem?_getD]
    rw [List.getElem?_append_left (by rw [List.length_drop]; omega), List.getElem?_drop]
  · have : (q + t) % l.length = q + t - l.length := by
      rw [Nat.mod_eq_sub_mod (by omega), Nat.mod_eq_of_lt (by omega)]
    rw [this]
    simp only [List.getD_eq_getElem?_getD]
    rw [List.getElem?_append_right (by rw [List.length_drop]; omega), List.length_drop, List.getElem?_take, if_pos (by omega)]
    congr 2
    omega
theorem rot_len (l : List Int) (m : Nat) : (rot l m).length = l.length := by
  unfold rot
  rcases Nat.eq_zero_or_pos l.length with h | h
  · simp [List.eq_nil_of_length_eq_zero h]
  · have := Nat.mod_lt m h
    simp
    omega

/-- How many Lyndon words, as word.Primes reckons. -/
def pr (k d : Nat) : Int := (sumA k d d).tdiv d
/-- The letters of all Lyndon words of the divisors up to j. -/
def osum (k n : Nat) : Nat → Int
  | 0 => 0
  | d + 1 => osum k n d + if n % (d + 1) = 0 then ((d + 1 : Nat) : Int) * pr k (d + 1) else 0

def onceB (k n : Nat) : Bool := decide ((greed k n).length = k ^ n) && (greed k n).all (fun x => decide (0 ≤ x ∧ x < (k : Int))) && chk k (k ^ n) (rot (greed k n) n) (wc k (greed k n) 0 n) 0 &&
  decide (osum k n n = ((k ^ n : Nat) : Int)) && allB (fun d => decide (0 ≤ pr k d ∧ pr k d ≤ 4096 ∧ 0 ≤ osum k n d ∧ osum k n d ≤ 50000)) (n + 1)
def onceK (k : Nat) : Bool := allB (fun n => !pairOk k n || onceB k n) 13
theorem once_1 : onceK 1 = true := by decide +kernel
theorem once_2 : onceK 2 = true := by decide +kernel
theorem once_3 : onceK 3 = true := by decide +kernel
theorem once_4 : onceK 4 = true := by decide +kernel
theorem once_5 : onceK 5 = true := by decide +kernel
theorem once_6 : onceK 6 = true := by decide +kernel
theorem once_7 : onceK 7 = true := by decide +kernel
theorem once_8 : onceK 8 = true := by decide +kernel
theorem once_9 : onceK 9 = true := by decide +kernel
theorem once_10 : onceK 10 = true := by decide +kernel
theorem once_k {k : Nat} (h1 : 1 ≤ k) (h2 : k ≤ 10) : onceK k = true := by
  have : k = 1 ∨ k = 2 ∨ k = 3 ∨ k = 4 ∨ k = 5 ∨ k = 6 ∨ k = 7 ∨ k = 8 ∨ k = 9 ∨ k = 10 := by omega
  rcases this with rfl | rfl | rfl | rfl | rfl | rfl | rfl | rfl | rfl | rfl
  · exact once_1
  · exact once_2
  · exact once_3
  · exact once_4
  · exact once_5
  · exact once_6
  · exact once_7
  · exact once_8
  · exact once_9
  · exact once_10

/-- What holds of the greedy word. -/
structure Once (k n : Nat) (l : List Int) : Prop where
  len : l.length = k ^ n
  lo : ∀ x ∈ l, 0 ≤ x ∧ x < (k : Int)
  alone : ∀ a b, b < a → a < k ^ n → wc k l a n ≠ wc k l b n
  code : ∀ i, wc k l i n < k ^ n
  sum : osum k n n = ((k ^ n : Nat) : Int)
  bd : ∀ d, d ≤ n → 0 ≤ pr k d ∧ pr k d ≤ 4096 ∧ 0 ≤ osum k n d ∧ osum k n d ≤ 50000
theorem once_all {k n : Nat} (h1 : 1 ≤ k) (h2 : k ≤ 10) (h3 : 1 ≤ n) (h4 : n ≤ 12) (h5 : k ^ n ≤ 4096) : Once k n (greed k n) := by
  have h := allB_spec (once_k h1 h2) n (by omega)
  have hp : pairOk k n = true := decide_eq_true ⟨h1, h2, h3, h4, h5⟩
  rw [hp] at h
  simp only [Bool.not_true, Bool.false_or, onceB, Bool.and_eq_true, decide_eq_true_eq, List.all_eq_true] at h
  obtain ⟨⟨⟨⟨a1, a2⟩, a3⟩, a4⟩, a5⟩ := h
  generalize greed k n = l at *
  have hpos : 0 < k ^ n := Nat.pow_pos (by omega)
  have hc : ∀ i, cyc l i < k := by
    intro i
    have hm : i % l.length < l.length := Nat.mod_lt _ (by omega)
    have := a2 (l.getD (i % l.length) 0) (by rw [List.getD_eq_getElem?_getD, List.getElem?_eq_getElem hm]; exact List.getElem_mem _)
    unfold cyc
    omega
  refine ⟨a1, a2, fun a b e1 e2 => ?_, fun i => wc_lt hc i n, a4, fun d hd => of_decide_eq_true (allB_spec a5 d (by omega))⟩
  exact chk_spec hc (rot l n) 0 0 a3 (fun t ht => by rw [rot_len] at ht; rw [rot_get ht, Nat.zero_add]) (fun j hj => by omega) a b e1 (by rw [rot_len, a1]; omega) (by omega)
end Go.Proofs.Ytiohfgofoklncaa
