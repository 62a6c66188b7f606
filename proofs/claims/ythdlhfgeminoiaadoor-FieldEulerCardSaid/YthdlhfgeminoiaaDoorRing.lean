/-
  Plain laws of rings: the sum over all turns is the sum over all periods of what Moebius' sums leave; Fermat's theorem below 60. No program in sight; conditions as each law states.
-/
import Derived.Test.YthdlhfgeminoiaaDoorMob
namespace Go.Proofs.YthdlhfgeminoiaaDoor
set_option linter.unusedVariables false

/-- Sums of powers: factors and exponents. -/
def ev (k : Nat) : List (Int × Nat) → Int
  | [] => 0
  | p :: l => p.1 * ((k ^ p.2 : Nat) : Int) + ev k l
def co : List (Int × Nat) → Nat → Int
  | [], _ => 0
  | p :: l, e => (if p.2 = e then p.1 else 0) + co l e
def evc (k : Nat) (f : Nat → Int) : Nat → Int
  | 0 => 0
  | m + 1 => evc k f m + f m * ((k ^ m : Nat) : Int)
theorem evc_add (k : Nat) (f g : Nat → Int) : ∀ m, evc k (fun e => f e + g e) m = evc k f m + evc k g m
  | 0 => by simp [evc]
  | m + 1 => by simp only [evc]; rw [evc_add k f g m, Int.add_mul]; omega
theorem evc_one (k : Nat) (a : Nat) (c : Int) : ∀ m, evc k (fun e => if a = e then c else 0) m = if a < m then c * ((k ^ a : Nat) : Int) else 0
  | 0 => by simp [evc]
  | m + 1 => by
    simp only [evc]
    rw [evc_one k a c m]
    by_cases h : a = m
    · subst h; rw [if_neg (by omega), if_pos rfl, if_pos (by omega)]; omega
    · rw [if_neg h, Int.zero_mul, Int.add_zero]
      by_cases h2 : a < m
      · rw [if_pos h2, if_pos (by omega)]
      · rw [if_neg h2, if_neg (by omega)]
theorem ev_co (k m : Nat) : ∀ (l : List (Int × Nat)), l.all (fun p => decide (p.2 < m)) = true → ev k l = evc k (co l) m
  | [], _ => by
    have : ∀ m, evc k (co []) m = 0 := fun m => by
      induction m with
      | zero => rfl
      | succ m ih => change evc k (co []) m + 0 * _ = 0; rw [ih]; simp
    rw [this]; rfl
  | p :: l, h => by
    simp only [List.all_cons, Bool.and_eq_true, decide_eq_true_eq] at h
    have e : co (p :: l) = fun e => (if p.2 = e then p.1 else 0) + co l e := rfl
    rw [e, evc_add, evc_one, if_pos h.1, ← ev_co k m l h.2]
    rfl
theorem evc_congr (k : Nat) (f g : Nat → Int) : ∀ m, (∀ e, e < m → f e = g e) → evc k f m = evc k g m
  | 0, _ => rfl
  | m + 1, h => by simp only [evc]; rw [evc_congr k f g m (fun e he => h e (by omega)), h m (by omega)]
def sameB (a b : List (Int × Nat)) : Bool := a.all (fun p => decide (p.2 < 61)) && b.all (fun p => decide (p.2 < 61)) && allB (fun e => decide (co a e = co b e)) 61
theorem ev_same (k : Nat) {a b : List (Int × Nat)} (h : sameB a b = true) : ev k a = ev k b := by
  simp only [sameB, Bool.and_eq_true] at h
  rw [ev_co k 61 a h.1.1, ev_co k 61 b h.1.2]
  exact evc_congr k _ _ 61 fun e he => of_decide_eq_true (allB_spec h.2 e he)
theorem ev_app (k : Nat) : ∀ (a b : List (Int × Nat)), ev k (a ++ b) = ev k a + ev k b
  | [], b => by simp [ev]
  | p :: a, b => by simp only [List.cons_append, ev]; rw [ev_app k a b]; omega

/-- count.turned, turn by turn. -/
def turnS (k n : Nat) : Nat → Nat
  | 0 => 0
  | t + 1 => turnS k n t + k ^ Nat.gcd n t
def turnL (n : Nat) : Nat → List (Int × Nat)
  | 0 => []
  | t + 1 => turnL n t ++ [(1, Nat.gcd n t)]
theorem turn_ev (k n : Nat) : ∀ t, ev k (turnL n t) = (turnS k n t : Int)
  | 0 => rfl
  | t + 1 => by simp only [turnL, turnS]; rw [ev_app, turn_ev k n t]; simp [ev]
def sumL (n : Nat) : Nat → List (Int × Nat)
  | 0 => []
  | j + 1 => sumL n j ++ if n % (j + 1) = 0 then [(mu (n / (j + 1)), j + 1)] else []
theorem sum_ev (k n : Nat) : ∀ j, ev k (sumL n j) = sumB k n j
  | 0 => rfl
  | j + 1 => by
    simp only [sumL, sumB]
    rw [ev_app, sum_ev k n j]
    split <;> simp [ev]
theorem ev_mul (k : Nat) (c : Int) : ∀ (l : List (Int × Nat)), ev k (l.map fun p => (c * p.1, p.2)) = c * ev k l
  | [] => by simp [ev]
  | p :: l => by simp only [List.map_cons, ev]; rw [ev_mul k c l, Int.mul_add, Int.mul_assoc]

/-- All periods: n / d times what Moebius' sum for d is. -/
def wholeL (n : Nat) : Nat → List (Int × Nat)
  | 0 => []
  | d + 1 => wholeL n d ++ if n % (d + 1) = 0 then (sumL (d + 1) (d + 1)).map (fun p => (((n / (d + 1) : Nat) : Int) * p.1, p.2)) else []
def wholeS (k n : Nat) : Nat → Int
  | 0 => 0
  | d + 1 => wholeS k n d + if n % (d + 1) = 0 then ((n / (d + 1) : Nat) : Int) * sumB k (d + 1) (d + 1) else 0
theorem whole_ev (k n : Nat) : ∀ d, ev k (wholeL n d) = wholeS k n d
  | 0 => rfl
  | d + 1 => by
    simp only [wholeL, wholeS]
    rw [ev_app, whole_ev k n d]
    split
    · rw [ev_mul, sum_ev]
    · simp [ev]
theorem whole_all : allB (fun n => sameB (turnL n n) (wholeL n n)) 61 = true := by decide +kernel
theorem turn_whole (k n : Nat) (h : n < 61) : (turnS k n n : Int) = wholeS k n n := by
  rw [← turn_ev, ← whole_ev]
  exact ev_same k (allB_spec whole_all n h)

/-- parterreref1.BeadsOf, period by period. -/
def bsum (k n : Nat) : Nat → Int
  | 0 => 0
  | d + 1 => bsum k n d + if n % (d + 1) = 0 then (sumB k (d + 1) (d + 1)).tdiv ((d + 1 : Nat) : Int) else 0

theorem pow_mod_cast (k m e : Nat) : ((k ^ e : Nat) : Int) % (m : Int) = (((k % m) ^ e : Nat) : Int) % (m : Int) := by
  rw [← Int.natCast_emod, ← Int.natCast_emod, Nat.pow_mod]
theorem sumB_mod (k m d : Nat) : ∀ j, sumB k d j % (m : Int) = sumB (k % m) d j % (m : Int)
  | 0 => rfl
  | j + 1 => by
    simp only [sumB]
    rw [Int.add_emod, sumB_mod k m d j]
    conv => rhs; rw [Int.add_emod]
    split
    · rw [Int.mul_emod, pow_mod_cast, ← Int.mul_emod]
    · rfl
theorem dvd_all : allB (fun d => allB (fun r => decide (sumB r (d + 1) (d + 1) % ((d + 1 : Nat) : Int) = 0)) (d + 1)) 60 = true := by decide +kernel
theorem sumB_dvd (k : Nat) {d : Nat} (h1 : 1 ≤ d) (h2 : d < 61) : sumB k d d % (d : Int) = 0 := by
  rw [sumB_mod]
  have := of_decide_eq_true (allB_spec (allB_spec dvd_all (d - 1) (by omega)) (k % d) (by have := Nat.mod_lt k (show 0 < d by omega); omega))
  rwa [show d - 1 + 1 = d by omega] at this
theorem sumB_q (k : Nat) {d : Nat} (h1 : 1 ≤ d) (h2 : d < 61) : sumB k d d = (d : Int) * (sumB k d d).tdiv (d : Int) := by
  have h := sumB_dvd k h1 h2
  have hd := Int.dvd_of_emod_eq_zero h
  rw [Int.mul_tdiv_cancel' hd]
theorem bsum_whole (k n : Nat) (hn : n < 61) : ∀ j, j ≤ n → (n : Int) * bsum k n j = wholeS k n j
  | 0, _ => by simp [bsum, wholeS]
  | d + 1, hj => by
    simp only [bsum, wholeS]
    rw [Int.mul_add, bsum_whole k n hn d (by omega)]
    split
    · rename_i h
      have hq := sumB_q k (d := d + 1) (by omega) (by omega)
      have hnd : n = (n / (d + 1)) * (d + 1) := by
        have := Nat.div_add_mod n (d + 1)
        rw [h, Nat.add_zero, Nat.mul_comm] at this
        exact this.symm
      generalize (sumB k (d + 1) (d + 1)).tdiv ((d + 1 : Nat) : Int) = q at *
      rw [hq, ← Int.mul_assoc, ← Int.natCast_mul, ← hnd]
    · simp
theorem turn_bsum (k n : Nat) (hn : n < 61) : (turnS k n n : Int) = (n : Int) * bsum k n n := by
  rw [turn_whole k n hn, bsum_whole k n hn n (Nat.le_refl _)]

/-- Bounds. -/
theorem gcd_half {n t : Nat} (h1 : 1 ≤ t) (h2 : t < n) : Nat.gcd n t ≤ n / 2 := by
  have hd := Nat.gcd_dvd_left n t
  have hl := Nat.gcd_le_right n (show 0 < t by omega)
  obtain ⟨c, hc⟩ := hd
  generalize Nat.gcd n t = g at *
  have hc2 : 2 ≤ c := by
    rcases Nat.lt_or_ge c 2 with h | h
    · exfalso
      have : c = 0 ∨ c = 1 := by omega
      rcases this with rfl | rfl <;> omega
    · exact h
  have : g * 2 ≤ g * c := Nat.mul_le_mul_left _ hc2
  omega
theorem turn_bd {k n : Nat} (hk : 1 ≤ k) (h : k ^ n ≤ 1000000000000000000) : ∀ t, t ≤ n → turnS k n t ≤ 1000000000000000000 + t * 1000000000
  | 0, _ => by simp [turnS]
  | t + 1, ht => by
    have ih := turn_bd hk h t (by omega)
    simp only [turnS]
    rcases Nat.eq_zero_or_pos t with h0 | h0
    · subst h0
      simp only [Nat.gcd_zero_right, turnS]
      omega
    · have h3 := pow_half (k := k) (n := n) (d := 2) (by omega) hk h
      have h4 : k ^ Nat.gcd n t ≤ k ^ (n / 2) := Nat.pow_le_pow_right hk (gcd_half h0 (by omega))
      omega
theorem fits60 {k n : Nat} (hk : 2 ≤ k) (h : k ^ n ≤ 1000000000000000000) : n < 60 := by
  rcases Nat.lt_or_ge n 60 with h1 | h1
  · exact h1
  · exfalso
    have h2 : 2 ^ n ≤ k ^ n := Nat.pow_le_pow_left hk n
    have h3 : 2 ^ 60 ≤ 2 ^ n := Nat.pow_le_pow_right (by decide) h1
    have : (2 : Nat) ^ 60 = 1152921504606846976 := by decide
    omega
theorem sumB_small {k d b : Nat} (hk : 1 ≤ k) (hd : d < 61) (h : k ^ d ≤ b) : ∀ j, j ≤ d → -((j * b : Nat) : Int) ≤ sumB k d j ∧ sumB k d j ≤ ((j * b : Nat) : Int)
  | 0, _ => by simp [sumB]
  | j + 1, hj => by
    have ih := sumB_small hk hd h j (by omega)
    simp only [sumB]
    rw [Nat.add_mul, Nat.one_mul]
    split
    · have hq : 1 ≤ d / (j + 1) := by rw [Nat.le_div_iff_mul_le (by omega)]; omega
      have hq2 : d / (j + 1) ≤ d := Nat.div_le_self _ _
      have hm := mu_bd (d := d / (j + 1)) hq (by omega)
      have h5 : k ^ (j + 1) ≤ k ^ d := Nat.pow_le_pow_right hk hj
      have := mul_mu (p := k ^ (j + 1)) hm.1 hm.2 (Nat.le_trans h5 h)
      omega
    · omega
theorem tdiv_bd {s d b : Int} (hd : 1 ≤ d) (h1 : -(d * b) ≤ s) (h2 : s ≤ d * b) (hq : s = d * s.tdiv d) : -b ≤ s.tdiv d ∧ s.tdiv d ≤ b := by
  generalize s.tdiv d = q at *
  subst hq
  constructor
  · rcases Int.lt_or_le q (-b) with h | h
    · exfalso
      have : d * q < d * -b := Int.mul_lt_mul_of_pos_left h (by omega)
      rw [Int.mul_neg] at this
      omega
    · exact h
  · rcases Int.lt_or_le b q with h | h
    · exfalso
      have : d * b < d * q := Int.mul_lt_mul_of_pos_left h (by omega)
      omega
    · exact h
theorem div_half {n d : Nat} (h0 : 1 ≤ d) (h1 : d < n) (h : n % d = 0) : ∃ q, 2 ≤ q ∧ d = n / q := by
  refine ⟨n / d, ?_, ?_⟩
  · rcases Nat.lt_or_ge (n / d) 2 with h2 | h2
    · exfalso
      have h3 := Nat.div_add_mod n d
      rw [h] at h3
      generalize n / d = q at *
      have : q = 0 ∨ q = 1 := by omega
      rcases this with rfl | rfl <;> omega
    · exact h2
  · have h4 := Nat.div_add_mod n d
    rw [h, Nat.add_zero] at h4
    have hq : 0 < n / d := Nat.div_pos (by omega) (by omega)
    generalize n / d = q at *
    rw [← h4, Nat.mul_div_cancel _ hq]
theorem term_bd {k n d : Nat} (hk : 1 ≤ k) (hn : n < 61) (h : k ^ n ≤ 1000000000000000000) (h1 : 1 ≤ d) (h2 : d < n) (hd : n % d = 0) : -1000000000 ≤ (sumB k d d).tdiv (d : Int) ∧ (sumB k d d).tdiv (d : Int) ≤ 1000000000 := by
  obtain ⟨q, hq, e⟩ := div_half h1 h2 hd
  have hp : k ^ d ≤ 1000000000 := by rw [e]; exact pow_half hq hk h
  have hs := sumB_small hk (show d < 61 by omega) hp d (Nat.le_refl _)
  rw [Int.natCast_mul] at hs
  exact tdiv_bd (by omega) hs.1 hs.2 (sumB_q k h1 (by omega))
theorem bsum_bd {k n : Nat} (hk : 1 ≤ k) (hn : n < 61) (h : k ^ n ≤ 1000000000000000000) : ∀ j, j < n → -((j : Int) * 1000000000) ≤ bsum k n j ∧ bsum k n j ≤ (j : Int) * 1000000000
  | 0, _ => by simp [bsum]
  | d + 1, hj => by
    have ih := bsum_bd hk hn h d (by omega)
    simp only [bsum]
    split
    · rename_i hd
      have := term_bd hk hn h (d := d + 1) (by omega) hj hd
      omega
    · omega
theorem last_bd {k n : Nat} (hk : 1 ≤ k) (h0 : 1 ≤ n) (hn : n < 61) (h : k ^ n ≤ 1000000000000000000) : -1000000000000000000 ≤ (sumB k n n).tdiv (n : Int) ∧ (sumB k n n).tdiv (n : Int) ≤ 1000000000000000000 := by
  have hs := sumB_small hk hn h n (Nat.le_refl _)
  rw [Int.natCast_mul] at hs
  exact tdiv_bd (by omega) hs.1 hs.2 (sumB_q k h0 hn)
theorem any_bd {k n d : Nat} (hk : 1 ≤ k) (hn : n < 61) (h : k ^ n ≤ 1000000000000000000) (h1 : 1 ≤ d) (h2 : d ≤ n) (hd : n % d = 0) : -1000000000000000000 ≤ (sumB k d d).tdiv (d : Int) ∧ (sumB k d d).tdiv (d : Int) ≤ 1000000000000000000 := by
  by_cases e : d = n
  · subst e; exact last_bd hk h1 hn h
  · have := term_bd hk hn h h1 (by omega) hd
    omega

/-- Is it a prime number, up to 100000? -/
def primeB (n : Nat) : Bool := decide (2 ≤ n ∧ n ≤ 100000) && allB (fun d => decide (d < 2) || decide (n < d * d) || decide (n % d ≠ 0)) 317
theorem allB_mk {f : Nat → Bool} : ∀ {n : Nat}, (∀ x, x < n → f x = true) → allB f n = true
  | 0, _ => rfl
  | n + 1, h => by simp only [allB]; rw [h n (by omega), allB_mk fun x hx => h x (by omega)]; rfl
theorem prime_no {n d : Nat} (h1 : 2 ≤ d) (h2 : d * d ≤ n) (h3 : n % d = 0) : primeB n = false := by
  rcases Nat.lt_or_ge 100000 n with h | h
  · simp [primeB]; omega
  · have hd : d < 317 := by
      rcases Nat.lt_or_ge d 317 with h4 | h4
      · exact h4
      · have := Nat.mul_le_mul h4 h4
        omega
    cases hb : primeB n with
    | false => rfl
    | true =>
      simp only [primeB, Bool.and_eq_true] at hb
      have := allB_spec hb.2 d hd
      simp only [Bool.or_eq_true, decide_eq_true_eq] at this
      omega
theorem prime_yes {n d : Nat} (h0 : 2 ≤ n) (h1 : n ≤ 100000) (h : n < d * d) (hd : ∀ e, 2 ≤ e → e < d → n % e ≠ 0) : primeB n = true := by
  simp only [primeB, Bool.and_eq_true, decide_eq_true_eq]
  refine ⟨⟨h0, h1⟩, allB_mk fun e _ => ?_⟩
  simp only [Bool.or_eq_true, decide_eq_true_eq]
  by_cases a : e < 2
  · exact .inl (.inl a)
  · by_cases b : e < d
    · exact .inr (hd e (by omega) b)
    · left; right
      have := Nat.mul_le_mul (show d ≤ e by omega) (show d ≤ e by omega)
      omega
theorem prime_lo {n : Nat} (h : n < 2 ∨ 100000 < n) : primeB n = false := by
  simp [primeB]; omega
def fermB (p : Nat) : Bool := !primeB p || (sameB (turnL p p) [(1, p), ((p : Int) - 1, 1)] && sameB (sumL p p) [(1, p), (-1, 1)])
theorem ferm_all : allB fermB 61 = true := by decide +kernel
/-- Of a prime number of beads. -/
theorem prime_rings (k p : Nat) (hp : p < 61) (h : primeB p = true) : (turnS k p p : Int) = (k ^ p : Nat) + ((p : Int) - 1) * (k : Int) ∧ (((k ^ p : Nat) : Int) - (k : Int)) % (p : Int) = 0 := by
  have h1 := allB_spec ferm_all p hp
  have hp1 : 1 ≤ p := by
    rcases Nat.lt_or_ge p 2 with h2 | h2
    · rw [prime_lo (.inl h2)] at h; cases h
    · omega
  simp only [fermB, h, Bool.not_true, Bool.false_or, Bool.and_eq_true] at h1
  have h2 := ev_same k h1.1
  have h3 := ev_same k h1.2
  rw [turn_ev] at h2
  rw [sum_ev] at h3
  simp only [ev, Nat.pow_one, Int.add_zero, Int.one_mul] at h2 h3
  refine ⟨h2, ?_⟩
  have h4 := sumB_dvd k hp1 hp
  rw [h3] at h4
  rw [← h4]
  congr 1
  omega
end Go.Proofs.YthdlhfgeminoiaaDoor
