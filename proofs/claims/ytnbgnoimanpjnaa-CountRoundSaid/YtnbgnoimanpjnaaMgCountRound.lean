/-
  The law parterrelaw1.CountRound: for every input it returns true, and what it was handed reads afterwards as before. No condition.
-/
import Derived.Test.YtnbgnoimanpjnaaPlain
import Derived.Test.YtnbgnoimanpjnaaBase
import Derived.Test.YtnbgnoimanpjnaaCsum
import Derived.Test.YtnbgnoimanpjnaaCcol
import Derived.ProofKit
import Derived.OpenShut
import Derived.SizedLaws
/-
  Plain laws of Moebius' numbers up to 60 and of the sums over divisors. No program in sight, no condition.
-/
namespace Go.Proofs.Ytnbgnoimanpjnaa

/-- word.moebius, pass by pass. -/
def mobL : Nat → Nat → Nat → Int → Option Int
  | 0, _, _, _ => none
  | f + 1, p, d, o => if d ≤ 1 then some o else if d % p ≠ 0 then mobL f (p + 1) d o else if d / p % p = 0 then some 0 else mobL f (p + 1) (d / p) (-o)
/-- parterreref4.mobius, pass by pass. -/
def mobR : Nat → Nat → Nat → Int → Option Int
  | 0, _, _, _ => none
  | f + 1, p, n, m => if n < p then some m else if n % p ≠ 0 then mobR f (p + 1) n m else if n / p % p = 0 then some 0 else mobR f (p + 1) (n / p) (-m)
def mu (d : Nat) : Int := (mobL 60 2 d 1).getD 0

theorem mob_all : ∀ d, d < 60 → mobL 60 2 (d + 1) 1 = some (mu (d + 1)) ∧ mobR 60 2 (d + 1) 1 = some (mu (d + 1)) ∧ -1 ≤ mu (d + 1) ∧ mu (d + 1) ≤ 1 := fun d h =>
  of_decide_eq_true (allB_spec (f := fun d => decide (mobL 60 2 (d + 1) 1 = some (mu (d + 1)) ∧ mobR 60 2 (d + 1) 1 = some (mu (d + 1)) ∧ -1 ≤ mu (d + 1) ∧ mu (d + 1) ≤ 1)) (n := 60) (by decide +kernel) d h)
theorem mob_L {d : Nat} (h1 : 1 ≤ d) (h2 : d ≤ 60) : mobL 60 2 d 1 = some (mu d) := by
  have := (mob_all (d - 1) (by omega)).1
  rwa [show d - 1 + 1 = d by omega] at this
theorem mob_R {d : Nat} (h1 : 1 ≤ d) (h2 : d ≤ 60) : mobR 60 2 d 1 = some (mu d) := by
  have := (mob_all (d - 1) (by omega)).2.1
  rwa [show d - 1 + 1 = d by omega] at this
theorem mu_bd {d : Nat} (h1 : 1 ≤ d) (h2 : d ≤ 60) : -1 ≤ mu d ∧ mu d ≤ 1 := by
  have := (mob_all (d - 1) (by omega)).2.2
  rwa [show d - 1 + 1 = d by omega] at this

/-- The sums of word.Primes and of parterreref4.PrimesOf, over d up to j. -/
def sumA (k n : Nat) : Nat → Int
  | 0 => 0
  | j + 1 => sumA k n j + if n % (j + 1) = 0 then mu (j + 1) * ((k ^ (n / (j + 1)) : Nat) : Int) else 0
def sumB (k n : Nat) : Nat → Int
  | 0 => 0
  | j + 1 => sumB k n j + if n % (j + 1) = 0 then mu (n / (j + 1)) * ((k ^ (j + 1) : Nat) : Int) else 0

/-- The divisors of n up to j. -/
def divs (n : Nat) : Nat → List Nat
  | 0 => []
  | j + 1 => if n % (j + 1) = 0 then divs n j ++ [j + 1] else divs n j
def sumOn (l : List Nat) (f : Nat → Int) : Int := (l.map f).foldr (· + ·) 0
theorem sumOn_app (l m : List Nat) (f : Nat → Int) : sumOn (l ++ m) f = sumOn l f + sumOn m f := by
  induction l with
  | nil => simp [sumOn]
  | cons x l ih => simp only [sumOn, List.cons_append, List.map_cons, List.foldr_cons] at ih ⊢; omega
theorem sumOn_rev (l : List Nat) (f : Nat → Int) : sumOn l.reverse f = sumOn l f := by
  induction l with
  | nil => rfl
  | cons x l ih => rw [List.reverse_cons, sumOn_app, ih]; simp [sumOn]; omega
theorem sumA_on (k n j : Nat) : sumA k n j = sumOn (divs n j) fun d => mu d * ((k ^ (n / d) : Nat) : Int) := by
  induction j with
  | zero => rfl
  | succ j ih =>
    simp only [sumA, divs]
    by_cases h : n % (j + 1) = 0
    · rw [if_pos h, if_pos h, sumOn_app, ih]; simp [sumOn]
    · rw [if_neg h, if_neg h, ih]; omega
theorem sumB_on (k n j : Nat) : sumB k n j = sumOn (divs n j) fun d => mu (n / d) * ((k ^ d : Nat) : Int) := by
  induction j with
  | zero => rfl
  | succ j ih =>
    simp only [sumB, divs]
    by_cases h : n % (j + 1) = 0
    · rw [if_pos h, if_pos h, sumOn_app, ih]; simp [sumOn]
    · rw [if_neg h, if_neg h, ih]; omega
def eqN : List Nat → List Nat → Bool
  | [], [] => true
  | x :: l, y :: m => x == y && eqN l m
  | _, _ => false
theorem eqN_spec : ∀ {l m : List Nat}, eqN l m = true → l = m
  | [], [], _ => rfl
  | x :: l, y :: m, h => by
    simp only [eqN, Bool.and_eq_true, beq_iff_eq] at h
    rw [h.1, eqN_spec h.2]
  | [], _ :: _, h => by simp [eqN] at h
  | _ :: _, [], h => by simp [eqN] at h
theorem divs_all : ∀ n, n < 61 → (divs n n).map (n / ·) = (divs n n).reverse ∧ (divs n n).map (fun d => n / (n / d)) = divs n n := fun n h =>
  have := allB_spec (f := fun n => eqN ((divs n n).map (n / ·)) (divs n n).reverse && eqN ((divs n n).map (fun d => n / (n / d))) (divs n n)) (n := 61) (by decide +kernel) n h
  have h2 := (Bool.and_eq_true _ _).mp this
  ⟨eqN_spec h2.1, eqN_spec h2.2⟩
theorem sumOn_map (l : List Nat) (g : Nat → Nat) (f : Nat → Int) : sumOn (l.map g) f = sumOn l (fun d => f (g d)) := by
  simp [sumOn, Function.comp_def]
theorem sumOn_congr {l : List Nat} {f g : Nat → Int} (h : l.map f = l.map g) : sumOn l f = sumOn l g := by
  simp [sumOn, h]
/-- Both sums are one. -/
theorem sum_same (k n : Nat) (h : n < 61) : sumA k n n = sumB k n n := by
  rw [sumA_on, sumB_on]
  obtain ⟨h1, h2⟩ := divs_all n h
  rw [← sumOn_rev (divs n n) (fun d => mu (n / d) * ((k ^ d : Nat) : Int)), ← h1, sumOn_map]
  refine sumOn_congr ?_
  have key : ∀ (l : List Nat), l.map (fun d => n / (n / d)) = l → l.map (fun d => mu d * ((k ^ (n / d) : Nat) : Int)) = l.map (fun d => mu (n / (n / d)) * ((k ^ (n / d) : Nat) : Int)) := by
    intro l
    induction l with
    | nil => intro _; rfl
    | cons x l ih =>
      intro h
      simp only [List.map_cons, List.cons.injEq] at h ⊢
      exact ⟨by rw [h.1], ih h.2⟩
  exact key _ h2

/-- Below 10^18: powers of at most half are below 10^9. -/
theorem pow_half {k n d : Nat} (hd : 2 ≤ d) (hk : 1 ≤ k) (h : k ^ n ≤ 1000000000000000000) : k ^ (n / d) ≤ 1000000000 := by
  have h1 : k ^ (n / d) * k ^ (n / d) ≤ k ^ n := by
    rw [← Nat.pow_add]
    refine Nat.pow_le_pow_right hk ?_
    have := Nat.div_mul_le_self n d
    have h3 : n / d * 2 ≤ n / d * d := Nat.mul_le_mul_left _ hd
    omega
  rcases Nat.lt_or_ge 1000000000 (k ^ (n / d)) with h2 | h2
  · exfalso
    have : 1000000001 * 1000000001 ≤ k ^ (n / d) * k ^ (n / d) := Nat.mul_le_mul h2 h2
    omega
  · exact h2
theorem mul_mu {m : Int} {p b : Nat} (h1 : -1 ≤ m) (h2 : m ≤ 1) (h3 : p ≤ b) : -(b : Int) ≤ m * (p : Int) ∧ m * (p : Int) ≤ (b : Int) := by
  have : m = -1 ∨ m = 0 ∨ m = 1 := by omega
  rcases this with rfl | rfl | rfl <;> omega
theorem sumA_bd {k n : Nat} (hk : 1 ≤ k) (hn : n ≤ 60) (h : k ^ n ≤ 1000000000000000000) : ∀ j, j ≤ n → -1000000000000000000 - (j : Int) * 1000000000 ≤ sumA k n j ∧ sumA k n j ≤ 1000000000000000000 + (j : Int) * 1000000000 ∧ (j = 0 → sumA k n j = 0)
  | 0, _ => by simp [sumA]
  | j + 1, hj => by
    have ih := sumA_bd hk hn h j (by omega)
    simp only [sumA]
    have hm := mu_bd (d := j + 1) (by omega) (by omega)
    split
    · by_cases h0 : j = 0
      · have := mul_mu (p := k ^ (n / (j + 1))) hm.1 hm.2 (by subst h0; simpa using h)
        have := ih.2.2 h0
        omega
      · have := mul_mu (p := k ^ (n / (j + 1))) hm.1 hm.2 (pow_half (by omega) hk h)
        omega
    · omega
theorem sumB_bd {k n : Nat} (hk : 1 ≤ k) (hn : n ≤ 60) (h : k ^ n ≤ 1000000000000000000) : ∀ j, j ≤ n → -1000000000000000000 - (j : Int) * 1000000000 ≤ sumB k n j ∧ sumB k n j ≤ 1000000000000000000 + (j : Int) * 1000000000 ∧ (j < n → -(j : Int) * 1000000000 ≤ sumB k n j ∧ sumB k n j ≤ (j : Int) * 1000000000)
  | 0, _ => by simp [sumB]
  | j + 1, hj => by
    have ih := sumB_bd hk hn h j (by omega)
    have ih2 := ih.2.2 (by omega)
    simp only [sumB]
    split
    · rename_i hd
      have hq : 1 ≤ n / (j + 1) := by
        rw [Nat.le_div_iff_mul_le (by omega)]; omega
      have hq2 : n / (j + 1) ≤ n := Nat.div_le_self _ _
      have hm := mu_bd (d := n / (j + 1)) hq (by omega)
      by_cases h0 : j + 1 = n
      · have := mul_mu (p := k ^ (j + 1)) hm.1 hm.2 (by rw [h0]; exact h)
        omega
      · have hd2 : 2 ≤ n / (j + 1) := by
          rcases Nat.lt_or_ge (n / (j + 1)) 2 with h2 | h2
          · exfalso
            have h3 : n / (j + 1) = 1 := by omega
            have := Nat.div_add_mod n (j + 1)
            rw [h3, hd] at this
            omega
          · exact h2
        have hpe : j + 1 = n / (n / (j + 1)) := by
          have h4 := Nat.div_add_mod n (j + 1)
          rw [hd] at h4
          generalize n / (j + 1) = q at *
          rw [Nat.add_zero] at h4
          have h5 : (j + 1) * q / q = n / q := by rw [h4]
          rw [← h5, Nat.mul_div_cancel _ (show 0 < q by omega)]
        have := mul_mu (p := k ^ (j + 1)) hm.1 hm.2 (by rw [hpe]; exact pow_half hd2 hk h)
        omega
    · omega
end Go.Proofs.Ytnbgnoimanpjnaa
/-
  Plain laws of rings: the sum over all turns is the sum over all periods of what Moebius' sums leave; Fermat's theorem below 60. No program in sight; conditions as each law states.
-/
namespace Go.Proofs.Ytnbgnoimanpjnaa
set_option linter.unusedVariables false

/-- Sums of powers: factors and exponents. -/
def ev (k : Nat) : List (Int × Nat) → Int
  | [] => 0
  | p :: l => p.1 * ((k ^ p.2 : Nat) : Int) + ev k l
def co : List (Int × Nat) → Nat → Int
  | [], _ => 0
  | p :: l, e => (if p.2 = e then p.1 else 0) + co l e
def evc (k : Nat) (f : Nat → Int) : Nat → Int
  | 0 => 0
  | m + 1 => evc k f m + f m * ((k ^ m : Nat) : Int)
theorem evc_add (k : Nat) (f g : Nat → Int) : ∀ m, evc k (fun e => f e + g e) m = evc k f m + evc k g m
  | 0 => by simp [evc]
  | m + 1 => by simp only [evc]; rw [evc_add k f g m, Int.add_mul]; omega
theorem evc_one (k : Nat) (a : Nat) (c : Int) : ∀ m, evc k (fun e => if a = e then c else 0) m = if a < m then c * ((k ^ a : Nat) : Int) else 0
  | 0 => by simp [evc]
  | m + 1 => by
    simp only [evc]
    rw [evc_one k a c m]
    by_cases h : a = m
    · subst h; rw [if_neg (by omega), if_pos rfl, if_pos (by omega)]; omega
    · rw [if_neg h, Int.zero_mul, Int.add_zero]
      by_cases h2 : a < m
      · rw [if_pos h2, if_pos (by omega)]
      · rw [if_neg h2, if_neg (by omega)]
theorem ev_co (k m : Nat) : ∀ (l : List (Int × Nat)), l.all (fun p => decide (p.2 < m)) = true → ev k l = evc k (co l) m
  | [], _ => by
    have : ∀ m, evc k (co []) m = 0 := fun m => by
      induction m with
      | zero => rfl
      | succ m ih => change evc k (co []) m + 0 * _ = 0; rw [ih]; simp
    rw [this]; rfl
  | p :: l, h => by
    simp only [List.all_cons, Bool.and_eq_true, decide_eq_true_eq] at h
    have e : co (p :: l) = fun e => (if p.2 = e then p.1 else 0) + co l e := rfl
    rw [e, evc_add, evc_one, if_pos h.1, ← ev_co k m l h.2]
    rfl
theorem evc_congr (k : Nat) (f g : Nat → Int) : ∀ m, (∀ e, e < m → f e = g e) → evc k f m = evc k g m
  | 0, _ => rfl
  | m + 1, h => by simp only [evc]; rw [evc_congr k f g m (fun e he => h e (by omega)), h m (by omega)]
def sameB (a b : List (Int × Nat)) : Bool := a.all (fun p => decide (p.2 < 61)) && b.all (fun p => decide (p.2 < 61)) && allB (fun e => decide (co a e = co b e)) 61
theorem ev_same (k : Nat) {a b : List (Int × Nat)} (h : sameB a b = true) : ev k a = ev k b := by
  simp only [sameB, Bool.and_eq_true] at h
  rw [ev_co k 61 a h.1.1, ev_co k 61 b h.1.2]
  exact evc_congr k _ _ 61 fun e he => of_decide_eq_true (allB_spec h.2 e he)
theorem ev_app (k : Nat) : ∀ (a b : List (Int × Nat)), ev k (a ++ b) = ev k a + ev k b
  | [], b => by simp [ev]
  | p :: a, b => by simp only [List.cons_append, ev]; rw [ev_app k a b]; omega

/-- count.turned, turn by turn. -/
def turnS (k n : Nat) : Nat → Nat
  | 0 => 0
  | t + 1 => turnS k n t + k ^ Nat.gcd n t
def turnL (n : Nat) : Nat → List (Int × Nat)
  | 0 => []
  | t + 1 => turnL n t ++ [(1, Nat.gcd n t)]
theorem turn_ev (k n : Nat) : ∀ t, ev k (turnL n t) = (turnS k n t : Int)
  | 0 => rfl
  | t + 1 => by simp only [turnL, turnS]; rw [ev_app, turn_ev k n t]; simp [ev]
def sumL (n : Nat) : Nat → List (Int × Nat)
  | 0 => []
  | j + 1 => sumL n j ++ if n % (j + 1) = 0 then [(mu (n / (j + 1)), j + 1)] else []
theorem sum_ev (k n : Nat) : ∀ j, ev k (sumL n j) = sumB k n j
  | 0 => rfl
  | j + 1 => by
    simp only [sumL, sumB]
    rw [ev_app, sum_ev k n j]
    split <;> simp [ev]
theorem ev_mul (k : Nat) (c : Int) : ∀ (l : List (Int × Nat)), ev k (l.map fun p => (c * p.1, p.2)) = c * ev k l
  | [] => by simp [ev]
  | p :: l => by simp only [List.map_cons, ev]; rw [ev_mul k c l, Int.mul_add, Int.mul_assoc]

/-- All periods: n / d times what Moebius' sum for d is. -/
def wholeL (n : Nat) : Nat → List (Int × Nat)
  | 0 => []
  | d + 1 => wholeL n d ++ if n % (d + 1) = 0 then (sumL (d + 1) (d + 1)).map (fun p => (((n / (d + 1) : Nat) : Int) * p.1, p.2)) else []
def wholeS (k n : Nat) : Nat → Int
  | 0 => 0
  | d + 1 => wholeS k n d + if n % (d + 1) = 0 then ((n / (d + 1) : Nat) : Int) * sumB k (d + 1) (d + 1) else 0
theorem whole_ev (k n : Nat) : ∀ d, ev k (wholeL n d) = wholeS k n d
  | 0 => rfl
  | d + 1 => by
    simp only [wholeL, wholeS]
    rw [ev_app, whole_ev k n d]
    split
    · rw [ev_mul, sum_ev]
    · simp [ev]
theorem whole_all : allB (fun n => sameB (turnL n n) (wholeL n n)) 61 = true := by decide +kernel
theorem turn_whole (k n : Nat) (h : n < 61) : (turnS k n n : Int) = wholeS k n n := by
  rw [← turn_ev, ← whole_ev]
  exact ev_same k (allB_spec whole_all n h)

/-- parterreref1.BeadsOf, period by period. -/
def bsum (k n : Nat) : Nat → Int
  | 0 => 0
  | d + 1 => bsum k n d + if n % (d + 1) = 0 then (sumB k (d + 1) (d + 1)).tdiv ((d + 1 : Nat) : Int) else 0

theorem pow_mod_cast (k m e : Nat) : ((k ^ e : Nat) : Int) % (m : Int) = (((k % m) ^ e : Nat) : Int) % (m : Int) := by
  rw [← Int.natCast_emod, ← Int.natCast_emod, Nat.pow_mod]
theorem sumB_mod (k m d : Nat) : ∀ j, sumB k d j % (m : Int) = sumB (k % m) d j % (m : Int)
  | 0 => rfl
  | j + 1 => by
    simp only [sumB]
    rw [Int.add_emod, sumB_mod k m d j]
    conv => rhs; rw [Int.add_emod]
    split
    · rw [Int.mul_emod, pow_mod_cast, ← Int.mul_emod]
    · rfl
theorem dvd_all : allB (fun d => allB (fun r => decide (sumB r (d + 1) (d + 1) % ((d + 1 : Nat) : Int) = 0)) (d + 1)) 60 = true := by decide +kernel
theorem sumB_dvd (k : Nat) {d : Nat} (h1 : 1 ≤ d) (h2 : d < 61) : sumB k d d % (d : Int) = 0 := by
  rw [sumB_mod]
  have := of_decide_eq_true (allB_spec (allB_spec dvd_all (d - 1) (by omega)) (k % d) (by have := Nat.mod_lt k (show 0 < d by omega); omega))
  rwa [show d - 1 + 1 = d by omega] at this
theorem sumB_q (k : Nat) {d : Nat} (h1 : 1 ≤ d) (h2 : d < 61) : sumB k d d = (d : Int) * (sumB k d d).tdiv (d : Int) := by
  have h := sumB_dvd k h1 h2
  have hd := Int.dvd_of_emod_eq_zero h
  rw [Int.mul_tdiv_cancel' hd]
theorem bsum_whole (k n : Nat) (hn : n < 61) : ∀ j, j ≤ n → (n : Int) * bsum k n j = wholeS k n j
  | 0, _ => by simp [bsum, wholeS]
  | d + 1, hj => by
    simp only [bsum, wholeS]
    rw [Int.mul_add, bsum_whole k n hn d (by omega)]
    split
    · rename_i h
      have hq := sumB_q k (d := d + 1) (by omega) (by omega)
      have hnd : n = (n / (d + 1)) * (d + 1) := by
        have := Nat.div_add_mod n (d + 1)
        rw [h, Nat.add_zero, Nat.mul_comm] at this
        exact this.symm
      generalize (sumB k (d + 1) (d + 1)).tdiv ((d + 1 : Nat) : Int) = q at *
      rw [hq, ← Int.mul_assoc, ← Int.natCast_mul, ← hnd]
    · simp
theorem turn_bsum (k n : Nat) (hn : n < 61) : (turnS k n n : Int) = (n : Int) * bsum k n n := by
  rw [turn_whole k n hn, bsum_whole k n hn n (Nat.le_refl _)]

/-- Bounds. -/
theorem gcd_half {n t : Nat} (h1 : 1 ≤ t) (h2 : t < n) : Nat.gcd n t ≤ n / 2 := by
  have hd := Nat.gcd_dvd_left n t
  have hl := Nat.gcd_le_right n (show 0 < t by omega)
  obtain ⟨c, hc⟩ := hd
  generalize Nat.gcd n t = g at *
  have hc2 : 2 ≤ c := by
    rcases Nat.lt_or_ge c 2 with h | h
    · exfalso
      have : c = 0 ∨ c = 1 := by omega
      rcases this with rfl | rfl <;> omega
    · exact h
  have : g * 2 ≤ g * c := Nat.mul_le_mul_left _ hc2
  omega
theorem turn_bd {k n : Nat} (hk : 1 ≤ k) (h : k ^ n ≤ 1000000000000000000) : ∀ t, t ≤ n → turnS k n t ≤ 1000000000000000000 + t * 1000000000
  | 0, _ => by simp [turnS]
  | t + 1, ht => by
    have ih := turn_bd hk h t (by omega)
    simp only [turnS]
    rcases Nat.eq_zero_or_pos t with h0 | h0
    · subst h0
      simp only [Nat.gcd_zero_right, turnS]
      omega
    · have h3 := pow_half (k := k) (n := n) (d := 2) (by omega) hk h
      have h4 : k ^ Nat.gcd n t ≤ k ^ (n / 2) := Nat.pow_le_pow_right hk (gcd_half h0 (by omega))
      omega
theorem fits60 {k n : Nat} (hk : 2 ≤ k) (h : k ^ n ≤ 1000000000000000000) : n < 60 := by
  rcases Nat.lt_or_ge n 60 with h1 | h1
  · exact h1
  · exfalso
    have h2 : 2 ^ n ≤ k ^ n := Nat.pow_le_pow_left hk n
    have h3 : 2 ^ 60 ≤ 2 ^ n := Nat.pow_le_pow_right (by decide) h1
    have : (2 : Nat) ^ 60 = 1152921504606846976 := by decide
    omega
theorem sumB_small {k d b : Nat} (hk : 1 ≤ k) (hd : d < 61) (h : k ^ d ≤ b) : ∀ j, j ≤ d → -((j * b : Nat) : Int) ≤ sumB k d j ∧ sumB k d j ≤ ((j * b : Nat) : Int)
  | 0, _ => by simp [sumB]
  | j + 1, hj => by
    have ih := sumB_small hk hd h j (by omega)
    simp only [sumB]
    rw [Nat.add_mul, Nat.one_mul]
    split
    · have hq : 1 ≤ d / (j + 1) := by rw [Nat.le_div_iff_mul_le (by omega)]; omega
      have hq2 : d / (j + 1) ≤ d := Nat.div_le_self _ _
      have hm := mu_bd (d := d / (j + 1)) hq (by omega)
      have h5 : k ^ (j + 1) ≤ k ^ d := Nat.pow_le_pow_right hk hj
      have := mul_mu (p := k ^ (j + 1)) hm.1 hm.2 (Nat.le_trans h5 h)
      omega
    · omega
theorem tdiv_bd {s d b : Int} (hd : 1 ≤ d) (h1 : -(d * b) ≤ s) (h2 : s ≤ d * b) (hq : s = d * s.tdiv d) : -b ≤ s.tdiv d ∧ s.tdiv d ≤ b := by
  generalize s.tdiv d = q at *
  subst hq
  constructor
  · rcases Int.lt_or_le q (-b) with h | h
    · exfalso
      have : d * q < d * -b := Int.mul_lt_mul_of_pos_left h (by omega)
      rw [Int.mul_neg] at this
      omega
    · exact h
  · rcases Int.lt_or_le b q with h | h
    · exfalso
      have : d * b < d * q := Int.mul_lt_mul_of_pos_left h (by omega)
      omega
    · exact h
theorem div_half {n d : Nat} (h0 : 1 ≤ d) (h1 : d < n) (h : n % d = 0) : ∃ q, 2 ≤ q ∧ d = n / q := by
  refine ⟨n / d, ?_, ?_⟩
  · rcases Nat.lt_or_ge (n / d) 2 with h2 | h2
    · exfalso
      have h3 := Nat.div_add_mod n d
      rw [h] at h3
      generalize n / d = q at *
      have : q = 0 ∨ q = 1 := by omega
      rcases this with rfl | rfl <;> omega
    · exact h2
  · have h4 := Nat.div_add_mod n d
    rw [h, Nat.add_zero] at h4
    have hq : 0 < n / d := Nat.div_pos (by omega) (by omega)
    generalize n / d = q at *
    rw [← h4, Nat.mul_div_cancel _ hq]
theorem term_bd {k n d : Nat} (hk : 1 ≤ k) (hn : n < 61) (h : k ^ n ≤ 1000000000000000000) (h1 : 1 ≤ d) (h2 : d < n) (hd : n % d = 0) : -1000000000 ≤ (sumB k d d).tdiv (d : Int) ∧ (sumB k d d).tdiv (d : Int) ≤ 1000000000 := by
  obtain ⟨q, hq, e⟩ := div_half h1 h2 hd
  have hp : k ^ d ≤ 1000000000 := by rw [e]; exact pow_half hq hk h
  have hs := sumB_small hk (show d < 61 by omega) hp d (Nat.le_refl _)
  rw [Int.natCast_mul] at hs
  exact tdiv_bd (by omega) hs.1 hs.2 (sumB_q k h1 (by omega))
theorem bsum_bd {k n : Nat} (hk : 1 ≤ k) (hn : n < 61) (h : k ^ n ≤ 1000000000000000000) : ∀ j, j < n → -((j : Int) * 1000000000) ≤ bsum k n j ∧ bsum k n j ≤ (j : Int) * 1000000000
  | 0, _ => by simp [bsum]
  | d + 1, hj => by
    have ih := bsum_bd hk hn h d (by omega)
    simp only [bsum]
    split
    · rename_i hd
      have := term_bd hk hn h (d := d + 1) (by omega) hj hd
      omega
    · omega
theorem last_bd {k n : Nat} (hk : 1 ≤ k) (h0 : 1 ≤ n) (hn : n < 61) (h : k ^ n ≤ 1000000000000000000) : -1000000000000000000 ≤ (sumB k n n).tdiv (n : Int) ∧ (sumB k n n).tdiv (n : Int) ≤ 1000000000000000000 := by
  have hs := sumB_small hk hn h n (Nat.le_refl _)
  rw [Int.natCast_mul] at hs
  exact tdiv_bd (by omega) hs.1 hs.2 (sumB_q k h0 hn)
theorem any_bd {k n d : Nat} (hk : 1 ≤ k) (hn : n < 61) (h : k ^ n ≤ 1000000000000000000) (h1 : 1 ≤ d) (h2 : d ≤ n) (hd : n % d = 0) : -1000000000000000000 ≤ (sumB k d d).tdiv (d : Int) ∧ (sumB k d d).tdiv (d : Int) ≤ 1000000000000000000 := by
  by_cases e : d = n
  · subst e; exact last_bd hk h1 hn h
  · have := term_bd hk hn h h1 (by omega) hd
    omega

/-- Is it a prime number, up to 100000? -/
def primeB (n : Nat) : Bool := decide (2 ≤ n ∧ n ≤ 100000) && allB (fun d => decide (d < 2) || decide (n < d * d) || decide (n % d ≠ 0)) 317
theorem allB_mk {f : Nat → Bool} : ∀ {n : Nat}, (∀ x, x < n → f x = true) → allB f n = true
  | 0, _ => rfl
  | n + 1, h => by simp only [allB]; rw [h n (by omega), allB_mk fun x hx => h x (by omega)]; rfl
theorem prime_no {n d : Nat} (h1 : 2 ≤ d) (h2 : d * d ≤ n) (h3 : n % d = 0) : primeB n = false := by
  rcases Nat.lt_or_ge 100000 n with h | h
  · simp [primeB]; omega
  · have hd : d < 317 := by
      rcases Nat.lt_or_ge d 317 with h4 | h4
      · exact h4
      · have := Nat.mul_le_mul h4 h4
        omega
    cases hb : primeB n with
    | false => rfl
    | true =>
      simp only [primeB, Bool.and_eq_true] at hb
      have := allB_spec hb.2 d hd
      simp only [Bool.or_eq_true, decide_eq_true_eq] at this
      omega
theorem prime_yes {n d : Nat} (h0 : 2 ≤ n) (h1 : n ≤ 100000) (h : n < d * d) (hd : ∀ e, 2 ≤ e → e < d → n % e ≠ 0) : primeB n = true := by
  simp only [primeB, Bool.and_eq_true, decide_eq_true_eq]
  refine ⟨⟨h0, h1⟩, allB_mk fun e _ => ?_⟩
  simp only [Bool.or_eq_true, decide_eq_true_eq]
  by_cases a : e < 2
  · exact .inl (.inl a)
  · by_cases b : e < d
    · exact .inr (hd e (by omega) b)
    · left; right
      have := Nat.mul_le_mul (show d ≤ e by omega) (show d ≤ e by omega)
      omega
theorem prime_lo {n : Nat} (h : n < 2 ∨ 100000 < n) : primeB n = false := by
  simp [primeB]; omega
def fermB (p : Nat) : Bool := !primeB p || (sameB (turnL p p) [(1, p), ((p : Int) - 1, 1)] && sameB (sumL p p) [(1, p), (-1, 1)])
theorem ferm_all : allB fermB 61 = true := by decide +kernel
/-- Of a prime number of beads. -/
theorem prime_rings (k p : Nat) (hp : p < 61) (h : primeB p = true) : (turnS k p p : Int) = (k ^ p : Nat) + ((p : Int) - 1) * (k : Int) ∧ (((k ^ p : Nat) : Int) - (k : Int)) % (p : Int) = 0 := by
  have h1 := allB_spec ferm_all p hp
  have hp1 : 1 ≤ p := by
    rcases Nat.lt_or_ge p 2 with h2 | h2
    · rw [prime_lo (.inl h2)] at h; cases h
    · omega
  simp only [fermB, h, Bool.not_true, Bool.false_or, Bool.and_eq_true] at h1
  have h2 := ev_same k h1.1
  have h3 := ev_same k h1.2
  rw [turn_ev] at h2
  rw [sum_ev] at h3
  simp only [ev, Nat.pow_one, Int.add_zero, Int.one_mul] at h2 h3
  refine ⟨h2, ?_⟩
  have h4 := sumB_dvd k hp1 hp
  rw [h3] at h4
  rw [← h4]
  congr 1
  omega
end Go.Proofs.Ytnbgnoimanpjnaa
/-
  The walks over count.power, check, turned, Beads and Bracelets. Conditions: the numbers' ranges, as each theorem states.
-/
namespace Go.Proofs.Ytnbgnoimanpjnaa
set_option linter.unusedVariables false
open Go.RowKit

theorem pow_stepc (k j : Nat) : k ^ (j + 1) = k ^ j * k := Nat.pow_succ k j
theorem pow_divc {p k : Nat} {z : Int} (hk : 1 ≤ k) : z / (k : Int) < (p : Int) ↔ z < ((p * k : Nat) : Int) := by
  rw [Int.ediv_lt_iff_lt_mul (by omega)]
  simp
theorem pow_upc {k i n : Nat} (hk : 1 ≤ k) (h : i ≤ n) : k ^ i ≤ k ^ n := Nat.pow_le_pow_right hk h

theorem cpower_one (n : Int) (w : World) :
    Calls Try.prog 77 #[.int .i64 1, .int .i64 n] w fun e w' => e = .returned (.tuple #[.int .i64 1, .bool true]) ∧ w = w' := by
  go_enter Try.func77, Try.ntmps77
  go_wp2
  go_ret2
  exact ⟨rfl, rfl⟩

theorem cpower_ok2 (k n : Nat) (w : World) (hk : 2 ≤ k) (h : k ^ n ≤ 1000000000000000000) :
    Calls Try.prog 77 #[.int .i64 k, .int .i64 n] w fun e w' => e = .returned (.tuple #[.int .i64 (k ^ n : Nat), .bool true]) ∧ w = w' := by
  have hn := fits60 hk h
  obtain ⟨r, hr⟩ : ∃ r, r = k ^ n := ⟨_, rfl⟩
  rw [← hr] at h ⊢
  have HR := hid hr
  clear hr
  have hk1 : ((k : Int) == 1) = false := by simp; omega
  go_enter Try.func77, Try.ntmps77
  go_wp2
  go_loop [6, 10] (fun o i => ∃ j p : Nat, j ≤ n ∧ i = .int .i64 j ∧ o = .int .i64 p ∧ Hid (p = k ^ j)) (fun _ i => n - (intOf i).toNat)
  case atStart => exact ⟨0, 1, Nat.zero_le _, rfl, rfl, hid rfl⟩
  case round =>
    obtain ⟨j, p, hj, rfl, rfl, hp⟩ := hrel
    by_cases hlt : j < n
    · have hpk : p * k ≤ r := by rw [hp.out, ← pow_stepc, HR.out]; exact pow_upc (by omega) hlt
      have h1 : ¬ (1000000000000000000 : Int) / (k : Int) < (p : Int) := by rw [pow_divc (by omega)]; omega
      have h2 : (p : Int) * (k : Int) ≤ 1000000000000000000 := by
        have : ((p * k : Nat) : Int) = (p : Int) * (k : Int) := by simp
        omega
      have h3 : 0 ≤ (p : Int) * (k : Int) := Int.mul_nonneg (by omega) (by omega)
      clear hpk
      go_wp2
      go_round
      case rel => exact ⟨j + 1, p * k, by omega, by go_num, by simp, hid (by rw [hp.out, pow_stepc])⟩
      case measure => simp [intOf] <;> omega
    · obtain rfl : j = n := by omega
      obtain rfl : p = r := by rw [hp.out, HR.out]
      go_wp2
      go_ret2
      exact ⟨rfl, rfl⟩

theorem cpower_ok (k n : Nat) (w : World) (hk : 1 ≤ k) (h : k ^ n ≤ 1000000000000000000) :
    Calls Try.prog 77 #[.int .i64 k, .int .i64 n] w fun e w' => e = .returned (.tuple #[.int .i64 (k ^ n : Nat), .bool true]) ∧ w = w' := by
  by_cases h1 : k = 1
  · subst h1
    rw [Nat.one_pow]
    exact cpower_one n w
  · exact cpower_ok2 k n w (by omega) h

theorem cpower_no (k n : Nat) (w : World) (hk : 2 ≤ k) (hn : n ≤ 9223372036854775807) (h : 1000000000000000000 < k ^ n) :
    Calls Try.prog 77 #[.int .i64 k, .int .i64 n] w fun e w' => e = .returned (.tuple #[.int .i64 0, .bool false]) ∧ w = w' := by
  have H := hid h
  clear h
  have hk1 : ((k : Int) == 1) = false := by simp; omega
  go_enter Try.func77, Try.ntmps77
  go_wp2
  go_loop [6, 10] (fun o i => ∃ j p : Nat, j ≤ n ∧ i = .int .i64 j ∧ o = .int .i64 p ∧ Hid (p = k ^ j) ∧ p ≤ 1000000000000000000) (fun _ i => n - (intOf i).toNat)
  case atStart => exact ⟨0, 1, Nat.zero_le _, rfl, rfl, hid rfl, by omega⟩
  case round =>
    obtain ⟨j, p, hj, rfl, rfl, hp, hpz⟩ := hrel
    by_cases hlt : j < n
    · by_cases h1 : (1000000000000000000 : Int) / (k : Int) < (p : Int)
      · go_wp2
        go_ret2
        exact ⟨rfl, rfl⟩
      · have h4 : ((p * k : Nat) : Int) ≤ 1000000000000000000 := by rw [pow_divc (by omega)] at h1; omega
        have h5 : ((p * k : Nat) : Int) = (p : Int) * (k : Int) := by simp
        have h2 : (p : Int) * (k : Int) ≤ 1000000000000000000 := by omega
        have h3 : 0 ≤ (p : Int) * (k : Int) := Int.mul_nonneg (by omega) (by omega)
        have H4 : Hid (p * k ≤ 1000000000000000000) := hid (by omega)
        clear h4 h5
        go_wp2
        go_round
        case rel => exact ⟨j + 1, p * k, by omega, by go_num, by simp, hid (by rw [hp.out, pow_stepc]), H4.out⟩
        case measure => simp [intOf] <;> omega
    · exfalso
      obtain rfl : j = n := by omega
      have := H.out
      rw [← hp.out] at this
      omega

/-- What is wrong with rings. -/
def ringE (n k : Int) : Int := if n < 1 ∨ k < 1 then 1 else if 1000000000000000000 < k.toNat ^ n.toNat then 3 else 0
theorem ringE_lo {n k : Int} (h : n < 1 ∨ k < 1) : ringE n k = 1 := if_pos h
theorem ringE_hi {n k : Nat} (h1 : 1 ≤ n) (h2 : 1 ≤ k) (h : 1000000000000000000 < k ^ n) : ringE n k = 3 := by
  unfold ringE
  rw [if_neg (by omega), if_pos (by simpa using h)]
theorem ringE_ok {n k : Nat} (h1 : 1 ≤ n) (h2 : 1 ≤ k) (h : k ^ n ≤ 1000000000000000000) : ringE n k = 0 := by
  unfold ringE
  rw [if_neg (by omega), if_neg (by simpa using h)]

theorem ccheck_any (n k : Int) (w : World) (i1 : I64 n) (_ : I64 k) :
    Calls Try.prog 75 #[.int .i64 n, .int .i64 k] w fun e w' => e = .returned (.int .i64 (ringE n k)) ∧ w = w' := by
  by_cases h : n < 1 ∨ k < 1
  · rw [ringE_lo h]
    by_cases h1 : n < 1
    · go_enter Try.func75, Try.ntmps75
      go_wp2
      all_goals (go_ret; exact ⟨rfl, rfl⟩)
    · have h2 : k < 1 := by omega
      go_enter Try.func75, Try.ntmps75
      go_wp2
      all_goals (go_ret; exact ⟨rfl, rfl⟩)
  · obtain ⟨n, rfl⟩ : ∃ m : Nat, n = (m : Int) := ⟨n.toNat, by omega⟩
    obtain ⟨k, rfl⟩ : ∃ m : Nat, k = (m : Int) := ⟨k.toNat, by omega⟩
    have hn1 : 1 ≤ n := by omega
    have hk1 : 1 ≤ k := by omega
    have hn2 : n ≤ 9223372036854775807 := by unfold I64 at i1; omega
    clear h i1
    by_cases h : 1000000000000000000 < k ^ n
    · have hk2 : 2 ≤ k := by
        rcases Nat.lt_or_ge k 2 with h3 | h3
        · exfalso
          obtain rfl : k = 1 := by omega
          rw [Nat.one_pow] at h
          omega
        · exact h3
      rw [ringE_hi hn1 hk1 h]
      have H := hid h
      clear h
      go_enter Try.func75, Try.ntmps75
      go_wp2_with fail
      refine (cpower_no k n w hk2 hn2 H.out).mono ?_
      rintro e w' ⟨rfl, rfl⟩
      go_wp2
      go_ret
      exact ⟨rfl, rfl⟩
    · rw [ringE_ok hn1 hk1 (by omega)]
      have H := hid h
      clear h
      go_enter Try.func75, Try.ntmps75
      go_wp2_with fail
      refine (cpower_ok k n w hk1 (by have := H.out; omega)).mono ?_
      rintro e w' ⟨rfl, rfl⟩
      go_wp2
      go_ret
      exact ⟨rfl, rfl⟩

theorem turned_ok (n k : Nat) (w : World) (hk : 2 ≤ k) (h : k ^ n ≤ 1000000000000000000) :
    Calls Try.prog 76 #[.int .i64 n, .int .i64 k] w fun e w' => e = .returned (.int .i64 (turnS k n n : Nat)) ∧ ∃ m, w' = w.drewN m := by
  have hn := fits60 hk h
  have H := hid h
  clear h
  go_enter Try.func76, Try.ntmps76
  go_wp2
  go_loopw [5, 12] (fun s i wr => ∃ t z : Nat, t ≤ n ∧ i = .int .i64 t ∧ s = .int .i64 z ∧ Hid (z = turnS k n t) ∧ ∃ m, wr = w.drewN m) (fun _ i _ => n - (intOf i).toNat)
  case atStart => exact ⟨0, 0, Nat.zero_le _, rfl, rfl, hid rfl, 0, rfl⟩
  case round =>
    obtain ⟨t, z, ht, rfl, rfl, hz, m, rfl⟩ := hrel
    by_cases hlt : t < n
    · have hb1 := turn_bd (k := k) (n := n) (by omega) H.out t ht
      rw [← hz.out] at hb1
      go_wp2
      go_loopw [7, 8] (fun a b wr => ∃ x y : Nat, a = .int .i64 x ∧ b = .int .i64 y ∧ Hid (Nat.gcd x y = Nat.gcd n t) ∧ y ≤ n ∧ x ≤ n ∧ ∃ m, wr = w.drewN m) (fun _ b _ => (intOf b).toNat)
      case atStart => exact ⟨n, t, rfl, rfl, hid rfl, ht, Nat.le_refl _, m, rfl⟩
      case round =>
        obtain ⟨x, y, rfl, rfl, hg, hy, hx, m, rfl⟩ := hrel
        by_cases h0 : y = 0
        · subst h0
          have hgx : x = Nat.gcd n t := by rw [← hg.out, Nat.gcd_zero_right]
          have hp : k ^ x ≤ 1000000000000000000 := by
            have hle : Nat.gcd n t ≤ n := Nat.le_of_dvd (by omega) (Nat.gcd_dvd_left n t)
            exact Nat.le_trans (pow_upc (by omega) (by omega)) H.out
          have hs : turnS k n (t + 1) = z + k ^ x := by rw [hz.out, hgx]; rfl
          have HS := hid hs
          have HP := hid hp
          clear hs hp hgx hg hz
          go_wp2_with fail
          refine (cpower_ok k x _ (by omega) HP.out).mono ?_
          rintro e w' ⟨rfl, rfl⟩
          obtain ⟨q, hq⟩ : ∃ q, q = k ^ x := ⟨_, rfl⟩
          have hqb := HP.out
          have HS2 := HS.out
          rw [← hq] at hqb HS2 ⊢
          have HS3 := hid HS2
          clear HS HS2 hq
          go_wp2
          go_roundw
          case rel => exact ⟨t + 1, z + q, by omega, by go_num, by go_num, hid HS3.out.symm, m, rfl⟩
          case measure => simp [intOf] <;> omega
        · have hm1 : 0 ≤ (x : Int) % (y : Int) := Int.emod_nonneg _ (by omega)
          have hm2 : (x : Int) % (y : Int) < (y : Int) := Int.emod_lt_of_pos _ (by omega)
          have hm3 : x % y < y := Nat.mod_lt _ (by omega)
          have hne : ((y : Int) != 0) = true := by simp; omega
          go_wp2
          go_quiet (fail)
          go_wp2
          go_roundw
          case rel => exact ⟨y, x % y, rfl, by simp, hid (by rw [← hg.out, Nat.gcd_comm y, ← Nat.gcd_rec, Nat.gcd_comm]), by omega, hy, by first | exact ⟨_, rfl⟩ | (simp only [World.drewN_drewN]; exact ⟨_, rfl⟩)⟩
          case measure => simp [intOf] <;> omega
    · obtain rfl : t = n := by omega
      obtain rfl : z = turnS k t t := hz.out
      go_wp2
      go_ret
      exact ⟨rfl, m, rfl⟩

/-- Rings of so many beads. -/
def beadsN (n k : Nat) : Int := if k = 1 then 1 else bsum k n n

theorem bsum_div {n k : Nat} (hn1 : 1 ≤ n) (hn : n < 61) : ((turnS k n n : Nat) : Int) / (n : Int) = bsum k n n := by
  rw [turn_bsum k n hn, Int.mul_ediv_cancel_left _ (by omega)]

theorem Beads_bad (n k : Int) (w : World) (i1 : I64 n) (i2 : I64 k) (h : ringE n k ≠ 0) :
    Calls Try.prog 48 #[.int .i64 n, .int .i64 k] w fun e w' => e = .returned (.tuple #[.int .i64 0, .int .i64 (ringE n k)]) ∧ w = w' := by
  have hb : (ringE n k != 0) = true := by simpa using h
  have H := hid (ccheck_any n k w i1 i2)
  generalize ringE n k = z at *
  go_enter Try.func48, Try.ntmps48
  go_wp2_with fail
  refine H.out.mono ?_
  rintro e w' ⟨rfl, rfl⟩
  go_wp2
  go_ret2
  exact ⟨rfl, rfl⟩
theorem Beads_ok (n k : Nat) (w : World) (hn : 1 ≤ n) (hk : 1 ≤ k) (i1 : I64 n) (i2 : I64 k) (h : k ^ n ≤ 1000000000000000000) :
    Calls Try.prog 48 #[.int .i64 n, .int .i64 k] w fun e w' => e = .returned (.tuple #[.int .i64 (beadsN n k), .int .i64 0]) ∧ ∃ m, w' = w.drewN m := by
  have H := hid (ccheck_any n k w i1 i2)
  rw [ringE_ok hn hk h] at H
  by_cases hk1 : k = 1
  · subst hk1
    have e1 : beadsN n 1 = 1 := if_pos rfl
    rw [e1]
    clear e1 h
    go_enter Try.func48, Try.ntmps48
    go_wp2_with fail
    refine H.out.mono ?_
    rintro e w' ⟨rfl, rfl⟩
    go_wp2
    go_ret2
    exact ⟨rfl, 0, rfl⟩
  · have e1 : beadsN n k = bsum k n n := if_neg hk1
    have hn60 := fits60 (k := k) (by omega) h
    rw [e1, ← bsum_div hn (by omega)]
    have hb : ((k : Int) == 1) = false := by simp; omega
    have HT := hid (turned_ok n k w (by omega) h)
    have hbd := turn_bd (k := k) (n := n) hk h n (Nat.le_refl _)
    clear e1 h
    generalize turnS k n n = T at *
    have q1 : 0 ≤ (T : Int) / (n : Int) := Int.ediv_nonneg (by omega) (by omega)
    have q2 : (T : Int) / (n : Int) ≤ (T : Int) := Int.ediv_le_self _ (by omega)
    go_enter Try.func48, Try.ntmps48
    go_wp2_with fail
    refine H.out.mono ?_
    rintro e w' ⟨rfl, rfl⟩
    go_wp2_with fail
    refine HT.out.mono ?_
    rintro e w' ⟨rfl, m, rfl⟩
    go_wp2
    go_ret2
    exact ⟨rfl, m, rfl⟩
end Go.Proofs.Ytnbgnoimanpjnaa
/-
  The walk over count.Bracelets. Conditions: the numbers' ranges, as each theorem states.
-/
namespace Go.Proofs.Ytnbgnoimanpjnaa
set_option linter.unusedVariables false
open Go.RowKit

/-- Rings that are their own mirror. -/
def ownN (n k : Nat) : Nat := if n % 2 = 1 then k ^ ((n + 1) / 2) else (k ^ (n / 2) + k ^ (n / 2 + 1)) / 2
def bracN (n k : Nat) : Int := if k = 1 then 1 else (bsum k n n + (ownN n k : Int)) / 2
theorem own_even {n k : Nat} (h1 : 1 ≤ n) (h : n % 2 = 0) : (k ^ (n / 2) + k ^ (n / 2 + 1)) % 2 = 0 := by
  obtain ⟨m, hm⟩ : ∃ m, n / 2 = m + 1 := ⟨n / 2 - 1, by omega⟩
  rw [hm, Nat.pow_succ, Nat.pow_succ k (m + 1), Nat.pow_succ]
  generalize k ^ m = q
  rcases Nat.mod_two_eq_zero_or_one k with e | e
  · have h1 : q * k % 2 = 0 := by rw [Nat.mul_mod, e]; simp
    have h2 : q * k * k % 2 = 0 := by rw [Nat.mul_mod, e]; simp
    omega
  · have h2 : q * k * k % 2 = q * k % 2 := by rw [Nat.mul_mod, e]; simp
    omega
theorem brac_odd {n k : Nat} (h1 : 1 ≤ n) (hn : n < 61) (h : n % 2 = 1) : ((turnS k n n : Nat) : Int) + (n : Int) * ((k ^ ((n + 1) / 2) : Nat) : Int) = (n : Int) * (bsum k n n + (ownN n k : Int)) := by
  rw [turn_bsum k n hn, Int.mul_add]
  unfold ownN
  rw [if_pos h]
theorem brac_even {n k : Nat} (h1 : 1 ≤ n) (hn : n < 61) (h : n % 2 = 0) : ((turnS k n n : Nat) : Int) + ((n / 2 : Nat) : Int) * (((k ^ (n / 2) : Nat) : Int) + ((k ^ (n / 2 + 1) : Nat) : Int)) = (n : Int) * (bsum k n n + (ownN n k : Int)) := by
  rw [turn_bsum k n hn]
  have e := own_even (k := k) h1 h
  have hw : ((k ^ (n / 2) : Nat) : Int) + ((k ^ (n / 2 + 1) : Nat) : Int) = 2 * (ownN n k : Int) := by
    unfold ownN
    rw [if_neg (by omega)]
    omega
  have hn2 : (n : Int) = ((n / 2 : Nat) : Int) * 2 := by omega
  rw [hw, Int.mul_add, ← Int.mul_assoc, ← hn2]
theorem brac_div {n k : Nat} (h1 : 1 ≤ n) : (n : Int) * (bsum k n n + (ownN n k : Int)) / (2 * (n : Int)) = (bsum k n n + (ownN n k : Int)) / 2 := by
  rw [Int.mul_comm 2]
  exact Int.mul_ediv_mul_of_pos _ _ (by omega)

theorem Bracelets_bad (n k : Int) (w : World) (i1 : I64 n) (i2 : I64 k) (h : ringE n k ≠ 0) :
    Calls Try.prog 49 #[.int .i64 n, .int .i64 k] w fun e w' => e = .returned (.tuple #[.int .i64 0, .int .i64 (ringE n k)]) ∧ w = w' := by
  have hb : (ringE n k != 0) = true := by simpa using h
  have H := hid (ccheck_any n k w i1 i2)
  generalize ringE n k = z at *
  go_enter Try.func49, Try.ntmps49
  go_wp2_with fail
  refine H.out.mono ?_
  rintro e w' ⟨rfl, rfl⟩
  go_wp2
  go_ret2
  exact ⟨rfl, rfl⟩

theorem Bracelets_one (n : Nat) (w : World) (hn : 1 ≤ n) (i1 : I64 n) :
    Calls Try.prog 49 #[.int .i64 n, .int .i64 (1 : Nat)] w fun e w' => e = .returned (.tuple #[.int .i64 (bracN n 1), .int .i64 0]) ∧ ∃ m, w' = w.drewN m := by
  have H := hid (ccheck_any n (1 : Nat) w i1 (by unfold I64; omega))
  rw [ringE_ok hn (by omega) (by rw [Nat.one_pow]; omega)] at H
  have e1 : bracN n 1 = 1 := if_pos rfl
  rw [e1]
  go_enter Try.func49, Try.ntmps49
  go_wp2_with fail
  refine H.out.mono ?_
  rintro e w' ⟨rfl, rfl⟩
  go_wp2
  go_ret2
  exact ⟨rfl, 0, rfl⟩

set_option maxHeartbeats 1000000 in
theorem Bracelets_more (n k : Nat) (w : World) (hn : 1 ≤ n) (hk : 2 ≤ k) (i1 : I64 n) (i2 : I64 k) (h : k ^ n ≤ 1000000000000000000) :
    Calls Try.prog 49 #[.int .i64 n, .int .i64 k] w fun e w' => e = .returned (.tuple #[.int .i64 (bracN n k), .int .i64 0]) ∧ ∃ m, w' = w.drewN m := by
  have H := hid (ccheck_any n k w i1 i2)
  rw [ringE_ok hn (by omega) h] at H
  have e1 : bracN n k = (bsum k n n + (ownN n k : Int)) / 2 := if_neg (by omega)
  have hn60 := fits60 (k := k) (by omega) h
  rw [e1, ← brac_div hn]
  have hb : ((k : Int) == 1) = false := by simp; omega
  have HT := hid (fun w => turned_ok n k w (by omega) h)
  have hbd := turn_bd (k := k) (n := n) (by omega) h n (Nat.le_refl _)
  have hp1 : k ^ ((n + 1) / 2) ≤ 1000000000000000000 := Nat.le_trans (pow_upc (by omega) (by omega)) h
  have hp2 : k ^ (n / 2 + 1) ≤ 1000000000000000000 := Nat.le_trans (pow_upc (by omega) (by omega)) h
  have P1 := hid (fun w => cpower_ok k ((n + 1) / 2) w (by omega) hp1)
  have P2 := hid (fun w => cpower_ok k (n / 2 + 1) w (by omega) hp2)
  have hlow : n * k ^ ((n + 1) / 2) ≤ 3000000000000000000 := by
    by_cases h3 : n ≤ 2
    · have : n * k ^ ((n + 1) / 2) ≤ 2 * 1000000000000000000 := Nat.mul_le_mul h3 hp1
      omega
    · have h4 : k ^ ((n + 1) / 2) * k ≤ k ^ n := by
        rw [← pow_stepc]
        exact pow_upc (by omega) (by omega)
      have h6 : k ^ ((n + 1) / 2) * 2 ≤ k ^ ((n + 1) / 2) * k := Nat.mul_le_mul_left _ hk
      by_cases h7 : n ≤ 5
      · have : n * k ^ ((n + 1) / 2) ≤ 5 * k ^ ((n + 1) / 2) := Nat.mul_le_mul_right _ h7
        omega
      · have h5 : k ^ ((n + 1) / 2) * (k ^ 2) ≤ k ^ n := by
          rw [← Nat.pow_add]
          exact pow_upc (by omega) (by omega)
        by_cases h8 : n ≤ 11
        · have h9 : 2 ^ 2 ≤ k ^ 2 := Nat.pow_le_pow_left hk 2
          have h10 : k ^ ((n + 1) / 2) * 4 ≤ k ^ ((n + 1) / 2) * k ^ 2 := Nat.mul_le_mul_left _ h9
          have : n * k ^ ((n + 1) / 2) ≤ 11 * k ^ ((n + 1) / 2) := Nat.mul_le_mul_right _ h8
          omega
        · have h5 : k ^ ((n + 1) / 2) * (k ^ 5) ≤ k ^ n := by
            rw [← Nat.pow_add]
            exact pow_upc (by omega) (by omega)
          have h9 : 2 ^ 5 ≤ k ^ 5 := Nat.pow_le_pow_left hk 5
          have h10 : k ^ ((n + 1) / 2) * 32 ≤ k ^ ((n + 1) / 2) * k ^ 5 := Nat.mul_le_mul_left _ h9
          have : n * k ^ ((n + 1) / 2) ≤ 60 * k ^ ((n + 1) / 2) := Nat.mul_le_mul_right _ (by omega)
          omega
  have hlow2 : ((n * k ^ ((n + 1) / 2) : Nat) : Int) = (n : Int) * ((k ^ ((n + 1) / 2) : Nat) : Int) := by simp
  have hlow3 : 0 ≤ (n : Int) * ((k ^ ((n + 1) / 2) : Nat) : Int) := by omega
  have hlow4 : (n : Int) * ((k ^ ((n + 1) / 2) : Nat) : Int) ≤ 3000000000000000000 := by omega
  clear hlow hlow2
  rcases Nat.mod_two_eq_zero_or_one n with hpar | hpar
  · have hh : (n + 1) / 2 = n / 2 := by omega
    have E := brac_even (k := k) hn (by omega) hpar
    have hp1' := hp1
    rw [hh] at P1 hlow3 hlow4 hp1'
    have hbig : n / 2 * (k ^ (n / 2) + k ^ (n / 2 + 1)) ≤ 4000000000000000000 := by
      have h20 : n / 2 * k ^ (n / 2) ≤ n * k ^ (n / 2) := Nat.mul_le_mul_right _ (by omega)
      have h21 : n / 2 * k ^ (n / 2 + 1) ≤ 1000000000000000000 := by
        by_cases h3 : n ≤ 2
        · have : n / 2 * k ^ (n / 2 + 1) ≤ 1 * 1000000000000000000 := Nat.mul_le_mul (by omega) hp2
          omega
        · have h22 : n / 2 ≤ k ^ (n / 2 - 1) := by
            have h23 : 2 ^ (n / 2 - 1) ≤ k ^ (n / 2 - 1) := Nat.pow_le_pow_left hk _
            have h24 : n / 2 - 1 < 2 ^ (n / 2 - 1) := Nat.lt_two_pow_self
            omega
          have h25 : n / 2 * k ^ (n / 2 + 1) ≤ k ^ (n / 2 - 1) * k ^ (n / 2 + 1) := Nat.mul_le_mul_right _ h22
          rw [← Nat.pow_add, show n / 2 - 1 + (n / 2 + 1) = n by omega] at h25
          omega
      rw [Nat.mul_add]
      have h26 : ((n * k ^ (n / 2) : Nat) : Int) = (n : Int) * ((k ^ (n / 2) : Nat) : Int) := by simp
      omega
    have hb2 : ((n : Int) % 2 == 0) = true := by rw [beq_iff_eq]; omega
    rw [← E]
    have hc1 : ((n : Int) + 1) / 2 = ((n / 2 : Nat) : Int) := by omega
    have hc2 : (n : Int) / 2 + 1 = ((n / 2 + 1 : Nat) : Int) := by omega
    have hc3 : ((n / 2 : Nat) : Int) = (n : Int) / 2 := by omega
    have hbig2 : ((n / 2 * (k ^ (n / 2) + k ^ (n / 2 + 1)) : Nat) : Int) = ((n / 2 : Nat) : Int) * (((k ^ (n / 2) : Nat) : Int) + ((k ^ (n / 2 + 1) : Nat) : Int)) := by simp
    rw [hc3] at hbig2 ⊢
    have C1 := hid hc1
    have C2 := hid hc2
    clear E hh hc1 hc2 hc3 hp1
    generalize turnS k n n = T at *
    generalize k ^ (n / 2) = X at *
    generalize k ^ (n / 2 + 1) = Y at *
    have g1 : 0 ≤ (n : Int) / 2 * ((X : Int) + (Y : Int)) := by omega
    have g2 : (n : Int) / 2 * ((X : Int) + (Y : Int)) ≤ 4000000000000000000 := by omega
    have g3 : 0 ≤ ((T : Int) + (n : Int) / 2 * ((X : Int) + (Y : Int))) / (2 * (n : Int)) := Int.ediv_nonneg (by omega) (by omega)
    have g4 : ((T : Int) + (n : Int) / 2 * ((X : Int) + (Y : Int))) / (2 * (n : Int)) ≤ ((T : Int) + (n : Int) / 2 * ((X : Int) + (Y : Int))) := Int.ediv_le_self _ (by omega)
    clear hbig hbig2 hpar e1
    go_enter Try.func49, Try.ntmps49
    go_wp2_with fail
    refine H.out.mono ?_
    rintro e w' ⟨rfl, rfl⟩
    go_wp2_with fail
    rw [C1.out]
    refine (P1.out _).mono ?_
    rintro e w' ⟨rfl, rfl⟩
    go_wp2_with fail
    rw [C2.out]
    refine (P2.out _).mono ?_
    rintro e w' ⟨rfl, rfl⟩
    go_wp2_with fail
    refine (HT.out _).mono ?_
    rintro e w' ⟨rfl, m, rfl⟩
    go_wp2
    go_ret2
    exact ⟨rfl, m, rfl⟩
  · have E := brac_odd (k := k) hn (by omega) hpar
    have hb2 : ((n : Int) % 2 == 0) = false := by rw [beq_eq_false_iff_ne]; omega
    rw [← E]
    have hc1 : ((n : Int) + 1) / 2 = (((n + 1) / 2 : Nat) : Int) := by omega
    have hc2 : (n : Int) / 2 + 1 = ((n / 2 + 1 : Nat) : Int) := by omega
    have C1 := hid hc1
    have C2 := hid hc2
    clear E hc1 hc2
    generalize turnS k n n = T at *
    generalize k ^ ((n + 1) / 2) = X at *
    generalize k ^ (n / 2 + 1) = Y at *
    have g3 : 0 ≤ ((T : Int) + (n : Int) * (X : Int)) / (2 * (n : Int)) := Int.ediv_nonneg (by omega) (by omega)
    have g4 : ((T : Int) + (n : Int) * (X : Int)) / (2 * (n : Int)) ≤ (T : Int) + (n : Int) * (X : Int) := Int.ediv_le_self _ (by omega)
    clear hpar e1
    go_enter Try.func49, Try.ntmps49
    go_wp2_with fail
    refine H.out.mono ?_
    rintro e w' ⟨rfl, rfl⟩
    go_wp2_with fail
    rw [C1.out]
    refine (P1.out _).mono ?_
    rintro e w' ⟨rfl, rfl⟩
    go_wp2_with fail
    rw [C2.out]
    refine (P2.out _).mono ?_
    rintro e w' ⟨rfl, rfl⟩
    go_wp2_with fail
    refine (HT.out _).mono ?_
    rintro e w' ⟨rfl, m, rfl⟩
    go_wp2
    go_ret2
    exact ⟨rfl, m, rfl⟩
theorem Bracelets_ok (n k : Nat) (w : World) (hn : 1 ≤ n) (hk : 1 ≤ k) (i1 : I64 n) (i2 : I64 k) (h : k ^ n ≤ 1000000000000000000) :
    Calls Try.prog 49 #[.int .i64 n, .int .i64 k] w fun e w' => e = .returned (.tuple #[.int .i64 (bracN n k), .int .i64 0]) ∧ ∃ m, w' = w.drewN m := by
  by_cases h1 : k = 1
  · subst h1; exact Bracelets_one n w hn i1
  · exact Bracelets_more n k w hn (by omega) i1 i2 h
end Go.Proofs.Ytnbgnoimanpjnaa
/-
  The group of one turn, and of a turn and a mirror: what it has, how many cycles each; rings and bracelets are its colourings. No program in sight.
-/
namespace Go.Proofs.Ytnbgnoimanpjnaa
set_option linter.unusedVariables false

def rotF (n t i : Nat) : Nat := if i < n then (i + t) % n else i
def ovrF (n i : Nat) : Nat := if i < n then n - 1 - i else i
def mirF (n t : Nat) : Nat → Nat := compF (rotF n t) (ovrF n)
def RT (n : Nat) : List (Nat → Nat) := (List.range n).map (rotF n)
def MT (n : Nat) : List (Nat → Nat) := (List.range n).map (mirF n)
theorem rot_out {n t i : Nat} (h : ¬ i < n) : rotF n t i = i := if_neg h
theorem ovr_out {n i : Nat} (h : ¬ i < n) : ovrF n i = i := if_neg h
theorem mir_out {n t i : Nat} (h : ¬ i < n) : mirF n t i = i := by
  unfold mirF compF
  rw [rot_out h, ovr_out h]
theorem rot_mv {n : Nat} (hn : n ≤ 7) (t : Nat) (ht : t < n) : Mv n (rotF n t) := by
  have h1 : ∀ n < 8, ∀ t < n, ∀ i < n, rotF n t i < n := by decide +kernel
  have h2 : ∀ n < 8, ∀ t < n, ∀ i < n, ∀ j < n, rotF n t i = rotF n t j → i = j := by decide +kernel
  exact ⟨⟨fun i hi => h1 n (by omega) t ht i hi, fun i j hi hj e => h2 n (by omega) t ht i hi j hj e⟩, fun i hi => rot_out (by omega)⟩
theorem ovr_mv {n : Nat} : Mv n (ovrF n) := by
  refine ⟨⟨fun i hi => ?_, fun i j hi hj e => ?_⟩, fun i hi => ovr_out (by omega)⟩
  · unfold ovrF
    rw [if_pos hi]
    omega
  · unfold ovrF at e
    rw [if_pos hi, if_pos hj] at e
    omega
theorem rot_zero {n : Nat} (hn : n ≤ 7) : rotF n 0 = id := by
  funext i
  by_cases h : i < n
  · unfold rotF
    rw [if_pos h, Nat.add_zero, Nat.mod_eq_of_lt h]
    rfl
  · exact rot_out h
theorem rot_one {n : Nat} (hn : n ≤ 7) : rotF n 1 = rotF n (1 % n) := by
  have h0 : ∀ n < 8, ∀ i < n, rotF n 1 i = rotF n (1 % n) i := by decide +kernel
  funext i
  by_cases h : i < n
  · exact h0 n (by omega) i h
  · rw [rot_out h, rot_out h]
theorem rot1_mv {n : Nat} (hn : n ≤ 7) (h1 : 1 ≤ n) : Mv n (rotF n 1) := by
  rw [rot_one hn]
  exact rot_mv hn _ (Nat.mod_lt _ (by omega))
theorem rot_rot {n t : Nat} (hn : n ≤ 7) (ht : t < n) : compF (rotF n t) (rotF n 1) = rotF n ((t + 1) % n) := by
  have h0 : ∀ n < 8, ∀ t < n, ∀ i < n, rotF n 1 (rotF n t i) = rotF n ((t + 1) % n) i := by decide +kernel
  funext i
  by_cases h : i < n
  · exact h0 n (by omega) t ht i h
  · unfold compF
    rw [rot_out h, rot_out h, rot_out h]
theorem mir_rot {n t : Nat} (hn : n ≤ 7) (ht : t < n) : compF (mirF n t) (rotF n 1) = mirF n ((t + n - 1) % n) := by
  have h0 : ∀ n < 8, ∀ t < n, ∀ i < n, rotF n 1 (mirF n t i) = mirF n ((t + n - 1) % n) i := by decide +kernel
  funext i
  by_cases h : i < n
  · exact h0 n (by omega) t ht i h
  · unfold compF
    rw [mir_out h, rot_out h, mir_out h]
theorem mir_ovr {n t : Nat} (hn : n ≤ 7) (ht : t < n) : compF (mirF n t) (ovrF n) = rotF n t := by
  have h0 : ∀ n < 8, ∀ t < n, ∀ i < n, ovrF n (mirF n t i) = rotF n t i := by decide +kernel
  funext i
  by_cases h : i < n
  · exact h0 n (by omega) t ht i h
  · unfold compF
    rw [mir_out h, ovr_out h, rot_out h]
theorem mem_RT {n : Nat} {x : Nat → Nat} : x ∈ RT n ↔ ∃ t, t < n ∧ x = rotF n t := by
  unfold RT
  simp only [List.mem_map, List.mem_range]
  exact ⟨fun ⟨t, h, e⟩ => ⟨t, h, e.symm⟩, fun ⟨t, h, e⟩ => ⟨t, h, e.symm⟩⟩
theorem mem_MT {n : Nat} {x : Nat → Nat} : x ∈ MT n ↔ ∃ t, t < n ∧ x = mirF n t := by
  unfold MT
  simp only [List.mem_map, List.mem_range]
  exact ⟨fun ⟨t, h, e⟩ => ⟨t, h, e.symm⟩, fun ⟨t, h, e⟩ => ⟨t, h, e.symm⟩⟩
theorem gen_rot {n : Nat} (hn : n ≤ 7) {ms : List (Nat → Nat)} (h1 : rotF n 1 ∈ ms) : ∀ t, t < n → GenF ms (rotF n t)
  | 0, _ => by rw [rot_zero hn]; exact GenF.one
  | t + 1, h => by
    have := GenF.step (gen_rot hn h1 t (by omega)) h1
    rw [rot_rot hn (by omega), Nat.mod_eq_of_lt h] at this
    exact this
theorem gen_one {n : Nat} (hn : n ≤ 7) (hn1 : 1 ≤ n) (x : Nat → Nat) : GenF [rotF n 1] x ↔ x ∈ RT n := by
  constructor
  · intro h
    induction h with
    | one => exact mem_RT.2 ⟨0, by omega, (rot_zero hn).symm⟩
    | step _ hm ih =>
      obtain ⟨t, ht, rfl⟩ := mem_RT.1 ih
      rw [List.mem_singleton.1 hm, rot_rot hn ht]
      exact mem_RT.2 ⟨_, Nat.mod_lt _ (by omega), rfl⟩
  · intro h
    obtain ⟨t, ht, rfl⟩ := mem_RT.1 h
    exact gen_rot hn (by simp) t ht
theorem gen_two {n : Nat} (hn : n ≤ 7) (hn1 : 1 ≤ n) (x : Nat → Nat) : GenF [rotF n 1, ovrF n] x ↔ x ∈ RT n ++ MT n := by
  rw [List.mem_append]
  constructor
  · intro h
    induction h with
    | one => exact .inl (mem_RT.2 ⟨0, by omega, (rot_zero hn).symm⟩)
    | @step x m _ hm ih =>
      have hm2 : m = rotF n 1 ∨ m = ovrF n := by simpa using hm
      rcases ih with ih | ih
      · obtain ⟨t, ht, rfl⟩ := mem_RT.1 ih
        rcases hm2 with rfl | rfl
        · rw [rot_rot hn ht]
          exact .inl (mem_RT.2 ⟨_, Nat.mod_lt _ (by omega), rfl⟩)
        · exact .inr (mem_MT.2 ⟨t, ht, rfl⟩)
      · obtain ⟨t, ht, rfl⟩ := mem_MT.1 ih
        rcases hm2 with rfl | rfl
        · rw [mir_rot hn ht]
          exact .inr (mem_MT.2 ⟨_, Nat.mod_lt _ (by omega), rfl⟩)
        · rw [mir_ovr hn ht]
          exact .inl (mem_RT.2 ⟨t, ht, rfl⟩)
  · rintro (h | h)
    · obtain ⟨t, ht, rfl⟩ := mem_RT.1 h
      exact gen_rot hn (by simp) t ht
    · obtain ⟨t, ht, rfl⟩ := mem_MT.1 h
      exact GenF.step (gen_rot hn (by simp) t ht) (by simp)
theorem nodup_key {α : Type} (f : α → Nat) {l : List α} (h : (l.map f).Nodup) : l.Nodup := by
  unfold List.Nodup at h ⊢
  rw [List.pairwise_map] at h
  exact h.imp fun h e => h (by rw [e])
theorem RT_nodup {n : Nat} (hn : n ≤ 7) : (RT n).Nodup := by
  have h0 : ∀ n < 8, ((RT n).map fun x => x 0).Nodup := by decide +kernel
  exact nodup_key _ (h0 n (by omega))
theorem DT_nodup {n : Nat} (hn : n ≤ 7) (h3 : 3 ≤ n) : (RT n ++ MT n).Nodup := by
  have h0 : ∀ n < 8, 3 ≤ n → ((RT n ++ MT n).map fun x => x 0 * 8 + x 1).Nodup := by decide +kernel
  exact nodup_key _ (h0 n (by omega) h3)
theorem cyc_rot {n t : Nat} (hn : n ≤ 7) (ht : t < n) : cyK n (rotF n t) = Nat.gcd n t := by
  have h0 : ∀ n < 8, ∀ t < n, cyK n (rotF n t) = Nat.gcd n t := by decide +kernel
  exact h0 n (by omega) t ht
theorem cyc_mir {n t : Nat} (hn : n ≤ 7) (ht : t < n) : cyK n (mirF n t) = if n % 2 = 1 then (n + 1) / 2 else if t % 2 = 0 then n / 2 else n / 2 + 1 := by
  have h0 : ∀ n < 8, ∀ t < n, cyK n (mirF n t) = if n % 2 = 1 then (n + 1) / 2 else if t % 2 = 0 then n / 2 else n / 2 + 1 := by decide +kernel
  exact h0 n (by omega) t ht
/-- The same elements, each once: the same sum and the same number. -/
theorem gl_same {n : Nat} {ms L : List (Nat → Nat)} (hms : ∀ m ∈ ms, Mv n m) (hL : L.Nodup) (h : ∀ x, GenF ms x ↔ x ∈ L) (k : Nat) : colS n (GL n ms) k = (L.map fun x => k ^ cyK n x).sum ∧ (GL n ms).length = L.length := by
  have hp : (GL n ms).Perm L := (List.perm_ext_iff_of_nodup (GL_nodup n ms) hL).2 fun x => by rw [mem_GL hms, h]
  exact ⟨(hp.map _).sum_nat, hp.length_eq⟩
theorem sum_range (g : Nat → Nat) : ∀ m, ((List.range m).map g).sum = sumN g m
  | 0 => rfl
  | m + 1 => by
    rw [List.range_succ, List.map_append, List.sum_append, sum_range g m]
    simp [sumN]
theorem turn_sum (k n : Nat) : ∀ t, sumN (fun t => k ^ Nat.gcd n t) t = turnS k n t
  | 0 => rfl
  | t + 1 => by rw [sumN, turnS, turn_sum k n t]
theorem rt_sum {n : Nat} (hn : n ≤ 7) (k : Nat) : ((RT n).map fun x => k ^ cyK n x).sum = turnS k n n := by
  unfold RT
  rw [List.map_map, sum_range, ← turn_sum]
  exact sumN_congr n fun t ht => by
    show k ^ cyK n (rotF n t) = _
    rw [cyc_rot hn ht]
theorem rings_same {n k : Nat} (hn : n ≤ 7) (hn1 : 1 ≤ n) (hk : 1 ≤ k) : ((colS n (GL n [rotF n 1]) k / (GL n [rotF n 1]).length : Nat) : Int) = beadsN n k := by
  obtain ⟨h1, h2⟩ := gl_same (n := n) (ms := [rotF n 1]) (fun m hm => by rw [List.mem_singleton.1 hm]; exact rot1_mv hn hn1) (RT_nodup hn) (gen_one hn hn1) k
  have hl : (RT n).length = n := by simp [RT]
  rw [h1, h2, hl, rt_sum hn]
  unfold beadsN
  by_cases e : k = 1
  · subst e
    rw [if_pos rfl]
    have h0 : ∀ n < 8, 1 ≤ n → ((turnS 1 n n / n : Nat) : Int) = 1 := by decide +kernel
    exact h0 n (by omega) hn1
  · rw [if_neg e, ← bsum_div hn1 (by omega), Int.natCast_ediv]
theorem mt_sum {n : Nat} (hn : n ≤ 7) (hn1 : 1 ≤ n) (k : Nat) : ((MT n).map fun x => k ^ cyK n x).sum = if n % 2 = 1 then n * k ^ ((n + 1) / 2) else n / 2 * (k ^ (n / 2) + k ^ (n / 2 + 1)) := by
  unfold MT
  rw [List.map_map, sum_range, sumN_congr n (h := fun t => k ^ (if n % 2 = 1 then (n + 1) / 2 else if t % 2 = 0 then n / 2 else n / 2 + 1)) fun t ht => by
    show k ^ cyK n (mirF n t) = _
    rw [cyc_mir hn ht]]
  have h7 : n = 1 ∨ n = 2 ∨ n = 3 ∨ n = 4 ∨ n = 5 ∨ n = 6 ∨ n = 7 := by omega
  rcases h7 with rfl | rfl | rfl | rfl | rfl | rfl | rfl <;> simp [sumN] <;> omega
theorem brace_same {n k : Nat} (hn : n ≤ 7) (hn1 : 1 ≤ n) (hk : 1 ≤ k) : ((colS n (GL n [rotF n 1, ovrF n]) k / (GL n [rotF n 1, ovrF n]).length : Nat) : Int) = bracN n k := by
  have hms : ∀ m ∈ [rotF n 1, ovrF n], Mv n m := fun m hm => by
    have : m = rotF n 1 ∨ m = ovrF n := by simpa using hm
    rcases this with rfl | rfl
    · exact rot1_mv hn hn1
    · exact ovr_mv
  have hl : (RT n).length = n := by simp [RT]
  have hm : (MT n).length = n := by simp [MT]
  by_cases h3 : 3 ≤ n
  · obtain ⟨h1, h2⟩ := gl_same hms (DT_nodup hn h3) (gen_two hn hn1) k
    rw [h1, h2, List.length_append, hl, hm, List.map_append, List.sum_append, rt_sum hn, mt_sum hn hn1]
    unfold bracN
    by_cases e : k = 1
    · subst e
      rw [if_pos rfl]
      have h0 : ∀ n < 8, 3 ≤ n → (((turnS 1 n n + if n % 2 = 1 then n * 1 ^ ((n + 1) / 2) else n / 2 * (1 ^ (n / 2) + 1 ^ (n / 2 + 1))) / (n + n) : Nat) : Int) = 1 := by decide +kernel
      exact h0 n (by omega) h3
    · rw [if_neg e, ← brac_div hn1]
      by_cases ho : n % 2 = 1
      · rw [if_pos ho, ← brac_odd hn1 (by omega) ho, Int.natCast_ediv, Int.natCast_add, Int.natCast_mul, Int.natCast_add, show (2 : Int) * (n : Int) = (n : Int) + (n : Int) by omega]
      · rw [if_neg ho, ← brac_even hn1 (by omega) (by omega), Int.natCast_ediv, Int.natCast_add, Int.natCast_mul, Int.natCast_add, Int.natCast_add, show (2 : Int) * (n : Int) = (n : Int) + (n : Int) by omega]
  · have hsub : ∀ x, GenF [rotF n 1, ovrF n] x ↔ x ∈ RT n := fun x => by
      rw [gen_two hn hn1, List.mem_append]
      refine ⟨fun h => h.elim id fun h => ?_, .inl⟩
      obtain ⟨t, ht, rfl⟩ := mem_MT.1 h
      have h0 : ∀ n < 3, ∀ t < n, ∀ i < n, mirF n t i = rotF n ((t + n - 1) % n) i := by decide +kernel
      refine mem_RT.2 ⟨(t + n - 1) % n, Nat.mod_lt _ (by omega), funext fun i => ?_⟩
      by_cases h : i < n
      · exact h0 n (by omega) t ht i h
      · rw [mir_out h, rot_out h]
    obtain ⟨h1, h2⟩ := gl_same hms (RT_nodup hn) hsub k
    rw [h1, h2, hl, rt_sum hn]
    unfold bracN
    by_cases e : k = 1
    · subst e
      rw [if_pos rfl]
      have h0 : ∀ n < 3, 1 ≤ n → ((turnS 1 n n / n : Nat) : Int) = 1 := by decide +kernel
      exact h0 n (by omega) hn1
    · rw [if_neg e, ← bsum_div hn1 (by omega)]
      have h12 : n = 1 ∨ n = 2 := by omega
      rcases h12 with rfl | rfl
      · simp [turnS, ownN]
        omega
      · simp [turnS, ownN]
        omega
end Go.Proofs.Ytnbgnoimanpjnaa
/-
  The walk over parterrelaw1.CountRound. Conditions: numbers of 64 bits.
-/
namespace Go.Proofs.Ytnbgnoimanpjnaa
set_option linter.unusedVariables false
open Go.RowKit

theorem gbeads_6_3 : beadsN 6 3 = 130 := by decide +kernel
theorem gbeads_any (w : World) :
    Calls Try.prog 47 #[] w fun e w' => e = .returned (.bool true) ∧ ∃ m, w' = w.drewN m := by
  have H := hid (Beads_ok 6 3 w (by decide) (by decide) (by unfold I64; decide) (by unfold I64; decide) (by decide))
  rw [gbeads_6_3] at H
  go_enter Try.func47, Try.ntmps47
  go_wp2_with fail
  refine H.out.mono ?_
  rintro e w' ⟨rfl, m, rfl⟩
  go_wp2
  go_ret
  exact ⟨rfl, m, rfl⟩
/-- One list, two lists, written out. -/
theorem rl_lit1 {w : World} {s : Value} {l : List Int} (h : Sl w s l) (t : TypeId) : RL (w.alloc (.cells #[s] t)) (.slice (some ⟨w.heap.size, 0, none⟩) 1 1) [l] := by
  have h' : Sl (w.alloc (.cells #[s] t)) s l := h.below ((Below.refl _ _).alloc (Nat.le_refl _) _)
  refine ⟨_, _, rfl, ⟨by simp, Nat.le_refl _⟩, fun _ => ⟨_, 0, rfl, by simp, fun i hi => ?_⟩⟩
  obtain rfl : i = 0 := by simpa using hi
  exact ⟨s, by rw [Nat.zero_add]; exact lit_cell _ _ _, h'⟩
theorem rl_lit2 {w : World} {s u : Value} {l m : List Int} (h : Sl w s l) (g : Sl w u m) (t : TypeId) : RL (w.alloc (.cells #[s, u] t)) (.slice (some ⟨w.heap.size, 0, none⟩) 2 2) [l, m] := by
  have h' : Sl (w.alloc (.cells #[s, u] t)) s l := h.below ((Below.refl _ _).alloc (Nat.le_refl _) _)
  have g' : Sl (w.alloc (.cells #[s, u] t)) u m := g.below ((Below.refl _ _).alloc (Nat.le_refl _) _)
  refine ⟨_, _, rfl, ⟨by simp, Nat.le_refl _⟩, fun _ => ⟨_, 0, rfl, by simp, fun i hi => ?_⟩⟩
  have hi2 : i = 0 ∨ i = 1 := by
    have : i < 2 := by simpa using hi
    omega
  rcases hi2 with rfl | rfl
  · exact ⟨s, by simp, h'⟩
  · exact ⟨u, by simp, g'⟩
theorem grp_el {n : Nat} (hn1 : 1 ≤ n) (hn : n ≤ 7) {L : List (Nat → Nat)} (hL : ∀ x ∈ L, Mv n x) (h4 : L.length ≤ 4) : grpE (n : Int) (L.map (elL n)) = 0 := by
  unfold grpE
  rw [if_neg (by omega), if_neg (by rw [List.length_map]; omega)]
  induction L with
  | nil => rfl
  | cons x L ih =>
    rw [List.map_cons, firstE, elL_memE (by omega) (hL x (by simp)), if_neg (by decide)]
    exact ih (fun y hy => hL y (by simp [hy])) (by simp at h4; omega)
theorem elL_succ (n : Nat) (x : Nat → Nat) : elL (n + 1) x = elL n x ++ [((x n : Nat) : Int)] := by
  unfold elL
  rw [List.range_succ, List.map_append]
  rfl

set_option maxHeartbeats 1000000 in
theorem ground_out (w : World) (n k : Int) (h : n < 1 ∨ 7 < n ∨ k < 1 ∨ 200 < k) :
    Calls Try.prog 12 #[.int .i64 n, .int .i64 k] w fun e w' => e = .returned (.bool true) ∧ Below w.heap.size w w' := by
  have HB := hid (gbeads_any w)
  have h1 : n < 1 ∨ ¬ n < 1 ∧ (7 < n ∨ ¬ 7 < n ∧ (k < 1 ∨ ¬ k < 1 ∧ 200 < k)) := by omega
  clear h
  go_enter Try.func12, Try.ntmps12
  go_wp2_with fail
  refine HB.out.mono ?_
  rintro e w1 ⟨rfl, m, rfl⟩
  have H1 := hid (below_drewN (Below.refl w.heap.size w) m)
  rcases h1 with h1 | ⟨h1, h1 | ⟨h2, h1 | ⟨h3, h1⟩⟩⟩
  · go_wp2
    go_ret
    exact ⟨rfl, H1.out⟩
  · go_wp2
    go_ret
    exact ⟨rfl, H1.out⟩
  · go_wp2
    go_ret
    exact ⟨rfl, H1.out⟩
  · go_wp2
    go_ret
    exact ⟨rfl, H1.out⟩

set_option maxHeartbeats 4000000 in
set_option maxRecDepth 100000 in
theorem ground_ok (w : World) (n k : Nat) (hn1 : 1 ≤ n) (hn : n ≤ 7) (hk1 : 1 ≤ k) (hk : k ≤ 200) :
    Calls Try.prog 12 #[.int .i64 n, .int .i64 k] w fun e w' => e = .returned (.bool true) ∧ Below w.heap.size w w' := by
  have HB := hid (gbeads_any w)
  have hpow : k ^ n ≤ 1000000000000000000 := Nat.le_trans (pow_bd hk1 hk hn) (by decide)
  have in1 : I64 (n : Int) := by unfold I64; omega
  have ik1 : I64 (k : Int) := by unfold I64; omega
  have HBE := hid (fun w1 => Beads_ok n k w1 hn1 hk1 in1 ik1 hpow)
  have HBR := hid (fun w1 => Bracelets_ok n k w1 hn1 hk1 in1 ik1 hpow)
  have hr1 := rot1_mv hn hn1
  have hm1 : ∀ m ∈ [rotF n 1], Mv n m := fun m hm => by rw [List.mem_singleton.1 hm]; exact hr1
  have hm2 : ∀ m ∈ [rotF n 1, ovrF n], Mv n m := fun m hm => by
    have : m = rotF n 1 ∨ m = ovrF n := by simpa using hm
    rcases this with rfl | rfl
    · exact hr1
    · exact ovr_mv
  have HC1 := hid (fun (u : Value) (w1 : World) (hu : RL w1 u [elL n (rotF n 1)]) => col_ok n k u [elL n (rotF n 1)] w1 hu (grp_el hn1 hn hm1 (by simp)) hk1 hk)
  have HC2 := hid (fun (u : Value) (w1 : World) (hu : RL w1 u [elL n (rotF n 1), elL n (ovrF n)]) => col_ok n k u [elL n (rotF n 1), elL n (ovrF n)] w1 hu (grp_el hn1 hn hm2 (by simp)) hk1 hk)
  rw [show msL n [elL n (rotF n 1)] = [rotF n 1] from msL_el hm1, rings_same hn hn1 hk1] at HC1
  rw [show msL n [elL n (rotF n 1), elL n (ovrF n)] = [rotF n 1, ovrF n] from msL_el hm2, brace_same hn hn1 hk1] at HC2
  have HR : Hid (∀ i, i < n → ((i : Int) + 1) % (n : Int) = ((rotF n 1 i : Nat) : Int)) := hid (fun i hi => by
    unfold rotF
    rw [if_pos hi, Int.natCast_emod]
    rfl)
  have HO : Hid (∀ i, i < n → (n : Int) - 1 - (i : Int) = ((ovrF n i : Nat) : Int)) := hid (fun i hi => by
    unfold ovrF
    rw [if_pos hi]
    omega)
  have HRL := hid (fun i (hi : i < n) => hr1.pm.lt i hi)
  have HOL := hid (fun i (hi : i < n) => (ovr_mv (n := n)).pm.lt i hi)
  have HES := hid elL_succ
  have HEL := hid elL_len
  clear hm1 hm2 hr1 hpow in1 ik1
  generalize beadsN n k = BN at *
  generalize bracN n k = CN at *
  generalize rotF n 1 = rf at *
  generalize ovrF n = of at *
  have h1 : ¬ (n : Int) < 1 := by omega
  have h2 : ¬ (7 : Int) < (n : Int) := by omega
  have h3 : ¬ (k : Int) < 1 := by omega
  have h4 : ¬ (200 : Int) < (k : Int) := by omega
  go_enter Try.func12, Try.ntmps12
  go_wp2_with fail
  refine HB.out.mono ?_
  rintro e w1 ⟨rfl, m, rfl⟩
  have H1 := hid (below_drewN (Below.refl w.heap.size w) m)
  go_wp2_with fail
  go_loopw [6, 7, 8] (fun v6 v7 v8 wr => ∃ i : Nat, v8 = .int .i64 i ∧ i ≤ n ∧ OI w.heap.size wr v6 (elL i rf) ∧ OI w.heap.size wr v7 (elL i of) ∧ Apart v6 v7 ∧ Below w.heap.size w wr) (fun _ _ v8 _ => n - (intOf v8).toNat)
  case atStart => exact ⟨0, rfl, Nat.zero_le _, OI.nil _ _, OI.nil _ _, Apart.nil _, H1.out⟩
  case round =>
    clear H1
    obtain ⟨i, rfl, hi, ho6, ho7, hap, hb⟩ := hrel
    by_cases hlt : i < n
    · have hii : (i : Int) < (n : Int) := by omega
      have hr := HR.out i hlt
      have ho := HO.out i hlt
      have hrl := HRL.out i hlt
      have hol := HOL.out i hlt
      have hn0 : (n : Int) ≠ 0 := by omega
      have hl6 : (elL i rf).length ≤ 1000000000000 := by rw [HEL.out]; omega
      have hl7 : (elL i of).length ≤ 1000000000000 := by rw [HEL.out]; omega
      have hsz := hb.size
      have HI := hid (And.intro ho6 (And.intro ho7 (And.intro hap hb)))
      clear ho6 ho7 hap hb
      generalize hrv : rf i = rv at *
      generalize hov : of i = ov at *
      have HS6 := hid (HES.out i rf)
      have HS7 := hid (HES.out i of)
      rw [hrv] at HS6
      rw [hov] at HS7
      clear hrv hov
      go_wp2_with (first
        | (at_builtin; refine wpList_appi wr (.tmp 37) _ 23 rfl rfl Try.underlying23 Try.info3 w.heap.size _ _ rfl HI.out.1 rfl hl6 hsz ?_
           intro g6 c6 w6 hown6 hg61 hg62 hg63
           replace hg61 : wr.grownBy w6 u6.ownBlock := hg61
           replace hg62 : u6.ownBlock = some g6 ∨ wr.heap.size ≤ g6 := hg62
           have h76 := HI.out.2.1.kept hg61 (by
             cases e : u6.ownBlock with
             | none =>
               cases e7 : u7.ownBlock with
               | none => exact .inl rfl
               | some x => right; simp
             | some x => right; exact HI.out.2.2.1 x e)
           have hap6 : Apart (.slice (some ⟨g6, 0, none⟩) ((elL i rf).length + 1) c6) u7 := Apart.app HI.out.2.2.1 HI.out.2.1 (fun g e => by cases e; exact hg62)
           have hb6 := HI.out.1.grown HI.out.2.2.2 hg61 hsz
           have H6 := hid (And.intro hown6 (And.intro h76 (And.intro hap6 hb6)))
           have hsz6 := hb6.size
           clear hown6 hg61 hg62 hg63 h76 hap6 hb6)
        | (at_builtin; refine wpList_appi w6 (.tmp 44) _ 23 rfl rfl Try.underlying23 Try.info3 w.heap.size _ _ rfl H6.out.2.1 rfl hl7 hsz6 ?_
           intro g7 c7 w7 hown7 hg71 hg72 hg73
           replace hg71 : w6.grownBy w7 u7.ownBlock := hg71
           replace hg72 : u7.ownBlock = some g7 ∨ w6.heap.size ≤ g7 := hg72
           have hq : Apart u7 (.slice (some ⟨g6, 0, none⟩) ((elL i rf).length + 1) c6) := fun g e e2 => H6.out.2.2.1 g e2 e
           have h67 := H6.out.1.kept hg71 (.inr (fun e => hq g6 e.symm rfl))
           have hap7 : Apart (.slice (some ⟨g7, 0, none⟩) ((elL i of).length + 1) c7) (.slice (some ⟨g6, 0, none⟩) ((elL i rf).length + 1) c6) := Apart.app hq H6.out.1 (fun g e => by cases e; exact hg72)
           have hap7' : Apart (.slice (some ⟨g6, 0, none⟩) ((elL i rf).length + 1) c6) (.slice (some ⟨g7, 0, none⟩) ((elL i of).length + 1) c7) := fun g e e2 => hap7 g e2 e
           have hb7 := H6.out.2.1.grown H6.out.2.2.2 hg71 hsz6
           have H7 := hid (And.intro h67 (And.intro hown7 (And.intro hap7' hb7)))
           clear hown7 hg71 hg72 hg73 h67 hap7 hap7' hb7 hq)
        | fail)
      go_roundw
      case rel => exact ⟨i + 1, by go_num, by omega, by rw [HS6.out]; exact H7.out.1, by rw [HS7.out]; exact H7.out.2.1, H7.out.2.2.1, H7.out.2.2.2⟩
      case measure => simp [intOf] <;> omega
    · obtain rfl : i = n := by omega
      have hii : ¬ (i : Int) < (i : Int) := by omega
      obtain ⟨a6, c6, e6⟩ := ho6.len
      obtain ⟨a7, c7, e7⟩ := ho7.len
      rw [HEL.out] at e6 e7
      subst e6 e7
      have HI := hid (And.intro (ho6.sl (by rw [HEL.out]; omega)) (And.intro (ho7.sl (by rw [HEL.out]; omega)) hb))
      clear ho6 ho7 hap hb
      go_wp2_with fail
      refine (HBE.out _).mono ?_
      rintro e w2 ⟨rfl, m2, rfl⟩
      go_wp2_with fail
      refine (HC1.out _ _ (rl_lit1 (HI.out.1.drewN m2) _)).mono ?_
      rintro e w3 ⟨rfl, hb3⟩
      have hb3' : Below wr.heap.size wr w3 := ((below_drewN (Below.refl wr.heap.size wr) m2).alloc (Nat.le_refl _) _).trans (hb3.mono (by simp))
      have H3 := hid (And.intro (HI.out.1.below hb3') (And.intro (HI.out.2.1.below hb3') (HI.out.2.2.trans (hb3'.mono HI.out.2.2.size))))
      clear hb3 hb3'
      go_wp2_with fail
      refine (HBR.out _).mono ?_
      rintro e w4 ⟨rfl, m4, rfl⟩
      go_wp2_with fail
      refine (HC2.out _ _ (rl_lit2 (H3.out.1.drewN m4) (H3.out.2.1.drewN m4) _)).mono ?_
      rintro e w5 ⟨rfl, hb5⟩
      have hb5' : Below w3.heap.size w3 w5 := ((below_drewN (Below.refl w3.heap.size w3) m4).alloc (Nat.le_refl _) _).trans (hb5.mono (by simp))
      have H5 := hid (H3.out.2.2.trans (hb5'.mono H3.out.2.2.size))
      clear hb5 hb5'
      go_wp2
      go_ret
      exact ⟨by simp, H5.out⟩

theorem ground_walk (w : World) (n : Int) (_hn : I64 n) (k : Int) (_hk : I64 k) :
    Calls Try.prog 12 #[.int .i64 n, .int .i64 k] w fun e w' => e = .returned (.bool true) ∧ Below w.heap.size w w' := by
  by_cases h : n < 1 ∨ 7 < n ∨ k < 1 ∨ 200 < k
  · exact ground_out w n k h
  · obtain ⟨n', rfl⟩ : ∃ n' : Nat, n = n' := ⟨n.toNat, by omega⟩
    obtain ⟨k', rfl⟩ : ∃ k' : Nat, k = k' := ⟨k.toNat, by omega⟩
    exact ground_ok w n' k' (by omega) (by omega) (by omega) (by omega)
end Go.Proofs.Ytnbgnoimanpjnaa
namespace Go.Proofs.Ytnbgnoimanpjnaa.countRound
open Go.ChangeShapes Go.WideShapes Go.ChangeAt Go.RowKit
set_option linter.unusedVariables false

theorem own : ownKnob Try.prog.godebug = none := by kernel_rfl
theorem laidOut : laidOutB Try.prog = true := by kernel_rfl
set_option maxRecDepth 100000 in
theorem lifted (os : Os) (started : os.Started) (H : Type) (enc : TypeId × Value → H) :
    ReturnsInHanded {} Try.checked os 12 .any (Rows.countRoundSpec.pre6 enc Try.prog Try.f12 Rows.countRoundRow.domain false) (Rows.countRoundSpec.post enc Try.prog Try.f12 false true false false) := by
  refine returnsInHanded_of_change_sized (C := Try.checked) own started (by kernel_rfl) Try.func12
    (ChangeSpec.witness6 (enc := enc) (C := Try.checked) false ⟨#[], #[.int .i64 0, .int .i64 0], []⟩ 8 (by kernel_rfl) (by kernel_rfl) (by kernel_rfl) (by kernel_rfl)) ?_
  intro W base args ds gs before hval0 hW hcnd hsz0 _
  have hval : ∀ (j : Nat) t v, Try.f12.params[j]? = some t → args[j]? = some v → Value.okWide Try.prog W .any base t v := hval0
  have hsz : (DataW.weightsEach Try.prog (Try.f12.params.toList ++ Rows.countRoundSpec.plain.varTypes Try.prog) (ds ++ gs)).all (· ≤ reachBytes) = true := hsz0
  have hW' := hW
  obtain ⟨p, q, hA0, hV, rfl, hfz, hnd⟩ := hW
  have hA : DataW.TrodAll enc Try.prog W 0 (fun _ => true) true Try.f12.params.toList args.toList ds p := hA0
  rw [Try.params12] at hA hval hsz
  obtain ⟨v0, vs0, d0, ds0, p0, q0, hargs, rfl, rfl, h0, r0⟩ := trodAll_cons hA
  obtain ⟨v1, vs1, d1, ds1, p1, q1, rfl, rfl, rfl, h1, r1⟩ := trodAll_cons r0
  obtain ⟨rfl, rfl, rfl⟩ := trodAll_nil r1
  obtain rfl : args = #[v0, v1] := by cases args; simp_all
  obtain ⟨rfl, rfl⟩ := trodVars_none hV
  obtain ⟨a0, rfl, rfl, rfl, w0⟩ := open_int Try.underlying3 (hval 0 3 v0 rfl rfl) h0
  obtain ⟨a1, rfl, rfl, rfl, w1⟩ := open_int Try.underlying3 (hval 1 3 v1 rfl rfl) h1
  clear hA0 hval0 hsz hsz0
  refine (ground_walk W a0 (I64.of_wf w0) a1 (I64.of_wf w1)).mono fun e W' ⟨he, bel⟩ => ?_
  subst he
  exact ⟨_, rfl, _, _, _, [], _, [], hW', trodAll_mk1 (shut_bool Try.underlying4 _), (trodAll_cons_mk (shut_int Try.underlying3 w0) (trodAll_cons_mk (shut_int Try.underlying3 w1) trodAll_mk0)), rfl, bel.frame _, fun h => by cases h⟩

theorem over : Rows.countRoundRow.holds Try.pinned (OpenSpec.ofChange Rows.countRoundSpec) :=
  OpenClaim.holds_of_wide 12 Try.f12 rfl rfl rfl rfl rfl rfl rfl ⟨rfl, rfl, rfl, rfl, rfl⟩ rfl rfl rfl rfl rfl (by kernel_rfl) Try.func12 (by kernel_rfl)
    (of_decide_eq_true (by kernel_rfl)) (by unfold Func.isWrapper; first | (rw [if_pos (by decide +kernel)]; kernel_rfl) | (rw [if_neg (by decide +kernel)]; exact ⟨rfl, rfl⟩))
    (fun os started H enc _ => lifted os started H enc)

/-- The statement. -/
theorem proved : Rows.CountRoundSaid := over
#print axioms proved
end Go.Proofs.Ytnbgnoimanpjnaa.countRound
