/-
  Plain laws of Moebius' numbers up to 60 and of the sums over divisors. No program in sight, no condition.
-/
import Derived.Test.YthdlhfgeminoiaaDoorPlain
namespace Go.Proofs.YthdlhfgeminoiaaDoor

/-- word.moebius, pass by pass. -/
def mobL : Nat → Nat → Nat → Int → Option Int
  | 0, _, _, _ => none
  | f + 1, p, d, o => if d ≤ 1 then some o else if d % p ≠ 0 then mobL f (p + 1) d o else if d / p % p = 0 then some 0 else mobL f (p + 1) (d / p) (-o)
/-- parterreref4.mobius, pass by pass. -/
def mobR : Nat → Nat → Nat → Int → Option Int
  | 0, _, _, _ => none
  | f + 1, p, n, m => if n < p then some m else if n % p ≠ 0 then mobR f (p + 1) n m else if n / p % p = 0 then some 0 else mobR f (p + 1) (n / p) (-m)
def mu (d : Nat) : Int := (mobL 60 2 d 1).getD 0

theorem mob_all : ∀ d, d < 60 → mobL 60 2 (d + 1) 1 = some (mu (d + 1)) ∧ mobR 60 2 (d + 1) 1 = some (mu (d + 1)) ∧ -1 ≤ mu (d + 1) ∧ mu (d + 1) ≤ 1 := fun d h =>
  of_decide_eq_true (allB_spec (f := fun d => decide (mobL 60 2 (d + 1) 1 = some (mu (d + 1)) ∧ mobR 60 2 (d + 1) 1 = some (mu (d + 1)) ∧ -1 ≤ mu (d + 1) ∧ mu (d + 1) ≤ 1)) (n := 60) (by decide +kernel) d h)
theorem mob_L {d : Nat} (h1 : 1 ≤ d) (h2 : d ≤ 60) : mobL 60 2 d 1 = some (mu d) := by
  have := (mob_all (d - 1) (by omega)).1
  rwa [show d - 1 + 1 = d by omega] at this
theorem mob_R {d : Nat} (h1 : 1 ≤ d) (h2 : d ≤ 60) : mobR 60 2 d 1 = some (mu d) := by
  have := (mob_all (d - 1) (by omega)).2.1
  rwa [show d - 1 + 1 = d by omega] at this
theorem mu_bd {d : Nat} (h1 : 1 ≤ d) (h2 : d ≤ 60) : -1 ≤ mu d ∧ mu d ≤ 1 := by
  have := (mob_all (d - 1) (by omega)).2.2
  rwa [show d - 1 + 1 = d by omega] at this

/-- The sums of word.Primes and of parterreref4.PrimesOf, over d up to j. -/
def sumA (k n : Nat) : Nat → Int
  | 0 => 0
  | j + 1 => sumA k n j + if n % (j + 1) = 0 then mu (j + 1) * ((k ^ (n / (j + 1)) : Nat) : Int) else 0
def sumB (k n : Nat) : Nat → Int
  | 0 => 0
  | j + 1 => sumB k n j + if n % (j + 1) = 0 then mu (n / (j + 1)) * ((k ^ (j + 1) : Nat) : Int) else 0

/-- The divisors of n up to j. -/
def divs (n : Nat) : Nat → List Nat
  | 0 => []
  | j + 1 => if n % (j + 1) = 0 then divs n j ++ [j + 1] else divs n j
def sumOn (l : List Nat) (f : Nat → Int) : Int := (l.map f).foldr (· + ·) 0
theorem sumOn_app (l m : List Nat) (f : Nat → Int) : sumOn (l ++ m) f = sumOn l f + sumOn m f := by
  induction l with
  | nil => simp [sumOn]
  | cons x l ih => simp only [sumOn, List.cons_append, List.map_cons, List.foldr_cons] at ih ⊢; omega
theorem sumOn_rev (l : List Nat) (f : Nat → Int) : sumOn l.reverse f = sumOn l f := by
  induction l with
  | nil => rfl
  | cons x l ih => rw [List.reverse_cons, sumOn_app, ih]; simp [sumOn]; omega
theorem sumA_on (k n j : Nat) : sumA k n j = sumOn (divs n j) fun d => mu d * ((k ^ (n / d) : Nat) : Int) := by
  induction j with
  | zero => rfl
  | succ j ih =>
    simp only [sumA, divs]
    by_cases h : n % (j + 1) = 0
    · rw [if_pos h, if_pos h, sumOn_app, ih]; simp [sumOn]
    · rw [if_neg h, if_neg h, ih]; omega
theorem sumB_on (k n j : Nat) : sumB k n j = sumOn (divs n j) fun d => mu (n / d) * ((k ^ d : Nat) : Int) := by
  induction j with
  | zero => rfl
  | succ j ih =>
    simp only [sumB, divs]
    by_cases h : n % (j + 1) = 0
    · rw [if_pos h, if_pos h, sumOn_app, ih]; simp [sumOn]
    · rw [if_neg h, if_neg h, ih]; omega
def eqN : List Nat → List Nat → Bool
  | [], [] => true
  | x :: l, y :: m => x == y && eqN l m
  | _, _ => false
theorem eqN_spec : ∀ {l m : List Nat}, eqN l m = true → l = m
  | [], [], _ => rfl
  | x :: l, y :: m, h => by
    simp only [eqN, Bool.and_eq_true, beq_iff_eq] at h
    rw [h.1, eqN_spec h.2]
  | [], _ :: _, h => by simp [eqN] at h
  | _ :: _, [], h => by simp [eqN] at h
theorem divs_all : ∀ n, n < 61 → (divs n n).map (n / ·) = (divs n n).reverse ∧ (divs n n).map (fun d => n / (n / d)) = divs n n := fun n h =>
  have := allB_spec (f := fun n => eqN ((divs n n).map (n / ·)) (divs n n).reverse && eqN ((divs n n).map (fun d => n / (n / d))) (divs n n)) (n := 61) (by decide +kernel) n h
  have h2 := (Bool.and_eq_true _ _).mp this
  ⟨eqN_spec h2.1, eqN_spec h2.2⟩
theorem sumOn_map (l : List Nat) (g : Nat → Nat) (f : Nat → Int) : sumOn (l.map g) f = sumOn l (fun d => f (g d)) := by
  simp [sumOn, Function.comp_def]
theorem sumOn_congr {l : List Nat} {f g : Nat → Int} (h : l.map f = l.map g) : sumOn l f = sumOn l g := by
  simp [sumOn, h]
/-- Both sums are one. -/
theorem sum_same (k n : Nat) (h : n < 61) : sumA k n n = sumB k n n := by
  rw [sumA_on, sumB_on]
  obtain ⟨h1, h2⟩ := divs_all n h
  rw [← sumOn_rev (divs n n) (fun d => mu (n / d) * ((k ^ d : Nat) : Int)), ← h1, sumOn_map]
  refine sumOn_congr ?_
  have key : ∀ (l : List Nat), l.map (fun d => n / (n / d)) = l → l.map (fun d => mu d * ((k ^ (n / d) : Nat) : Int)) = l.map (fun d => mu (n / (n / d)) * ((k ^ (n / d) : Nat) : Int)) := by
    intro l
    induction l with
    | nil => intro _; rfl
    | cons x l ih =>
      intro h
      simp only [List.map_cons, List.cons.injEq] at h ⊢
      exact ⟨by rw [h.1], ih h.2⟩
  exact key _ h2

/-- Below 10^18: powers of at most half are below 10^9. -/
theorem pow_half {k n d : Nat} (hd : 2 ≤ d) (hk : 1 ≤ k) (h : k ^ n ≤ 1000000000000000000) : k ^ (n / d) ≤ 1000000000 := by
  have h1 : k ^ (n / d) * k ^ (n / d) ≤ k ^ n := by
    rw [← Nat.pow_add]
    refine Nat.pow_le_pow_right hk ?_
    have := Nat.div_mul_le_self n d
    have h3 : n / d * 2 ≤ n / d * d := Nat.mul_le_mul_left _ hd
    omega
  rcases Nat.lt_or_ge 1000000000 (k ^ (n / d)) with h2 | h2
  · exfalso
    have : 1000000001 * 1000000001 ≤ k ^ (n / d) * k ^ (n / d) := Nat.mul_le_mul h2 h2
    omega
  · exact h2
theorem mul_mu {m : Int} {p b : Nat} (h1 : -1 ≤ m) (h2 : m ≤ 1) (h3 : p ≤ b) : -(b : Int) ≤ m * (p : Int) ∧ m * (p : Int) ≤ (b : Int) := by
  have : m = -1 ∨ m = 0 ∨ m = 1 := by omega
  rcases this with rfl | rfl | rfl <;> omega
theorem sumA_bd {k n : Nat} (hk : 1 ≤ k) (hn : n ≤ 60) (h : k ^ n ≤ 1000000000000000000) : ∀ j, j ≤ n → -1000000000000000000 - (j : Int) * 1000000000 ≤ sumA k n j ∧ sumA k n j ≤ 1000000000000000000 + (j : Int) * 1000000000 ∧ (j = 0 → sumA k n j = 0)
  | 0, _ => by simp [sumA]
  | j + 1, hj => by
    have ih := sumA_bd hk hn h j (by omega)
    simp only [sumA]
    have hm := mu_bd (d := j + 1) (by omega) (by omega)
    split
    · by_cases h0 : j = 0
      · have := mul_mu (p := k ^ (n / (j + 1))) hm.1 hm.2 (by subst h0; simpa using h)
        have := ih.2.2 h0
        omega
      · have := mul_mu (p := k ^ (n / (j + 1))) hm.1 hm.2 (pow_half (by omega) hk h)
        omega
    · omega
theorem sumB_bd {k n : Nat} (hk : 1 ≤ k) (hn : n ≤ 60) (h : k ^ n ≤ 1000000000000000000) : ∀ j, j ≤ n → -1000000000000000000 - (j : Int) * 1000000000 ≤ sumB k n j ∧ sumB k n j ≤ 1000000000000000000 + (j : Int) * 1000000000 ∧ (j < n → -(j : Int) * 1000000000 ≤ sumB k n j ∧ sumB k n j ≤ (j : Int) * 1000000000)
  | 0, _ => by simp [sumB]
  | j + 1, hj => by
    have ih := sumB_bd hk hn h j (by omega)
    have ih2 := ih.2.2 (by omega)
    simp only [sumB]
    split
    · rename_i hd
      have hq : 1 ≤ n / (j + 1) := by
        rw [Nat.le_div_iff_mul_le (by omega)]; omega
      have hq2 : n / (j + 1) ≤ n := Nat.div_le_self _ _
      have hm := mu_bd (d := n / (j + 1)) hq (by omega)
      by_cases h0 : j + 1 = n
      · have := mul_mu (p := k ^ (j + 1)) hm.1 hm.2 (by rw [h0]; exact h)
        omega
      · have hd2 : 2 ≤ n / (j + 1) := by
          rcases Nat.lt_or_ge (n / (j + 1)) 2 with h2 | h2
          · exfalso
            have h3 : n / (j + 1) = 1 := by omega
            have := Nat.div_add_mod n (j + 1)
            rw [h3, hd] at this
            omega
          · exact h2
        have hpe : j + 1 = n / (n / (j + 1)) := by
          have h4 := Nat.div_add_mod n (j + 1)
          rw [hd] at h4
          generalize n / (j + 1) = q at *
          rw [Nat.add_zero] at h4
          have h5 : (j + 1) * q / q = n / q := by rw [h4]
          rw [← h5, Nat.mul_div_cancel _ (show 0 < q by omega)]
        have := mul_mu (p := k ^ (j + 1)) hm.1 hm.2 (by rw [hpe]; exact pow_half hd2 hk h)
        omega
    · omega
end Go.Proofs.YthdlhfgeminoiaaDoor
