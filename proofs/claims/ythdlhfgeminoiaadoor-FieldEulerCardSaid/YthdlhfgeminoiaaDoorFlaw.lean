/-
  What holds in each field: order, brackets, powers, Fermat, a root, logarithms. No program in sight.
-/
import Derived.Test.YthdlhfgeminoiaaDoorFx
namespace Go.Proofs.YthdlhfgeminoiaaDoor
set_option linter.unusedVariables false
open Go.RowKit

/-- Products of one element. -/
def mpF (P K : Nat) (low : List Nat) (a : Nat) : Nat → Nat
  | 0 => 1
  | n + 1 => mulF P K low (mpF P K low a n) a
/-- The numbers that each proof of a field needs. -/
structure FB (P K : Nat) : Prop where
  p2 : 2 ≤ P
  p64 : P ≤ 64
  k1 : 1 ≤ K
  k6 : K ≤ 6
  q64 : P ^ K ≤ 64
theorem FOk.fb {P K n : Nat} (h : FOk P K n) : FB P K := ⟨h.p2, by have := h.p61; omega, h.k1, h.k6, h.q64⟩
theorem FB.q2 {P K : Nat} (h : FB P K) : P ≤ P ^ K := by
  have := Nat.pow_le_pow_right (n := P) (by have := h.p2; omega) h.k1
  rwa [Nat.pow_one] at this
section
variable {P K : Nat} {low : List Nat} {E L : Nat → Nat} (B : FB P K) (X : FX P K low E L)
include B
theorem mul_z1 (x : Nat) : mulF P K low 0 x = 0 :=
  addF_self_zero (f := fun y => mulF P K low y x) B.p2 B.k6 (fun a b ha hb => mulF_add1 B.p2 B.k6 low x ha hb) (mulF_lt B.p2 B.k6 _ _ _)
theorem mul_z2 (x : Nat) : mulF P K low x 0 = 0 :=
  addF_self_zero (f := fun y => mulF P K low x y) B.p2 B.k6 (fun a b ha hb => mulF_add2 B.p2 B.k6 low x ha hb) (mulF_lt B.p2 B.k6 _ _ _)
theorem mp_lt (a n : Nat) : mpF P K low a n < P ^ K := by
  cases n with
  | zero => show 1 < P ^ K; have := B.q2; have := B.p2; omega
  | succ n => exact mulF_lt B.p2 B.k6 _ _ _
include X
omit B in
theorem FX.cases {x : Nat} (hx : x < P ^ K) : x = 0 ∨ ∃ i, x = E i ∧ i < P ^ K - 1 := by
  rcases Nat.eq_zero_or_pos x with h | h
  · exact .inl h
  · exact .inr ⟨L x, (X.eL x h hx).symm, X.lL x h hx⟩
theorem FX.comm {x y : Nat} (hx : x < P ^ K) (hy : y < P ^ K) : mulF P K low x y = mulF P K low y x := by
  rcases X.cases hx with rfl | ⟨i, rfl, _⟩
  · rw [mul_z1 B, mul_z2 B]
  · rcases X.cases hy with rfl | ⟨j, rfl, _⟩
    · rw [mul_z1 B, mul_z2 B]
    · rw [X.mul, X.mul, Nat.add_comm]
theorem FX.assoc {x y z : Nat} (hx : x < P ^ K) (hy : y < P ^ K) (hz : z < P ^ K) : mulF P K low (mulF P K low x y) z = mulF P K low x (mulF P K low y z) := by
  rcases X.cases hx with rfl | ⟨i, rfl, _⟩
  · rw [mul_z1 B, mul_z1 B, mul_z1 B]
  · rcases X.cases hy with rfl | ⟨j, rfl, _⟩
    · rw [mul_z2 B, mul_z1 B, mul_z2 B]
    · rcases X.cases hz with rfl | ⟨k, rfl, _⟩
      · rw [mul_z2 B, mul_z2 B, mul_z2 B]
      · rw [X.mul, X.mul, X.mul, X.mul, Nat.add_assoc]
omit B in
theorem FX.mpE (i n : Nat) : mpF P K low (E i) n = E (i * n) := by
  induction n with
  | zero => show 1 = _; rw [Nat.mul_zero, X.one]
  | succ n ih => rw [mpF, ih, X.mul, Nat.mul_succ]
omit X in
theorem mp0 (n : Nat) (h : 1 ≤ n) : mpF P K low 0 n = 0 := by
  cases n with
  | zero => omega
  | succ n => rw [mpF, mul_z2 B]
theorem FX.mp1 {a : Nat} (ha : a < P ^ K) : mpF P K low a 1 = a := by
  show mulF P K low 1 a = a
  rw [X.comm B (by have := B.q2; have := B.p2; omega) ha, X.mul1 a ha]
omit B in
theorem FX.perm (i m : Nat) : E (i + m * (P ^ K - 1)) = E i := by
  induction m with
  | zero => rw [Nat.zero_mul, Nat.add_zero]
  | succ m ih => rw [Nat.succ_mul, ← Nat.add_assoc, X.per, ih]
omit B in
theorem FX.Emod (i : Nat) : E (i % (P ^ K - 1)) = E i := by
  have := X.perm (i % (P ^ K - 1)) (i / (P ^ K - 1))
  rw [Nat.mul_comm, Nat.mod_add_div] at this
  exact this.symm
theorem FX.E_inj {i j : Nat} (h : E i = E j) : i % (P ^ K - 1) = j % (P ^ K - 1) := by
  have hq := B.q2
  have hp := B.p2
  rw [← X.Emod i, ← X.Emod j] at h
  have h2 := congrArg L h
  rw [X.lE _ (Nat.mod_lt _ (by omega)), X.lE _ (Nat.mod_lt _ (by omega))] at h2
  exact h2
theorem FX.mp_add {a : Nat} (ha : a < P ^ K) (m n : Nat) : mulF P K low (mpF P K low a m) (mpF P K low a n) = mpF P K low a (m + n) := by
  induction n with
  | zero => exact X.mul1 _ (mp_lt B _ _)
  | succ n ih => rw [mpF, ← X.assoc B (mp_lt B _ _) (mp_lt B _ _) ha, ih, Nat.add_succ, mpF]
theorem FX.mp_sq {a : Nat} (ha : a < P ^ K) (m : Nat) : mpF P K low (mulF P K low a a) m = mpF P K low a (2 * m) := by
  induction m with
  | zero => rfl
  | succ m ih =>
    rw [mpF, ih, Nat.mul_succ, ← X.mp_add B ha (2 * m) 2]
    congr 1
    show _ = mulF P K low (mpF P K low a 1) a
    rw [X.mp1 B ha]
/-- One round of the halving. -/
theorem FX.half {o a : Nat} (ho : o < P ^ K) (ha : a < P ^ K) (n : Nat) : mulF P K low o (mpF P K low a n) = mulF P K low (if n % 2 = 1 then mulF P K low o a else o) (mpF P K low (mulF P K low a a) (n / 2)) := by
  rw [X.mp_sq B ha]
  split
  · rename_i h
    rw [X.assoc B ho ha (mp_lt B _ _)]
    congr 1
    have h1 := X.mp_add B ha 1 (2 * (n / 2))
    rw [X.mp1 B ha] at h1
    rw [h1, show 1 + 2 * (n / 2) = n by omega]
  · rw [show 2 * (n / 2) = n by omega]
/-- Fermat. -/
theorem FX.fermat {a : Nat} (ha : a < P ^ K) : mpF P K low a (P ^ K) = a := by
  have hq := B.q2
  have hp := B.p2
  rcases X.cases ha with rfl | ⟨i, rfl, _⟩
  · exact mp0 B _ (by omega)
  · rw [X.mpE, show i * P ^ K = i + i * (P ^ K - 1) by
      have : i * P ^ K = i * (P ^ K - 1 + 1) := by rw [show P ^ K - 1 + 1 = P ^ K by omega]
      rw [this, Nat.mul_add, Nat.mul_one, Nat.add_comm], X.perm]
/-- Powers come again. -/
theorem FX.mp_cut {a n : Nat} (ha : a < P ^ K) (hn : P ^ K < n) : mpF P K low a (n % (P ^ K - 1) + (P ^ K - 1)) = mpF P K low a n := by
  have hq := B.q2
  have hp := B.p2
  rcases X.cases ha with rfl | ⟨i, rfl, _⟩
  · rw [mp0 B _ (by omega), mp0 B _ (by omega)]
  · rw [X.mpE, X.mpE, ← X.Emod (i * _), ← X.Emod (i * n)]
    congr 1
    rw [Nat.mul_mod i (n % (P ^ K - 1) + (P ^ K - 1)), Nat.add_mod_right, Nat.mod_mod, ← Nat.mul_mod]
omit B in
theorem FX.mp_ne {a : Nat} (h1 : 1 ≤ a) (ha : a < P ^ K) (n : Nat) : mpF P K low a n ≠ 0 := by
  rcases X.cases ha with rfl | ⟨i, rfl, _⟩
  · omega
  · rw [X.mpE]
    have := X.pos (i * n)
    omega
omit B in
theorem FX.mp_one {a : Nat} (h1 : 1 ≤ a) (ha : a < P ^ K) : mpF P K low a (P ^ K - 1) = 1 := by
  rcases X.cases ha with rfl | ⟨i, rfl, _⟩
  · omega
  · rw [X.mpE, ← X.Emod, Nat.mul_mod_left, X.one]
/-- Inverses, and there is but one. -/
theorem FX.inv {a : Nat} (h1 : 1 ≤ a) (ha : a < P ^ K) (h3 : 3 ≤ P ^ K) : mulF P K low a (mpF P K low a (P ^ K - 2)) = 1 := by
  have h2 := X.mp_add B ha 1 (P ^ K - 2)
  rw [X.mp1 B ha, show 1 + (P ^ K - 2) = P ^ K - 1 by omega, X.mp_one h1 ha] at h2
  exact h2
theorem FX.inv2 {a : Nat} (h1 : 1 ≤ a) (ha : a < P ^ K) : mulF P K low a (mpF P K low a (P ^ K - 2)) = 1 := by
  have hq := B.q2
  have hp := B.p2
  have h2 := X.mp_add B ha 1 (P ^ K - 2)
  rw [X.mp1 B ha, show 1 + (P ^ K - 2) = P ^ K - 1 by omega, X.mp_one h1 ha] at h2
  exact h2
theorem FX.inv_one {a b : Nat} (h1 : 1 ≤ a) (ha : a < P ^ K) (hb : b < P ^ K) (h : mulF P K low a b = 1) : b = mpF P K low a (P ^ K - 2) := by
  have hq := B.q2
  have hp := B.p2
  have h2 := X.inv2 B h1 ha
  have h3 := X.assoc B (mp_lt (low := low) (a := a) B (P ^ K - 2)) ha hb
  rw [h, X.mul1 _ (mp_lt B _ _), X.comm B (mp_lt B _ _) ha, h2, X.comm B (by omega) hb, X.mul1 b hb] at h3
  exact h3
end
/-- First of all. -/
theorem first_of (p : Nat → Prop) (h : ∃ n, p n) : ∃ n, p n ∧ ∀ m, m < n → ¬ p m := by
  obtain ⟨n, hn⟩ := h
  induction n using Nat.strongRecOn with
  | _ n ih =>
    by_cases hx : ∃ m, m < n ∧ p m
    · obtain ⟨m, hm, hp⟩ := hx
      exact ih m hm hp
    · exact ⟨n, hn, fun m hm hp => hx ⟨m, hm, hp⟩⟩
/-- Orders, and the least root. -/
structure FR (P K : Nat) (low : List Nat) (o : Nat → Nat) (r : Nat) (lg : Nat → Nat) : Prop where
  o1 : ∀ a, 1 ≤ a → a < P ^ K → 1 ≤ o a ∧ o a ≤ P ^ K - 1 ∧ mpF P K low a (o a) = 1 ∧ ∀ m, 1 ≤ m → m < o a → mpF P K low a m ≠ 1
  nz : ∀ a, 1 ≤ a → a < P ^ K → ∀ m, mpF P K low a m ≠ 0
  r1 : 1 ≤ r ∧ r < P ^ K ∧ o r = P ^ K - 1 ∧ ∀ a, 1 ≤ a → a < r → o a ≠ P ^ K - 1
  lg : ∀ a, 1 ≤ a → a < P ^ K → lg a < P ^ K - 1 ∧ mpF P K low r (lg a) = a ∧ ∀ m, m < lg a → mpF P K low r m ≠ a
theorem pigeonF : ∀ (n : Nat) (f : Nat → Nat), (∀ i, i ≤ n → f i < n) → ∃ i j, i < j ∧ j ≤ n ∧ f i = f j
  | 0, f, h => absurd (h 0 (Nat.le_refl _)) (Nat.not_lt_zero _)
  | n + 1, f, h => by
    by_cases hx : ∃ i, i ≤ n ∧ f i = f (n + 1)
    · obtain ⟨i, hi, he⟩ := hx
      exact ⟨i, n + 1, by omega, Nat.le_refl _, he⟩
    · obtain ⟨i, j, h1, h2, h3⟩ := pigeonF n (fun i => if f i = n then f (n + 1) else f i) (fun i hi => by
        have h1 := h i (by omega)
        have h2 := h (n + 1) (Nat.le_refl _)
        have h3 : f i ≠ f (n + 1) := fun e => hx ⟨i, hi, e⟩
        show (if f i = n then f (n + 1) else f i) < n
        split <;> omega)
      refine ⟨i, j, h1, by omega, ?_⟩
      have h4 : f i ≠ f (n + 1) := fun e => hx ⟨i, by omega, e⟩
      have h5 : f j ≠ f (n + 1) := fun e => hx ⟨j, h2, e⟩
      have h6 : (if f i = n then f (n + 1) else f i) = if f j = n then f (n + 1) else f j := h3
      split at h6 <;> split at h6 <;> omega
section
variable {P K : Nat} {low : List Nat} {E L : Nat → Nat} (B : FB P K) (X : FX P K low E L)
include B X
theorem FX.ord_ex {a : Nat} (h1 : 1 ≤ a) (ha : a < P ^ K) : ∃ o, 1 ≤ o ∧ o ≤ P ^ K - 1 ∧ mpF P K low a o = 1 ∧ ∀ m, 1 ≤ m → m < o → mpF P K low a m ≠ 1 := by
  have hq := B.q2
  have hp := B.p2
  obtain ⟨n, h2, h3⟩ := first_of (fun n => 1 ≤ n ∧ mpF P K low a n = 1) ⟨P ^ K - 1, by omega, X.mp_one h1 ha⟩
  refine ⟨n, h2.1, ?_, h2.2, fun m hm1 hm he => h3 m hm ⟨hm1, he⟩⟩
  rcases Nat.lt_or_ge (P ^ K - 1) n with h | h
  · exact absurd ⟨by omega, X.mp_one h1 ha⟩ (h3 _ h)
  · exact h
/-- Powers that are alike before the order's end are one. -/
theorem FX.mp_inj {a o : Nat} (h1 : 1 ≤ a) (ha : a < P ^ K) (ho : ∀ m, 1 ≤ m → m < o → mpF P K low a m ≠ 1) {i j : Nat} (hij : i < j) (hj : j < o) : mpF P K low a i ≠ mpF P K low a j := by
  intro h
  refine ho (j - i) (by omega) (by omega) ?_
  have h2 := X.mp_add B ha i (j - i)
  rw [show i + (j - i) = j by omega, ← h] at h2
  rcases X.cases (mp_lt (low := low) (a := a) B i) with h0 | ⟨s, hs, _⟩
  · exact absurd h0 (X.mp_ne h1 ha i)
  · rcases X.cases (mp_lt (low := low) (a := a) B (j - i)) with h0 | ⟨t, ht, htl⟩
    · exact absurd h0 (X.mp_ne h1 ha _)
    · rw [hs, ht, X.mul] at h2
      have h3 := X.E_inj B h2
      rw [ht, ← X.one]
      have h4 : t % (P ^ K - 1) = 0 % (P ^ K - 1) := by
        have hq := B.q2
        have hp := B.p2
        have h5 : (s + t - s) % (P ^ K - 1) = 0 := Nat.sub_mod_eq_zero_of_mod_eq h3
        rw [show s + t - s = t by omega] at h5
        rw [h5, Nat.zero_mod]
      rw [← X.Emod t, h4, X.Emod]
theorem FX.fr : ∃ o r lg, FR P K low o r lg := by
  have hq := B.q2
  have hp := B.p2
  have h0 : ∀ a : Nat, ∃ o, (1 ≤ a → a < P ^ K → 1 ≤ o ∧ o ≤ P ^ K - 1 ∧ mpF P K low a o = 1 ∧ ∀ m, 1 ≤ m → m < o → mpF P K low a m ≠ 1) := fun a => by
    by_cases h : 1 ≤ a ∧ a < P ^ K
    · obtain ⟨o, ho⟩ := X.ord_ex B h.1 h.2
      exact ⟨o, fun _ _ => ho⟩
    · exact ⟨0, fun h1 h2 => absurd ⟨h1, h2⟩ h⟩
  obtain ⟨o, ho⟩ := Classical.axiomOfChoice h0
  have hE1 : o (E 1) = P ^ K - 1 := by
    obtain ⟨h1, h2, h3, h4⟩ := ho (E 1) (X.pos 1) (X.lt 1)
    rw [X.mpE, Nat.one_mul] at h3
    have h5 := X.E_inj B (h3.trans X.one.symm)
    rw [Nat.zero_mod] at h5
    have := Nat.le_of_dvd (by omega) (Nat.dvd_of_mod_eq_zero h5)
    omega
  obtain ⟨r, hr, hrm⟩ := first_of (fun a => 1 ≤ a ∧ a < P ^ K ∧ o a = P ^ K - 1) ⟨E 1, X.pos 1, X.lt 1, hE1⟩
  have hlg : ∀ a : Nat, ∃ n, (1 ≤ a → a < P ^ K → n < P ^ K - 1 ∧ mpF P K low r n = a ∧ ∀ m, m < n → mpF P K low r m ≠ a) := fun a => by
    by_cases h : 1 ≤ a ∧ a < P ^ K
    · have hex : ∃ n, n < P ^ K - 1 ∧ mpF P K low r n = a := by
        refine Classical.byContradiction fun hc => ?_
        have hc' : ∀ n, n < P ^ K - 1 → mpF P K low r n ≠ a := fun n hn e => hc ⟨n, hn, e⟩
        obtain ⟨i, j, hij, hj, he⟩ := pigeonF (P ^ K - 2) (fun m => if mpF P K low r m = P ^ K - 1 then a - 1 else mpF P K low r m - 1) (fun m hm => by
          have h1 := hc' m (by omega)
          have h2 := X.mp_ne hr.1 hr.2.1 m
          have h3 := mp_lt (low := low) (a := r) B m
          show (if mpF P K low r m = P ^ K - 1 then a - 1 else mpF P K low r m - 1) < P ^ K - 2
          split <;> omega)
        have hne := X.mp_inj B hr.1 hr.2.1 (o := P ^ K - 1) (by rw [← hr.2.2]; exact (ho r hr.1 hr.2.1).2.2.2) hij (by omega)
        have h1 := hc' i (by omega)
        have h2 := hc' j (by omega)
        have h3 := X.mp_ne hr.1 hr.2.1 i
        have h4 := X.mp_ne hr.1 hr.2.1 j
        have he' : (if mpF P K low r i = P ^ K - 1 then a - 1 else mpF P K low r i - 1) = (if mpF P K low r j = P ^ K - 1 then a - 1 else mpF P K low r j - 1) := he
        split at he' <;> split at he' <;> omega
      obtain ⟨n, hn, hm⟩ := first_of (fun n => n < P ^ K - 1 ∧ mpF P K low r n = a) hex
      exact ⟨n, fun _ _ => ⟨hn.1, hn.2, fun m hmn e => hm m hmn ⟨by omega, e⟩⟩⟩
    · exact ⟨0, fun h1 h2 => absurd ⟨h1, h2⟩ h⟩
  obtain ⟨lg, hl⟩ := Classical.axiomOfChoice hlg
  exact ⟨o, r, lg, ho, fun a h1 h2 m => X.mp_ne h1 h2 m, ⟨hr.1, hr.2.1, hr.2.2, fun a h1 h2 h3 => hrm a h2 ⟨h1, by omega, h3⟩⟩, hl⟩
end
end Go.Proofs.YthdlhfgeminoiaaDoor
