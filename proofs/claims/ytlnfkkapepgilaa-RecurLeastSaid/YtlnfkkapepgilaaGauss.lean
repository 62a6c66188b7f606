/-
  Equations modulo p, their rows changed as Gauss does it. No program in sight.
-/
import Derived.Test.YtlnfkkapepgilaaBmF
namespace Go.Proofs.Ytlnfkkapepgilaa
set_option linter.unusedVariables false

theorem dvd_cast {p a b : Int} (h : p ∣ a) (e : a = b) : p ∣ b := e ▸ h
/-- What a row misses. -/
def rowM (A x : Nat → Int) (n : Nat) : Int := sm (fun j => A j * x j) n - A n
def Sol (p : Int) (R n : Nat) (M : Nat → Nat → Int) (x : Nat → Int) : Prop := ∀ i, i < R → p ∣ rowM (M i) x n
theorem row_lin {p k l : Int} {A B C x : Nat → Int} {n : Nat} (h : ∀ j, j ≤ n → p ∣ A j - (k * B j + l * C j)) : p ∣ rowM A x n - (k * rowM B x n + l * rowM C x n) := by
  have h1 := sm_dvd_sub (p := p) (f := fun j => A j * x j) (g := fun j => k * (B j * x j) + l * (C j * x j)) n (fun j hj => by
    have := Int.dvd_mul_of_dvd_left (c := x j) (h j (by omega))
    rw [Int.sub_mul, Int.add_mul, Int.mul_assoc, Int.mul_assoc] at this
    exact this)
  rw [sm_add, sm_mul, sm_mul] at h1
  have h2 := Int.dvd_sub h1 (h n (Nat.le_refl _))
  unfold rowM
  rw [Int.mul_sub, Int.mul_sub]
  exact dvd_cast h2 (by omega)
theorem sm_one {f : Nat → Int} {k : Nat} : ∀ n, k < n → (∀ i, i < n → i ≠ k → f i = 0) → sm f n = f k
  | 0, h, _ => by omega
  | n + 1, h, h0 => by
    rw [sm]
    by_cases e : k = n
    · subst e
      rw [sm_zero k (fun i hi => h0 i (by omega) (by omega))]
      omega
    · rw [sm_one n (by omega) (fun i hi he => h0 i (by omega) he), h0 n (by omega) (by omega)]
      omega

def swA (a w i : Nat) : Nat := if i = a then w else if i = w then a else i
theorem swA_swA (a w i : Nat) : swA a w (swA a w i) = i := by unfold swA; (repeat' split) <;> omega
theorem swA_lt {a w i R : Nat} (ha : a < R) (hw : w < R) (hi : i < R) : swA a w i < R := by unfold swA; (repeat' split) <;> omega
def swM (M : Nat → Nat → Int) (a w i j : Nat) : Int := M (swA a w i) j
/-- The row a times v, up to column u. -/
def scM (p : Int) (M : Nat → Nat → Int) (a : Nat) (v : Int) (u x y : Nat) : Int := if x = a ∧ y < u then (M a y * v) % p else M x y
/-- The row a times f taken from row i, up to column u. -/
def elM (p : Int) (M : Nat → Nat → Int) (a : Nat) (f : Int) (i u x y : Nat) : Int := if x = i ∧ y < u then (M i y - f * M a y) % p else M x y
/-- The row a taken from the rows ahead of i. -/
def elO (p : Int) (M : Nat → Nat → Int) (a c i x y : Nat) : Int := if x < i ∧ x ≠ a then (M x y - M x c * M a y) % p else M x y
def upN (e : Nat → Nat) (a c t : Nat) : Nat := if t = a then c else e t

structure GInv (p : Int) (R n : Nat) (M0 M : Nat → Nat → Int) (c a : Nat) (e : Nat → Nat) : Prop where
  en : ∀ i, i < R → ∀ j, j ≤ n → 0 ≤ M i j ∧ M i j < p
  so : ∀ x, Sol p R n M0 x ↔ Sol p R n M x
  cn : c ≤ n
  ac : a ≤ c
  aR : a ≤ R
  pv : ∀ t, t < a → e t < c
  un : ∀ t, t < a → ∀ i, i < R → M i (e t) = if i = t then 1 else 0
  ze : ∀ i, a ≤ i → i < R → ∀ j, j < c → M i j = 0
  fr : (a = c ∧ ∀ t, t < a → e t = t) ∨ ∃ d, d < c ∧ ∀ t, t < a → e t ≠ d
theorem GInv.start {p : Int} {R n : Nat} {M : Nat → Nat → Int} (h : ∀ i, i < R → ∀ j, j ≤ n → 0 ≤ M i j ∧ M i j < p) (e : Nat → Nat) : GInv p R n M M 0 0 e :=
  ⟨h, fun _ => Iff.rfl, Nat.zero_le _, Nat.le_refl _, Nat.zero_le _, fun t h => by omega, fun t h => by omega, fun i _ _ j h => by omega, .inl ⟨rfl, fun t h => by omega⟩⟩
section
variable {p : Int} {R n : Nat} {M0 M : Nat → Nat → Int} {c a : Nat} {e : Nat → Nat}
theorem sol_congr {M' : Nat → Nat → Int} (h : ∀ i, i < R → ∀ j, j ≤ n → M i j = M' i j) (x : Nat → Int) : Sol p R n M x ↔ Sol p R n M' x := by
  have e : ∀ i, i < R → rowM (M i) x n = rowM (M' i) x n := fun i hi => by
    unfold rowM
    rw [h i hi n (Nat.le_refl _), sm_congr n (fun j hj => by rw [h i hi j (by omega)])]
  exact ⟨fun h i hi => by rw [← e i hi]; exact h i hi, fun h i hi => by rw [e i hi]; exact h i hi⟩
theorem GInv.congr {M' : Nat → Nat → Int} (H : GInv p R n M0 M c a e) (h : ∀ i, i < R → ∀ j, j ≤ n → M i j = M' i j) : GInv p R n M0 M' c a e where
  en := fun i hi j hj => by rw [← h i hi j hj]; exact H.en i hi j hj
  so := fun x => (H.so x).trans (sol_congr h x)
  cn := H.cn
  ac := H.ac
  aR := H.aR
  pv := H.pv
  un := fun t ht i hi => by
    have := H.pv t ht
    have := H.cn
    rw [← h i hi _ (by omega)]; exact H.un t ht i hi
  ze := fun i h1 h2 j hj => by
    have := H.cn
    rw [← h i h2 j (by omega)]; exact H.ze i h1 h2 j hj
  fr := H.fr
theorem GInv.skip (H : GInv p R n M0 M c a e) (hc : c < n) (h : ∀ i, a ≤ i → i < R → M i c = 0) : GInv p R n M0 M (c + 1) a e where
  en := H.en
  so := H.so
  cn := by omega
  ac := by have := H.ac; omega
  aR := H.aR
  pv := fun t ht => by have := H.pv t ht; omega
  un := H.un
  ze := fun i h1 h2 j hj => by
    by_cases e : j = c
    · subst e; exact h i h1 h2
    · exact H.ze i h1 h2 j (by omega)
  fr := .inr ⟨c, by omega, fun t ht e => by have := H.pv t ht; omega⟩
theorem GInv.swap (H : GInv p R n M0 M c a e) {w : Nat} (haw : a ≤ w) (hw : w < R) : GInv p R n M0 (swM M a w) c a e where
  en := fun i hi j hj => H.en _ (swA_lt (by omega) hw hi) j hj
  so := fun x => (H.so x).trans ⟨fun h i hi => h (swA a w i) (swA_lt (by omega) hw hi), fun h i hi => by
    have := h (swA a w i) (swA_lt (by omega) hw hi)
    unfold swM at this
    rw [swA_swA] at this
    exact this⟩
  cn := H.cn
  ac := H.ac
  aR := H.aR
  pv := H.pv
  un := fun t ht i hi => by
    have h1 := H.un t ht (swA a w i) (swA_lt (by omega) hw hi)
    show M (swA a w i) (e t) = _
    rw [h1]
    unfold swA
    by_cases e1 : i = a
    · rw [if_pos e1, if_neg (by omega), if_neg (by omega)]
    · rw [if_neg e1]
      by_cases e2 : i = w
      · rw [if_pos e2, if_neg (by omega), if_neg (by omega)]
      · rw [if_neg e2]
  ze := fun i h1 h2 j hj => H.ze _ (by unfold swA; (repeat' split) <;> omega) (swA_lt (by omega) hw h2) j hj
  fr := H.fr
theorem dvd_emod_sub (p x : Int) : p ∣ x % p - x := ⟨-(x / p), by rw [Int.emod_def, Int.mul_neg]; omega⟩
theorem GInv.scale (H : GInv p R n M0 M c a e) (hp : 0 < p) (ha : a < R) {v : Int} (hv : p ∣ M a c * v - 1) : GInv p R n M0 (scM p M a v (n + 1)) c a e where
  en := fun i hi j hj => by
    unfold scM
    split
    · exact ⟨Int.emod_nonneg _ (by omega), Int.emod_lt_of_pos _ hp⟩
    · exact H.en i hi j hj
  so := fun x => (H.so x).trans (by
    have hl : p ∣ rowM (scM p M a v (n + 1) a) x n - (v * rowM (M a) x n + 0 * rowM (M a) x n) := row_lin fun j hj => by
      unfold scM
      rw [if_pos ⟨rfl, by omega⟩, Int.zero_mul, Int.add_zero, Int.mul_comm v]
      exact dvd_emod_sub _ _
    rw [Int.zero_mul, Int.add_zero] at hl
    have hne : ∀ i, i ≠ a → rowM (scM p M a v (n + 1) i) x n = rowM (M i) x n := fun i hi => by
      unfold scM
      simp only [hi, false_and, if_false]
    constructor
    · intro h i hi
      by_cases e : i = a
      · subst e
        have := Int.dvd_add hl (Int.dvd_mul_of_dvd_right (b := v) (h i hi))
        rwa [Int.sub_add_cancel] at this
      · rw [hne i e]; exact h i hi
    · intro h i hi
      by_cases e : i = a
      · subst e
        have h1 := Int.dvd_sub (h i hi) hl
        rw [show rowM (scM p M i v (n + 1) i) x n - (rowM (scM p M i v (n + 1) i) x n - v * rowM (M i) x n) = v * rowM (M i) x n by omega] at h1
        have h2 := Int.dvd_mul_of_dvd_right (b := M i c) h1
        have h3 := Int.dvd_mul_of_dvd_left (c := rowM (M i) x n) hv
        rw [Int.sub_mul, Int.one_mul, Int.mul_assoc] at h3
        have h4 := Int.dvd_sub h2 h3
        rwa [Int.sub_sub_self] at h4
      · rw [← hne i e]; exact h i hi)
  cn := H.cn
  ac := H.ac
  aR := H.aR
  pv := H.pv
  un := fun t ht i hi => by
    have h1 := H.un t ht i hi
    have h2 := H.un t ht a ha
    rw [if_neg (by omega)] at h2
    unfold scM
    split
    · rename_i h3
      rw [h2, h3.1, if_neg (by omega), Int.zero_mul, Int.zero_emod]
    · exact h1
  ze := fun i h1 h2 j hj => by
    unfold scM
    split
    · rename_i h3
      rw [H.ze a (Nat.le_refl _) ha j hj, Int.zero_mul, Int.zero_emod]
    · exact H.ze i h1 h2 j hj
  fr := H.fr
theorem GInv.elim (H : GInv p R n M0 M c a e) (hp : 0 < p) (ha : a < R) (hc : c < n) (h1 : M a c = 1) : GInv p R n M0 (elO p M a c R) (c + 1) (a + 1) (upN e a c) where
  en := fun i hi j hj => by
    unfold elO
    split
    · exact ⟨Int.emod_nonneg _ (by omega), Int.emod_lt_of_pos _ hp⟩
    · exact H.en i hi j hj
  so := fun x => (H.so x).trans (by
    have ea : rowM (elO p M a c R a) x n = rowM (M a) x n := by
      unfold elO
      simp only [ne_eq, not_true, and_false, if_false]
    have hl : ∀ i, i < R → i ≠ a → p ∣ rowM (elO p M a c R i) x n - (1 * rowM (M i) x n + (-(M i c)) * rowM (M a) x n) := fun i hi he => row_lin fun j hj => by
      unfold elO
      rw [if_pos ⟨hi, he⟩, Int.one_mul, Int.neg_mul, ← Int.sub_eq_add_neg]
      exact dvd_emod_sub _ _
    constructor
    · intro h i hi
      by_cases e : i = a
      · subst e; rw [ea]; exact h i hi
      · have := Int.dvd_add (hl i hi e) (Int.dvd_add (Int.dvd_mul_of_dvd_right (b := 1) (h i hi)) (Int.dvd_mul_of_dvd_right (b := -(M i c)) (h a ha)))
        rwa [Int.sub_add_cancel] at this
    · intro h i hi
      have h2 := h a ha
      rw [ea] at h2
      by_cases e : i = a
      · subst e; exact h2
      · have h3 := Int.dvd_sub (Int.dvd_sub (h i hi) (hl i hi e)) (Int.dvd_mul_of_dvd_right (b := -(M i c)) h2)
        rw [Int.one_mul] at h3
        exact dvd_cast h3 (by rw [Int.neg_mul]; omega))
  cn := by omega
  ac := by have := H.ac; omega
  aR := by omega
  pv := fun t ht => by
    unfold upN
    split
    · omega
    · have := H.pv t (by omega); omega
  un := fun t ht i hi => by
    unfold upN
    by_cases et : t = a
    · subst et
      rw [if_pos rfl]
      unfold elO
      by_cases ei : i = t
      · subst ei
        rw [if_neg (by omega), if_pos rfl, h1]
      · rw [if_pos ⟨hi, ei⟩, if_neg ei, h1, Int.mul_one, Int.sub_self, Int.zero_emod]
    · rw [if_neg et]
      have e1 := H.un t (by omega) i hi
      have e2 := H.un t (by omega) a ha
      rw [if_neg (by omega)] at e2
      unfold elO
      split
      · have h3 := H.en i hi (e t) (by have := H.pv t (by omega); omega)
        rw [e2, Int.mul_zero, Int.sub_zero, Int.emod_eq_of_lt h3.1 h3.2, e1]
      · exact e1
  ze := fun i g1 g2 j hj => by
    unfold elO
    rw [if_pos ⟨g2, by omega⟩]
    by_cases ej : j = c
    · subst ej
      rw [h1, Int.mul_one, Int.sub_self, Int.zero_emod]
    · rw [H.ze i (by omega) g2 j (by omega), H.ze a (Nat.le_refl _) ha j (by omega), Int.mul_zero, Int.sub_self, Int.zero_emod]
  fr := by
    rcases H.fr with ⟨h2, h3⟩ | ⟨d, h2, h3⟩
    · left
      refine ⟨by omega, fun t ht => ?_⟩
      unfold upN
      split
      · omega
      · exact h3 t (by omega)
    · right
      refine ⟨d, by omega, fun t ht => ?_⟩
      unfold upN
      split
      · omega
      · exact h3 t (by omega)
end
/-- What is told of the equations. -/
def SolvR (p : Int) (R n : Nat) (M : Nat → Nat → Int) (t : Int) (u : List Int) : Prop :=
  (t = 0 ∧ u = [] ∧ ∀ x, ¬ Sol p R n M x) ∨
  (t = 2 ∧ u = [] ∧ ∃ x y, Sol p R n M x ∧ Sol p R n M y ∧ ∃ j, j < n ∧ ¬ p ∣ x j - y j) ∨
  (t = 1 ∧ n ≤ R ∧ u.length = n ∧ (∀ x ∈ u, 0 ≤ x ∧ x < p) ∧ Sol p R n M (fun j => u.getD j 0))
section
variable {p : Int} {R n : Nat} {M0 M : Nat → Nat → Int} {a : Nat} {e : Nat → Nat}
theorem GInv.none (H : GInv p R n M0 M n a e) {i : Nat} (h1 : a ≤ i) (h2 : i < R) (h3 : M i n ≠ 0) : ∀ x, ¬ Sol p R n M0 x := by
  intro x hx
  have h4 := (H.so x).1 hx i h2
  unfold rowM at h4
  rw [sm_zero n (fun j hj => by rw [H.ze i h1 h2 j hj, Int.zero_mul]), Int.zero_sub] at h4
  have h5 := (Int.dvd_neg).1 h4
  have h6 := H.en i h2 n (Nat.le_refl _)
  have := Int.le_of_dvd (by omega) h5
  omega
theorem GInv.inj (H : GInv p R n M0 M n a e) {t s : Nat} (ht : t < a) (hs : s < a) (he : e t = e s) : t = s := by
  have h1 := H.un t ht t (by have := H.aR; omega)
  have h2 := H.un s hs t (by have := H.aR; omega)
  rw [← he, h1, if_pos rfl] at h2
  by_cases h : t = s
  · exact h
  · rw [if_neg h] at h2; omega
open Classical in
/-- What the leading ones come to. -/
noncomputable def pk (a : Nat) (e : Nat → Nat) (b : Nat → Int) (j : Nat) : Int := if h : ∃ t, t < a ∧ e t = j then b (Classical.choose h) else 0
theorem GInv.pk_at (H : GInv p R n M0 M n a e) (b : Nat → Int) {t : Nat} (ht : t < a) : pk a e b (e t) = b t := by
  have h : ∃ s, s < a ∧ e s = e t := ⟨t, ht, rfl⟩
  unfold pk
  rw [dif_pos h]
  have := Classical.choose_spec h
  rw [H.inj this.1 ht this.2]
theorem pk_no {a : Nat} {e : Nat → Nat} {b : Nat → Int} {j : Nat} (h : ∀ t, t < a → e t ≠ j) : pk a e b j = 0 := by
  unfold pk
  rw [dif_neg]
  rintro ⟨t, h1, h2⟩
  exact h t h1 h2
/-- One row of it. -/
theorem GInv.pk_sm (H : GInv p R n M0 M n a e) (b : Nat → Int) {i : Nat} (hi : i < a) : sm (fun j => M i j * pk a e b j) n = b i := by
  have hR := H.aR
  rw [sm_one (k := e i) n (H.pv i hi) (fun j hj hne => ?_), H.un i hi i (by omega), if_pos rfl, H.pk_at b hi, Int.one_mul]
  by_cases h : ∃ t, t < a ∧ e t = j
  · obtain ⟨t, h1, rfl⟩ := h
    rw [H.un t h1 i (by omega), if_neg (fun h => hne (by rw [h])), Int.zero_mul]
  · rw [pk_no (fun t h1 h2 => h ⟨t, h1, h2⟩), Int.mul_zero]
theorem GInv.two (H : GInv p R n M0 M n a e) (hp : 1 < p) (h0 : ∀ i, a ≤ i → i < R → M i n = 0) (ha : a < n) : ∃ x y, Sol p R n M0 x ∧ Sol p R n M0 y ∧ ∃ j, j < n ∧ ¬ p ∣ x j - y j := by
  obtain ⟨d, hd, hf⟩ : ∃ d, d < n ∧ ∀ t, t < a → e t ≠ d := by
    rcases H.fr with ⟨h, _⟩ | h
    · omega
    · exact h
  have hsol : ∀ z : Nat → Int, (∀ i, i < a → sm (fun j => M i j * z j) n = M i n) → Sol p R n M0 z := fun z hz => (H.so z).2 fun i hi => by
    unfold rowM
    by_cases hia : i < a
    · rw [hz i hia, Int.sub_self]; exact Int.dvd_zero _
    · rw [sm_zero n (fun j hj => by rw [H.ze i (by omega) hi j hj, Int.zero_mul]), h0 i (by omega) hi]; exact Int.dvd_zero _
  refine ⟨pk a e (fun i => M i n), fun j => pk a e (fun i => M i n - M i d) j + if j = d then 1 else 0, hsol _ fun i hi => H.pk_sm _ hi, hsol _ fun i hi => ?_, d, hd, ?_⟩
  · have e1 : sm (fun j => M i j * (pk a e (fun i => M i n - M i d) j + if j = d then 1 else 0)) n = sm (fun j => M i j * pk a e (fun i => M i n - M i d) j) n + sm (fun j => M i j * if j = d then 1 else 0) n := by
      rw [← sm_add]
      exact sm_congr n fun j _ => Int.mul_add _ _ _
    rw [e1, H.pk_sm _ hi, sm_one (k := d) n hd (fun j _ hne => by rw [if_neg hne, Int.mul_zero]), if_pos rfl, Int.mul_one]
    omega
  · show ¬ p ∣ pk a e _ d - (pk a e _ d + if d = d then 1 else 0)
    rw [pk_no hf, pk_no hf, if_pos rfl]
    intro h
    have h2 := (Int.dvd_neg).1 (show p ∣ -(1 : Int) by simpa using h)
    have h4 := Int.le_of_dvd (by omega) h2
    omega
theorem GInv.one (H : GInv p R n M0 M n a e) (ha : ¬ a < n) : n ≤ R ∧ Sol p R n M0 (fun j => M j n) ∨ ∃ i, a ≤ i ∧ i < R ∧ M i n ≠ 0 := by
  have hac := H.ac
  have han : a = n := by omega
  have hR := H.aR
  by_cases hx : ∃ i, a ≤ i ∧ i < R ∧ M i n ≠ 0
  · exact .inr hx
  · refine .inl ⟨by omega, (H.so _).2 fun i hi => ?_⟩
    obtain ⟨h1, h2⟩ : a = n ∧ ∀ t, t < a → e t = t := by
      rcases H.fr with h | ⟨d, h1, h2⟩
      · exact h
      · -- n different numbers below n, d not among them
        exfalso
        have key : ∀ k (f : Nat → Nat), (∀ t, t < k → f t < k) → (∀ t s, t < k → s < k → f t = f s → t = s) → ∀ d, d < k → ∃ t, t < k ∧ f t = d := by
          intro k
          induction k with
          | zero => intro f _ _ d hd; omega
          | succ k ih =>
            intro f hf hi d hd
            let f' := fun t => if f t = k then f k else f t
            by_cases hk : f k = k
            · by_cases hdk : d = k
              · exact ⟨k, by omega, by rw [hk, hdk]⟩
              · have hlt : ∀ t, t < k → f t < k := fun t ht => by
                  have h5 := hf t (by omega)
                  have h6 : f t ≠ k := fun h => by have := hi t k (by omega) (by omega) (by rw [h, hk]); omega
                  omega
                obtain ⟨t, ht, htd⟩ := ih f hlt (fun t s h5 h6 h7 => hi t s (by omega) (by omega) h7) d (by omega)
                exact ⟨t, by omega, htd⟩
            · have hfk : f k < k := by have := hf k (by omega); omega
              have hlt : ∀ t, t < k → f' t < k := fun t ht => by
                show (if f t = k then f k else f t) < k
                split
                · exact hfk
                · have := hf t (by omega); omega
              have hin : ∀ t s, t < k → s < k → f' t = f' s → t = s := fun t s h5 h6 h7 => by
                have h7' : (if f t = k then f k else f t) = (if f s = k then f k else f s) := h7
                by_cases c1 : f t = k <;> by_cases c2 : f s = k
                · exact hi t s (by omega) (by omega) (by rw [c1, c2])
                · rw [if_pos c1, if_neg c2] at h7'
                  have := hi k s (by omega) (by omega) h7'
                  omega
                · rw [if_neg c1, if_pos c2] at h7'
                  have := hi t k (by omega) (by omega) h7'
                  omega
                · rw [if_neg c1, if_neg c2] at h7'
                  exact hi t s (by omega) (by omega) h7'
              by_cases hdk : d = f k
              · exact ⟨k, by omega, hdk.symm⟩
              · by_cases hdk2 : d = k
                · -- who is sent to k: the one that f' sends to f k
                  obtain ⟨t, ht, htd⟩ := ih f' hlt hin (f k) hfk
                  have htd' : (if f t = k then f k else f t) = f k := htd
                  by_cases c1 : f t = k
                  · exact ⟨t, by omega, by rw [c1, hdk2]⟩
                  · rw [if_neg c1] at htd'
                    have := hi t k (by omega) (by omega) htd'
                    omega
                · obtain ⟨t, ht, htd⟩ := ih f' hlt hin d (by omega)
                  have htd' : (if f t = k then f k else f t) = d := htd
                  by_cases c1 : f t = k
                  · rw [if_pos c1] at htd'
                    exact absurd htd'.symm hdk
                  · rw [if_neg c1] at htd'
                    exact ⟨t, by omega, htd'⟩
        obtain ⟨t, ht, htd⟩ := key n e (fun t ht => H.pv t (by omega)) (fun t s h3 h4 h5 => H.inj (by omega) (by omega) h5) d h1
        exact h2 t (by omega) htd
    have hx' : ∀ i, a ≤ i → i < R → M i n = 0 := fun i h3 h4 => Classical.byContradiction fun h5 => hx ⟨i, h3, h4, h5⟩
    unfold rowM
    by_cases hia : i < a
    · rw [sm_one (k := i) n (by omega) (fun j hj hne => ?_)]
      · have := H.un i hia i hi
        rw [h2 i hia, if_pos rfl] at this
        rw [this, Int.one_mul, Int.sub_self]
        exact Int.dvd_zero _
      · have := H.un j (by omega) i hi
        rw [h2 j (by omega), if_neg (fun h => hne h.symm)] at this
        rw [this, Int.zero_mul]
    · rw [sm_zero n (fun j hj => by rw [H.ze i (by omega) hi j hj, Int.zero_mul]), hx' i (by omega) hi]
      exact Int.dvd_zero _
end
end Go.Proofs.Ytlnfkkapepgilaa
