/-
  The walk over recur.Least. Conditions: the slice can be read; numbers of a row.
-/
import Derived.Test.YtlnfkkapepgilaaStepmk
import Derived.Test.YtlnfkkapepgilaaBmF
import Derived.Test.YtlnfkkapepgilaaClone
import Derived.BigQuiet
namespace Go.Proofs.Ytlnfkkapepgilaa
set_option linter.unusedVariables false
open Go.RowKit

/-- A list's numbers. -/
def gD (l : List Int) (i : Nat) : Int := l.getD i 0
/-- What is mended, from g to i. -/
def nxP (p t : Int) (nl ol : List Int) (g i : Nat) : List Int := (List.range nl.length).map fun j => if g ≤ j ∧ j < i then (gD nl j + (p - t) * gD ol (j - g)) % p else gD nl j
theorem nxP_len (p t : Int) (nl ol : List Int) (g i : Nat) : (nxP p t nl ol g i).length = nl.length := by simp [nxP]
theorem nxP_get {p t : Int} {nl ol : List Int} {g i j : Nat} (h : j < nl.length) : gD (nxP p t nl ol g i) j = if g ≤ j ∧ j < i then (gD nl j + (p - t) * gD ol (j - g)) % p else gD nl j := by
  unfold gD
  rw [List.getD_eq_getElem?_getD, nxP, List.getElem?_map, List.getElem?_range h]
  rfl
theorem nxP_far {p t : Int} {nl ol : List Int} {g i j : Nat} (h : nl.length ≤ j) : gD (nxP p t nl ol g i) j = 0 := by
  unfold gD
  rw [List.getD_eq_getElem?_getD, List.getElem?_eq_none (by rw [nxP_len]; exact h)]
  rfl
theorem gD_far {nl : List Int} {j : Nat} (h : nl.length ≤ j) : gD nl j = 0 := by
  unfold gD
  rw [List.getD_eq_getElem?_getD, List.getElem?_eq_none h]
  rfl
theorem nxP_zero (p t : Int) (nl ol : List Int) (g : Nat) : nxP p t nl ol g g = nl := by
  refine List.ext_getElem (nxP_len _ _ _ _ _ _) fun j h1 h2 => ?_
  have := nxP_get (p := p) (t := t) (ol := ol) (g := g) (i := g) h2
  rw [if_neg (by omega)] at this
  unfold gD at this
  rw [List.getD_eq_getElem?_getD, List.getElem?_eq_getElem h1, List.getD_eq_getElem?_getD, List.getElem?_eq_getElem h2] at this
  exact this
theorem nxP_step {p t : Int} {nl ol : List Int} {g i : Nat} (hg : g ≤ i) (hi : i < nl.length) : (nxP p t nl ol g i).set i ((gD (nxP p t nl ol g i) i + (p - t) * gD ol (i - g)) % p) = nxP p t nl ol g (i + 1) := by
  refine List.ext_getElem (by rw [List.length_set, nxP_len, nxP_len]) fun j h1 h2 => ?_
  rw [nxP_len] at h2
  rw [List.getElem_set]
  have e := nxP_get (p := p) (t := t) (ol := ol) (g := g) (i := i) h2
  have e2 := nxP_get (p := p) (t := t) (ol := ol) (g := g) (i := i + 1) h2
  have e3 := nxP_get (p := p) (t := t) (ol := ol) (g := g) (i := i) hi
  rw [if_neg (by omega)] at e3
  have k1 : (nxP p t nl ol g i)[j]'(by rw [nxP_len]; exact h2) = gD (nxP p t nl ol g i) j := by
    unfold gD; rw [List.getD_eq_getElem?_getD, List.getElem?_eq_getElem (by rw [nxP_len]; exact h2)]; rfl
  have k2 : (nxP p t nl ol g (i + 1))[j]'(by rw [nxP_len]; exact h2) = gD (nxP p t nl ol g (i + 1)) j := by
    unfold gD; rw [List.getD_eq_getElem?_getD, List.getElem?_eq_getElem (by rw [nxP_len]; exact h2)]; rfl
  by_cases hij : i = j
  · subst hij
    rw [if_pos rfl, e3, k2, e2, if_pos (by omega)]
  · rw [if_neg hij, k1, k2, e, e2]
    by_cases hc : g ≤ j ∧ j < i
    · rw [if_pos hc, if_pos (by omega)]
    · rw [if_neg hc, if_neg (by omega)]
theorem nxP_in {p t : Int} {nl ol : List Int} {g i : Nat} (hp : 0 < p) (h : ∀ j, 0 ≤ gD nl j ∧ gD nl j < p) (j : Nat) : 0 ≤ gD (nxP p t nl ol g i) j ∧ gD (nxP p t nl ol g i) j < p := by
  by_cases hj : j < nl.length
  · rw [nxP_get hj]
    split
    · exact ⟨Int.emod_nonneg _ (by omega), Int.emod_lt_of_pos _ hp⟩
    · exact h j
  · rw [nxP_far (by omega)]
    omega
theorem nxP_nxF (p t : Int) (nl ol : List Int) (g : Nat) : gD (nxP p t nl ol g nl.length) = nxF p t (gD nl) (gD ol) g nl.length := by
  funext j
  unfold nxF
  by_cases hj : j < nl.length
  · rw [nxP_get hj]
  · rw [nxP_far (by omega), if_neg (by omega), gD_far (by omega)]
theorem sm_bd {f : Nat → Int} : ∀ n, (∀ i, i < n → 0 ≤ f i ∧ f i ≤ 36) → 0 ≤ sm f n ∧ sm f n ≤ 36 * (n : Int)
  | 0, _ => by simp [sm]
  | n + 1, h => by
    have ih := sm_bd n (fun i hi => h i (by omega))
    have := h n (by omega)
    simp only [sm]
    omega
theorem gD_in {l : List Int} {p : Int} (hp : 0 < p) (h : ∀ x ∈ l, 0 ≤ x ∧ x < p) (j : Nat) : 0 ≤ gD l j ∧ gD l j < p := getD_nn hp h j
def one0 (n : Nat) : List Int := (List.replicate n 0).set 0 1
theorem one0_len (n : Nat) : (one0 n).length = n := by simp [one0]
theorem one0_get {n : Nat} (hn : 0 < n) (i : Nat) : gD (one0 n) i = if i = 0 then 1 else 0 := by
  unfold gD one0
  rw [List.getD_eq_getElem?_getD, List.getElem?_set]
  by_cases h : i = 0
  · subst h
    simp [hn]
  · rw [if_neg (by omega), if_neg h, List.getElem?_replicate]
    split <;> rfl
/-- What Least tells. -/
def lsT (p : Int) (C : Nat → Int) (L N : Nat) : List Int := if L = 0 ∨ N < 2 * L then [] else bmT p C L
/-- All that a round keeps. -/
structure LK (p : Int) (S : Nat) (s : Nat → Int) (n : Nat) (nl ol : List Int) (L g : Nat) (b : Nat) : Prop where
  bm : BM p s n (gD nl) (gD ol) L g b
  l1 : nl.length = S
  l2 : ol.length = S
  i1 : ∀ j, 0 ≤ gD nl j ∧ gD nl j < p
  i2 : ∀ j, 0 ≤ gD ol j ∧ gD ol j < p
  b1 : 1 ≤ b
  b2 : (b : Int) < p
  g1 : 1 ≤ g
  g2 : g ≤ n + 1
theorem LK.start {p : Int} {S : Nat} (s : Nat → Int) (hp : 1 < p) (hS : 0 < S) : LK p S s 0 (one0 S) (one0 S) 0 1 1 := by
  have hi : ∀ j, 0 ≤ gD (one0 S) j ∧ gD (one0 S) j < p := fun j => by rw [one0_get hS]; split <;> omega
  exact ⟨BM.start p s _ _ (by rw [one0_get hS, if_pos rfl]) (fun i h => by rw [one0_get hS, if_neg (by omega)]) (fun i h => by rw [one0_get hS, if_neg (by omega)]) _, one0_len S, one0_len S, hi, hi, Nat.le_refl _, by omega, Nat.le_refl _, by omega⟩
section
variable {p : Int} {S : Nat} {s : Nat → Int} {n : Nat} {nl ol : List Int} {L g b : Nat}
theorem LK.same (H : LK p S s n nl ol L g b) (hd : p ∣ disc s (gD nl) L n) : LK p S s (n + 1) nl ol L (g + 1) b :=
  ⟨H.bm.same hd, H.l1, H.l2, H.i1, H.i2, H.b1, H.b2, by omega, by have := H.g2; omega⟩
/-- What the round's numbers say. -/
theorem mend_ok {d iv : Nat} {D : Int} (hd : p ∣ D - (d : Int)) (h1 : p ∣ (b : Int) * (iv : Int) - 1) {t : Int} (ht : p ∣ (d : Int) * (iv : Int) - t) : p ∣ t * (b : Int) - D := by
  have h2 := Int.dvd_mul_of_dvd_right (b := (d : Int)) h1
  rw [Int.mul_sub, Int.mul_one] at h2
  have h3 := Int.dvd_mul_of_dvd_left (c := (b : Int)) ht
  rw [Int.sub_mul] at h3
  have e : (d : Int) * ((b : Int) * (iv : Int)) = (d : Int) * (iv : Int) * (b : Int) := by rw [Int.mul_comm (b : Int), Int.mul_assoc]
  rw [e] at h2
  have h4 := Int.dvd_sub (Int.dvd_sub h2 h3) hd
  rw [show (d : Int) * (iv : Int) * (b : Int) - (d : Int) - ((d : Int) * (iv : Int) * (b : Int) - t * (b : Int)) - (D - (d : Int)) = t * (b : Int) - D by omega] at h4
  exact h4
theorem LK.keep (H : LK p S s n nl ol L g b) (hp : 0 < p) (hS : n + 1 < S) {t : Int} (ht : p ∣ t * (b : Int) - disc s (gD nl) L n) (h2 : ¬ 2 * L ≤ n) : LK p S s (n + 1) (nxP p t nl ol g S) ol L (g + 1) b := by
  have hbm := H.bm.keep (size := nl.length) (by rw [H.l1]; exact hS) ht h2
  rw [← nxP_nxF, H.l1] at hbm
  exact ⟨hbm, by rw [nxP_len, H.l1], H.l2, fun j => nxP_in hp H.i1 j, H.i2, H.b1, H.b2, by omega, by have := H.g2; omega⟩
theorem LK.grow (H : LK p S s n nl ol L g b) (hp : 0 < p) (hS : n + 1 < S) {t : Int} {d : Nat} (hd1 : 1 ≤ d) (hd2 : (d : Int) < p) (hdd : p ∣ disc s (gD nl) L n - (d : Int)) (ht : p ∣ t * (b : Int) - disc s (gD nl) L n) (h2 : 2 * L ≤ n) : LK p S s (n + 1) (nxP p t nl ol g S) nl (n + 1 - L) 1 d := by
  have hnd : ¬ p ∣ disc s (gD nl) L n := fun h => by
    have h3 := Int.dvd_sub h hdd
    rw [show disc s (gD nl) L n - (disc s (gD nl) L n - (d : Int)) = (d : Int) by omega] at h3
    have := Int.le_of_dvd (by omega) h3
    omega
  have hbm := H.bm.grow (size := nl.length) (by rw [H.l1]; exact hS) ht hnd hdd h2
  rw [← nxP_nxF, H.l1] at hbm
  exact ⟨hbm, by rw [nxP_len, H.l1], H.l1, fun j => nxP_in hp H.i1 j, H.i1, hd1, hd2, Nat.le_refl _, by omega⟩
end
end Go.Proofs.Ytlnfkkapepgilaa
