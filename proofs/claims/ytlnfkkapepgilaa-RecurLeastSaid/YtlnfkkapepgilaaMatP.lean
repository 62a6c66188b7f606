/-
  A matrix of numbers as a slice of slices of the call's own, all of them apart. Conditions as each law states.
-/
import Derived.Test.YtlnfkkapepgilaaOl
import Derived.Test.YtlnfkkapepgilaaGauss
namespace Go.Proofs.Ytlnfkkapepgilaa
set_option linter.unusedVariables false
open Go.RowKit

def rowV (M : Nat → Nat → Int) (n i : Nat) : List Int := (List.range (n + 1)).map (M i)
theorem rowV_len (M : Nat → Nat → Int) (n i : Nat) : (rowV M n i).length = n + 1 := by simp [rowV]
theorem rowV_get {M : Nat → Nat → Int} {n i j : Nat} (h : j ≤ n) : (rowV M n i).getD j 0 = M i j := by
  rw [List.getD_eq_getElem?_getD, rowV, List.getElem?_map, List.getElem?_range (by omega)]
  rfl
def upM (M : Nat → Nat → Int) (a b : Nat) (z : Int) (x y : Nat) : Int := if x = a ∧ y = b then z else M x y
theorem rowV_set (M : Nat → Nat → Int) (n i j : Nat) (z : Int) : (rowV M n i).set j z = rowV (upM M i j z) n i := by
  refine List.ext_getElem (by simp [rowV]) fun k h1 h2 => ?_
  rw [List.getElem_set]
  simp only [rowV, List.getElem_map, List.getElem_range, upM]
  by_cases e : j = k
  · simp [e]
  · simp [e, show ¬ k = j from fun h => e h.symm]
theorem rowV_other {M : Nat → Nat → Int} {n i a b : Nat} {z : Int} (h : i ≠ a) : rowV (upM M a b z) n i = rowV M n i := by
  unfold rowV
  refine List.map_congr_left fun k _ => ?_
  unfold upM
  rw [if_neg (fun h2 => h h2.1)]
theorem rowV_congr {M M' : Nat → Nat → Int} {n i : Nat} (h : ∀ j, j ≤ n → M i j = M' i j) : rowV M n i = rowV M' n i := List.map_congr_left fun k hk => h k (by have := List.mem_range.1 hk; omega)
def rowS (n : Nat) (g cp : Nat → Nat) (i : Nat) : Value := .slice (some ⟨g i, 0, none⟩) (n + 1) (cp i)
def outV (R n : Nat) (g cp : Nat → Nat) : List Value := (List.range R).map (rowS n g cp)
theorem outV_len (R n : Nat) (g cp : Nat → Nat) : (outV R n g cp).length = R := by simp [outV]
theorem outV_get {R n : Nat} {g cp : Nat → Nat} {i : Nat} (h : i < R) : (outV R n g cp)[i]? = some (.slice (some ⟨g i, 0, none⟩) (n + 1) (cp i)) := by
  rw [outV, List.getElem?_map, List.getElem?_range h]
  rfl

structure MatG (B U : Nat) (w : World) (v : Value) (R n : Nat) (g cp : Nat → Nat) (M : Nat → Nat → Int) : Prop where
  inj : ∀ i, i < R → ∀ j, j < R → g i = g j → i = j
  gu : ∀ i, i < R → g i < U
  vu : ∀ k, v.ownBlock = some k → k < U
  out : Ow 30 B w v (outV R n g cp)
  row : ∀ i, i < R → OI B w (.slice (some ⟨g i, 0, none⟩) (n + 1) (cp i)) (rowV M n i)
def MatP (B U : Nat) (w : World) (v : Value) (R n : Nat) (M : Nat → Nat → Int) : Prop := ∃ g cp, MatG B U w v R n g cp M
section
variable {B U : Nat} {w w' : World} {v : Value} {R n : Nat} {g cp : Nat → Nat} {M M' : Nat → Nat → Int}
theorem MatG.len (h : MatG B U w v R n g cp M) : ∃ a c, v = .slice a R c := by
  have := h.out.len
  rwa [outV_len] at this
theorem MatG.form (h : MatG B U w v R n g cp M) (hR : 0 < R) : ∃ go c, v = .slice (some ⟨go, 0, none⟩) R c := by
  obtain ⟨go, c, e, _⟩ := h.out.form (by rw [outV_len]; exact hR)
  rw [outV_len] at e
  exact ⟨go, c, e⟩
theorem MatG.oc {go c m : Nat} (h : MatG B U w (.slice (some ⟨go, 0, none⟩) m c) R n g cp M) {i : Nat} (hi : i < R) : w.cell? ⟨go, i, none⟩ = some (.slice (some ⟨g i, 0, none⟩) (n + 1) (cp i)) := by
  rw [h.out.cell i (by rw [outV_len]; exact hi), outV_get hi]
theorem MatG.ic (h : MatG B U w v R n g cp M) {i j : Nat} (hi : i < R) (hj : j ≤ n) : w.cell? ⟨g i, j, none⟩ = some (.int .i64 (M i j)) := by
  rw [(h.row i hi).cell j (by rw [rowV_len]; omega), rowV_get hj]
theorem MatG.fz (h : MatG B U w v R n g cp M) {i : Nat} (hi : i < R) (j : Nat) : w.frozen? ⟨g i, j, none⟩ = false := (h.row i hi).frozen j
theorem MatG.ofz {go c m : Nat} (h : MatG B U w (.slice (some ⟨go, 0, none⟩) m c) R n g cp M) (j : Nat) : w.frozen? ⟨go, j, none⟩ = false := h.out.frozen j
theorem MatG.congr (h : MatG B U w v R n g cp M) (he : ∀ i, i < R → ∀ j, j ≤ n → M i j = M' i j) : MatG B U w v R n g cp M' :=
  ⟨h.inj, h.gu, h.vu, h.out, fun i hi => by rw [← rowV_congr (he i hi)]; exact h.row i hi⟩
theorem MatP.congr (h : MatP B U w v R n M) (he : ∀ i, i < R → ∀ j, j ≤ n → M i j = M' i j) : MatP B U w v R n M' := by
  obtain ⟨g, cp, h⟩ := h
  exact ⟨g, cp, h.congr he⟩
theorem MatG.kept {row : Option Nat} (h : MatG B U w v R n g cp M) (hg : w.grownBy w' row) (hr : ∀ k, row = some k → U ≤ k) : MatG B U w' v R n g cp M := by
  refine ⟨h.inj, h.gu, h.vu, h.out.kept hg ?_, fun i hi => (h.row i hi).kept hg (.inr fun e => ?_)⟩
  · cases hb : v.ownBlock with
    | none => exact .inl rfl
    | some k =>
      right
      intro e
      have := h.vu k hb
      have := hr k e.symm
      omega
  · have := h.gu i hi
    have := hr (g i) e.symm
    omega
theorem MatP.kept {row : Option Nat} (h : MatP B U w v R n M) (hg : w.grownBy w' row) (hr : ∀ k, row = some k → U ≤ k) : MatP B U w' v R n M := by
  obtain ⟨g, cp, h⟩ := h
  exact ⟨g, cp, h.kept hg hr⟩
theorem MatG.drew (h : MatG B U w v R n g cp M) : MatG B U w.drew v R n g cp M := ⟨h.inj, h.gu, h.vu, h.out.drew, fun i hi => (h.row i hi).drew⟩
theorem MatP.drew (h : MatP B U w v R n M) : MatP B U w.drew v R n M := by
  obtain ⟨g, cp, h⟩ := h
  exact ⟨g, cp, h.drew⟩
theorem MatP.below (h : MatP B U w v R n M) (hb : Below w.heap.size w w') : MatP B U w' v R n M := by
  obtain ⟨g, cp, h⟩ := h
  exact ⟨g, cp, h.inj, h.gu, h.vu, h.out.below hb, fun i hi => (h.row i hi).below hb⟩
theorem MatG.gB (h : MatG B U w v R n g cp M) {i : Nat} (hi : i < R) : B ≤ g i ∧ g i < w.heap.size := (h.row i hi).lt (g i) rfl
theorem MatG.put (h : MatG B U w v R n g cp M) {i : Nat} (hi : i < R) (j : Nat) (z : Int) : MatG B U (w.setCell ⟨g i, j, none⟩ (.int .i64 z)) v R n g cp (upM M i j z) ∧ w.grownBy (w.setCell ⟨g i, j, none⟩ (.int .i64 z)) (some (g i)) := by
  obtain ⟨h1, h2⟩ := (h.row i hi).stored j z
  refine ⟨⟨h.inj, h.gu, h.vu, h.out.kept h2 ?_, fun k hk => ?_⟩, h2⟩
  · rcases ow_apart h.out (h.row i hi) with e | e
    · simp [Value.ownBlock] at e
    · exact .inr fun e2 => e (by rw [e2]; rfl)
  · by_cases e : k = i
    · subst e
      rw [← rowV_set]
      exact h1
    · rw [rowV_other e]
      exact (h.row k hk).kept h2 (.inr fun e2 => e (h.inj k hk i hi (Option.some.inj e2)))
theorem outV_swap {a b : Nat} (ha : a < R) (hb : b < R) : ((outV R n g cp).set a (rowS n g cp b)).set b (rowS n g cp a) = outV R n (fun i => g (swA a b i)) (fun i => cp (swA a b i)) := by
  refine List.ext_getElem (by simp [outV]) fun k h1 h2 => ?_
  rw [List.getElem_set, List.getElem_set]
  simp only [outV, List.getElem_map, List.getElem_range, swA]
  by_cases e1 : b = k
  · rw [if_pos e1]
    by_cases e2 : k = a
    · have : a = b := by omega
      subst this
      simp [rowS, e2]
    · simp only [rowS, if_neg e2, if_pos e1.symm]
  · rw [if_neg e1]
    by_cases e2 : a = k
    · simp [rowS, e2]
    · simp only [rowS, if_neg e2, if_neg (show ¬ k = a from fun h => e2 h.symm), if_neg (show ¬ k = b from fun h => e1 h.symm)]
theorem swA_comm (a b i : Nat) : swA a b i = swA b a i := by
  unfold swA
  (repeat' split) <;> omega
theorem outV_swap' {a b : Nat} (ha : a < R) (hb : b < R) : ((outV R n g cp).set b (rowS n g cp a)).set a (rowS n g cp b) = outV R n (fun i => g (swA a b i)) (fun i => cp (swA a b i)) := by
  rw [outV_swap hb ha]
  congr 1 <;> (funext i; rw [swA_comm])
theorem MatG.swapped {go c m a b : Nat} {w1 : World} (h : MatG B U w (.slice (some ⟨go, 0, none⟩) m c) R n g cp M) (ha : a < R) (hb : b < R) (ho : Ow 30 B w1 (.slice (some ⟨go, 0, none⟩) m c) (outV R n (fun i => g (swA a b i)) (fun i => cp (swA a b i)))) (hg : w.grownBy w1 (some go)) : MatG B U w1 (.slice (some ⟨go, 0, none⟩) m c) R n (fun i => g (swA a b i)) (fun i => cp (swA a b i)) (swM M a b) := by
  refine ⟨fun i hi j hj e => ?_, fun i hi => h.gu _ (swA_lt ha hb hi), h.vu, ho, fun i hi => ?_⟩
  · have := h.inj _ (swA_lt ha hb hi) _ (swA_lt ha hb hj) e
    rw [← swA_swA a b i, this, swA_swA]
  · have h1 := h.row _ (swA_lt ha hb hi)
    have h2 := h1.kept hg (by
      rcases ow_apart h.out h1 with e | e
      · simp [Value.ownBlock] at e
      · exact .inr e)
    exact h2
theorem MatG.swap {go c m a b : Nat} (h : MatG B U w (.slice (some ⟨go, 0, none⟩) m c) R n g cp M) (ha : a < R) (hb : b < R) :
    MatP B U ((w.setCell ⟨go, a, none⟩ (rowS n g cp b)).setCell ⟨go, b, none⟩ (rowS n g cp a)) (.slice (some ⟨go, 0, none⟩) m c) R n (swM M a b) ∧ w.grownBy ((w.setCell ⟨go, a, none⟩ (rowS n g cp b)).setCell ⟨go, b, none⟩ (rowS n g cp a)) (some go) := by
  obtain ⟨h1, h2⟩ := h.out.stored a (rowS n g cp b)
  obtain ⟨h3, h4⟩ := h1.stored b (rowS n g cp a)
  rw [outV_swap ha hb] at h3
  exact ⟨⟨_, _, h.swapped ha hb h3 (h2.trans h4)⟩, h2.trans h4⟩
theorem MatG.swap' {go c m a b : Nat} (h : MatG B U w (.slice (some ⟨go, 0, none⟩) m c) R n g cp M) (ha : a < R) (hb : b < R) :
    MatP B U ((w.setCell ⟨go, b, none⟩ (rowS n g cp a)).setCell ⟨go, a, none⟩ (rowS n g cp b)) (.slice (some ⟨go, 0, none⟩) m c) R n (swM M a b) ∧ w.grownBy ((w.setCell ⟨go, b, none⟩ (rowS n g cp a)).setCell ⟨go, a, none⟩ (rowS n g cp b)) (some go) := by
  obtain ⟨h1, h2⟩ := h.out.stored b (rowS n g cp a)
  obtain ⟨h3, h4⟩ := h1.stored a (rowS n g cp b)
  rw [outV_swap' ha hb] at h3
  exact ⟨⟨_, _, h.swapped ha hb h3 (h2.trans h4)⟩, h2.trans h4⟩
/-- What the loops leave is what the plain text says. -/
theorem scM_step {p : Int} {a u : Nat} {z : Int} : ∀ x y, upM (scM p M a z u) a u ((M a u * z) % p) x y = scM p M a z (u + 1) x y := by
  intro x y
  unfold upM scM
  by_cases h : x = a ∧ y = u
  · obtain ⟨rfl, rfl⟩ := h
    rw [if_pos ⟨rfl, rfl⟩, if_pos ⟨rfl, by omega⟩]
  · rw [if_neg h]
    by_cases h2 : x = a ∧ y < u
    · rw [if_pos h2, if_pos ⟨h2.1, by omega⟩]
    · rw [if_neg h2, if_neg (by omega)]
theorem elM_step {p : Int} {a i u : Nat} {f : Int} : ∀ x y, upM (elM p M a f i u) i u ((M i u - f * M a u) % p) x y = elM p M a f i (u + 1) x y := by
  intro x y
  unfold upM elM
  by_cases h : x = i ∧ y = u
  · obtain ⟨rfl, rfl⟩ := h
    rw [if_pos ⟨rfl, rfl⟩, if_pos ⟨rfl, by omega⟩]
  · rw [if_neg h]
    by_cases h2 : x = i ∧ y < u
    · rw [if_pos h2, if_pos ⟨h2.1, by omega⟩]
    · rw [if_neg h2, if_neg (by omega)]
/-- A row that is not touched. -/
theorem elO_skip {p : Int} {a c i : Nat} (hin : ∀ y, y ≤ n → 0 ≤ M i y ∧ M i y < p) (h : i = a ∨ M i c = 0) : ∀ x, ∀ y, y ≤ n → elO p M a c i x y = elO p M a c (i + 1) x y := by
  intro x y hy
  unfold elO
  by_cases h1 : x < i ∧ x ≠ a
  · rw [if_pos h1, if_pos ⟨by omega, h1.2⟩]
  · rw [if_neg h1]
    by_cases h2 : x < i + 1 ∧ x ≠ a
    · rw [if_pos h2]
      obtain rfl : x = i := by omega
      have h0 : M x c = 0 := by
        rcases h with h | h
        · omega
        · exact h
      have := hin y hy
      rw [h0, Int.zero_mul, Int.sub_zero, Int.emod_eq_of_lt this.1 this.2]
    · rw [if_neg h2]
theorem elO_row {p : Int} {a c i : Nat} (h : i ≠ a) : ∀ x, ∀ y, y ≤ n → elM p (elO p M a c i) a (M i c) i (n + 1) x y = elO p M a c (i + 1) x y := by
  intro x y hy
  unfold elM elO
  by_cases h1 : x = i
  · subst h1
    rw [if_pos ⟨rfl, by omega⟩, if_neg (by omega), if_neg (by omega), if_pos ⟨by omega, h⟩]
  · rw [if_neg (by omega)]
    by_cases h2 : x < i ∧ x ≠ a
    · rw [if_pos h2, if_pos ⟨by omega, h2.2⟩]
    · rw [if_neg h2, if_neg (by omega)]
theorem elO_zero {p : Int} {a c : Nat} : ∀ x y, elO p M a c 0 x y = M x y := fun x y => if_neg (by omega)
end
end Go.Proofs.Ytlnfkkapepgilaa
