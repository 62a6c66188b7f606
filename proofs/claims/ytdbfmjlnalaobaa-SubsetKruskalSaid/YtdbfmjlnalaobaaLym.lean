/-
  Sets that lie apart: what Lubell, Yamamoto and Meshalkin sum up. No program in sight.
-/
import Derived.Test.YtdbfmjlnalaobaaThings
import Derived.Test.YtdbfmjlnalaobaaBin
namespace Go.Proofs.Ytdbfmjlnalaobaa
set_option linter.unusedVariables false

def facN : Nat → Nat
  | 0 => 1
  | n + 1 => (n + 1) * facN n
theorem facN_pos : ∀ n, 0 < facN n
  | 0 => by decide
  | n + 1 => Nat.mul_pos (by omega) (facN_pos n)
theorem bin_fac : ∀ (n k : Nat), k ≤ n → bin n k * (facN k * facN (n - k)) = facN n
  | n, 0, _ => by rw [bin_zero, Nat.sub_zero]; simp [facN]
  | 0, k + 1, h => by omega
  | n + 1, k + 1, h => by
    have ih := bin_fac n k (by omega)
    have ha := bin_absorb n k
    rw [show n + 1 - (k + 1) = n - k by omega]
    show bin (n + 1) (k + 1) * ((k + 1) * facN k * facN (n - k)) = (n + 1) * facN n
    rw [← ih]
    have e : bin (n + 1) (k + 1) * ((k + 1) * facN k * facN (n - k)) = bin (n + 1) (k + 1) * (k + 1) * (facN k * facN (n - k)) := by
      simp only [Nat.mul_assoc]
    rw [e, ha, Nat.mul_comm (bin n k) (n + 1), Nat.mul_assoc]
theorem fac_le {n k : Nat} (h : k ≤ n) : facN k * facN (n - k) ≤ facN n := by
  rw [← bin_fac n k h]
  exact Nat.le_mul_of_pos_left _ (bin_pos n k h)

def sumA (f : Nat → Nat) (A : List Nat) : Nat := (A.map f).sum
theorem sumA_cons (f : Nat → Nat) (a : Nat) (A : List Nat) : sumA f (a :: A) = f a + sumA f A := by simp [sumA]
theorem sumA_congr {f g : Nat → Nat} : ∀ {A : List Nat}, (∀ a ∈ A, f a = g a) → sumA f A = sumA g A
  | [], _ => rfl
  | a :: A, h => by rw [sumA_cons, sumA_cons, h a (by simp), sumA_congr (fun b hb => h b (by simp [hb]))]
theorem sumA_le {f g : Nat → Nat} : ∀ {A : List Nat}, (∀ a ∈ A, f a ≤ g a) → sumA f A ≤ sumA g A
  | [], _ => Nat.le_refl _
  | a :: A, h => by
    have h1 := h a (by simp)
    have h2 := sumA_le (A := A) (fun b hb => h b (by simp [hb]))
    rw [sumA_cons, sumA_cons]
    omega
theorem sumA_const (c : Nat) : ∀ A : List Nat, sumA (fun _ => c) A = A.length * c
  | [] => by simp [sumA]
  | a :: A => by rw [sumA_cons, sumA_const c A, List.length_cons, Nat.succ_mul]; omega
theorem sumA_add (f g : Nat → Nat) : ∀ A : List Nat, sumA (fun a => f a + g a) A = sumA f A + sumA g A
  | [] => rfl
  | a :: A => by rw [sumA_cons, sumA_cons, sumA_cons, sumA_add f g A]; omega
theorem sumA_filter (f : Nat → Nat) (p : Nat → Bool) : ∀ A : List Nat, sumA f (A.filter p) = sumA (fun a => if p a = true then f a else 0) A
  | [] => rfl
  | a :: A => by
    rw [List.filter_cons, sumA_cons, ← sumA_filter f p A]
    by_cases h : p a = true
    · rw [if_pos h, if_pos h, sumA_cons]
    · rw [if_neg h, if_neg h, Nat.zero_add]
/-- Summed up both ways. -/
theorem sumA_swap (f : Nat → Nat) (q : Nat → Nat → Bool) (A : List Nat) : ∀ X : List Nat, sumA (fun x => sumA (fun a => if q a x = true then f a else 0) A) X = sumA (fun a => X.countP (q a) * f a) A
  | [] => by
    rw [show (sumA (fun x => sumA (fun a => if q a x = true then f a else 0) A) []) = 0 from rfl]
    rw [sumA_congr (g := fun _ => 0) (fun a _ => by simp), sumA_const, Nat.mul_zero]
  | x :: X => by
    rw [sumA_cons, sumA_swap f q A X, ← sumA_add]
    refine sumA_congr fun a _ => ?_
    rw [List.countP_cons]
    by_cases h : q a x = true
    · rw [if_pos h, if_pos h, Nat.add_mul]; omega
    · rw [if_neg h, if_neg h, Nat.zero_add, Nat.add_zero]

def subG (G : List Nat) (a b : Nat) : Prop := ∀ x ∈ G, a.testBit x = true → b.testBit x = true
def antiG (G : List Nat) (A : List Nat) : Prop := A.Pairwise fun a b => ¬ subG G a b ∧ ¬ subG G b a
def cG (G : List Nat) (a : Nat) : Nat := G.countP a.testBit
theorem cG_le (G : List Nat) (a : Nat) : cG G a ≤ G.length := List.countP_le_length
theorem cG_not (G : List Nat) (a : Nat) : G.countP (fun x => !a.testBit x) = G.length - cG G a := by
  have := List.length_eq_countP_add_countP a.testBit (l := G)
  unfold cG
  have e : G.countP (fun x => !a.testBit x) = G.countP (fun x => decide ¬ a.testBit x = true) := by
    congr 1
    funext x
    cases a.testBit x <;> rfl
  omega
theorem cG_erase {x a : Nat} (ha : a.testBit x = false) : ∀ {G : List Nat}, x ∈ G → cG (G.erase x) a = cG G a
  | [], hx => by cases hx
  | y :: G, hx => by
    unfold cG
    by_cases e : y = x
    · subst e
      rw [List.erase_cons_head, List.countP_cons, ha]
      simp
    · have hx' : x ∈ G := by
        rcases List.mem_cons.1 hx with h | h
        · exact absurd h.symm e
        · exact h
      have ih := cG_erase ha hx'
      unfold cG at ih
      rw [List.erase_cons_tail (by simpa using e), List.countP_cons, List.countP_cons, ih]
theorem lacks {G A : List Nat} (h : antiG G A) (h2 : 2 ≤ A.length) : ∀ a ∈ A, ∃ x ∈ G, a.testBit x = false := by
  intro a ha
  match A, h, h2, ha with
  | a0 :: a1 :: R, h, _, ha =>
    obtain ⟨h3, h4⟩ := List.pairwise_cons.1 h
    have pick : ∀ u v, ¬ subG G u v → ∃ x ∈ G, v.testBit x = false := by
      intro u v hs
      apply Classical.byContradiction
      intro hn
      refine hs fun x hx hux => ?_
      cases hv : v.testBit x with
      | true => rfl
      | false => exact absurd ⟨x, hx, hv⟩ hn
    rcases List.mem_cons.1 ha with e | ha
    · rw [e]; exact pick a1 a0 (h3 a1 (by simp)).2
    · exact pick a0 a (h3 a ha).1
theorem lym : ∀ (m : Nat) (G A : List Nat), G.Nodup → G.length = m → antiG G A → sumA (fun a => facN (cG G a) * facN (m - cG G a)) A ≤ facN m
  | m, G, [], _, _, _ => by show 0 ≤ facN m; omega
  | m, G, [a], _, hm, _ => by
    rw [sumA_cons, show sumA (fun a => facN (cG G a) * facN (m - cG G a)) [] = 0 from rfl, Nat.add_zero]
    exact fac_le (by rw [← hm]; exact cG_le G a)
  | 0, G, a :: b :: R, _, hm, h => by
    obtain ⟨x, hx, _⟩ := lacks h (by simp) a (by simp)
    rw [List.eq_nil_of_length_eq_zero hm] at hx
    cases hx
  | m + 1, G, a :: b :: R, hG, hm, h => by
    have hl := lacks h (by simp)
    generalize a :: b :: R = A at *
    have hc : ∀ a ∈ A, cG G a < m + 1 := fun a ha => by
      obtain ⟨x, hx, hax⟩ := hl a ha
      rw [← hm]
      unfold cG
      rcases Nat.lt_or_ge (G.countP a.testBit) G.length with h | h
      · exact h
      · have := List.countP_eq_length.1 (Nat.le_antisymm List.countP_le_length h) x hx
        rw [hax] at this
        cases this
    have hx : ∀ x ∈ G, sumA (fun a => if (!a.testBit x) = true then facN (cG G a) * facN (m - cG G a) else 0) A ≤ facN m := fun x hx => by
      rw [← sumA_filter (fun a => facN (cG G a) * facN (m - cG G a)) (fun a => !a.testBit x)]
      have ih := lym m (G.erase x) (A.filter fun a => !a.testBit x) (hG.erase x) (by rw [List.length_erase_of_mem hx, hm]; omega) ?_
      · rw [sumA_congr (g := fun a => facN (cG G a) * facN (m - cG G a))] at ih
        · exact ih
        · intro a ha
          have hax : a.testBit x = false := by simpa using (List.mem_filter.1 ha).2
          rw [cG_erase hax hx]
      · refine ((List.Pairwise.filter _ h).imp_of_mem ?_)
        intro u v hu hv huv
        have hux : u.testBit x = false := by simpa using (List.mem_filter.1 hu).2
        have hvx : v.testBit x = false := by simpa using (List.mem_filter.1 hv).2
        have conv : ∀ p q : Nat, p.testBit x = false → subG (G.erase x) p q → subG G p q := fun p q hp hs y hy hpy => by
          by_cases e : y = x
          · rw [e, hp] at hpy; cases hpy
          · exact hs y ((List.mem_erase_of_ne e).2 hy) hpy
        exact ⟨fun hs => huv.1 (conv u v hux hs), fun hs => huv.2 (conv v u hvx hs)⟩
    have hs := sumA_swap (fun a => facN (cG G a) * facN (m - cG G a)) (fun a x => !a.testBit x) A G
    have h1 : sumA (fun a => facN (cG G a) * facN (m + 1 - cG G a)) A = sumA (fun a => G.countP (fun x => !a.testBit x) * (facN (cG G a) * facN (m - cG G a))) A := by
      refine sumA_congr fun a ha => ?_
      have := hc a ha
      rw [cG_not, hm, show m + 1 - cG G a = (m - cG G a) + 1 by omega]
      show facN (cG G a) * ((m - cG G a + 1) * facN (m - cG G a)) = _
      rw [← Nat.mul_assoc, Nat.mul_comm (facN (cG G a)) (m - cG G a + 1), Nat.mul_assoc]
    rw [h1, ← hs]
    refine Nat.le_trans (sumA_le hx) ?_
    rw [sumA_const, hm]
    exact Nat.le_refl _
end Go.Proofs.Ytdbfmjlnalaobaa
