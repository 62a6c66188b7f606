/-
  The walk over perm.cycles. Condition: the slice can be read and is a permutation.
-/
import Derived.Test.YtnbgnoimanpjnaaPchk
import Derived.Test.YtnbgnoimanpjnaaPm
import Derived.Test.YtnbgnoimanpjnaaOl
namespace Go.Proofs.Ytnbgnoimanpjnaa
set_option linter.unusedVariables false
open Go.RowKit

def fL (l : List Int) (c : Nat) : Nat := (l[c]?.getD 0).toNat
structure PmL (l : List Int) (N : Nat) (f : Nat → Nat) : Prop where
  len : l.length = N
  n12 : N ≤ 12
  pm : Pm N f
  at' : ∀ c, c < N → l[c]?.getD 0 = (f c : Int)
theorem pm_of {l : List Int} (h : permE l = 0) : PmL l l.length (fL l) := by
  unfold permE at h
  by_cases h1 : 12 < l.length
  · rw [if_pos h1] at h; simp at h
  rw [if_neg h1] at h
  by_cases h2 : l.any (offN l.length) = true
  · rw [if_pos h2] at h; simp at h
  rw [if_neg h2] at h
  by_cases h3 : l.Nodup
  · have hb : ∀ c : Nat, c < l.length → 0 ≤ l[c]?.getD 0 ∧ l[c]?.getD 0 < (l.length : Int) := fun c hc => by
      have h4 : offN l.length (l[c]?.getD 0) = false := by
        cases e : offN l.length (l[c]?.getD 0) with
        | false => rfl
        | true => exact absurd (List.any_eq_true.2 ⟨l[c], List.getElem_mem hc, by simpa [hc] using e⟩) h2
      exact offN_false.1 h4
    refine ⟨rfl, by omega, ⟨fun i hi => ?_, fun i j hi hj e => ?_⟩, fun c hc => ?_⟩
    · have := hb i hi
      unfold fL; omega
    · have a1 := hb i hi
      have a2 := hb j hj
      have e2 : l[i]?.getD 0 = l[j]?.getD 0 := by unfold fL at e; omega
      have hp := (nodup_pairs (l := l) rfl).1 h3
      rcases Nat.lt_trichotomy i j with h | h | h
      · exact absurd e2.symm (hp j i hj h)
      · exact h
      · exact absurd e2 (hp i j hi h)
    · have := hb c hc
      unfold fL; omega
  · rw [if_neg h3] at h; simp at h

def boolL (S : Nat → Bool) : List Value := (List.range 12).map fun x => .bool (S x)
theorem boolL_get {S : Nat → Bool} {c : Nat} (h : c < 12) : (boolL S)[c]? = some (.bool (S c)) := by simp [boolL, h]
theorem boolL_set {S : Nat → Bool} {c : Nat} (h : c < 12) : (boolL S).set c (.bool true) = boolL (fun x => x == c || S x) := by
  refine List.ext_getElem? fun i => ?_
  by_cases e : c = i
  · subst e
    rw [List.getElem?_set_self (by simpa [boolL] using h), boolL_get h]
    simp
  · rw [List.getElem?_set_ne e]
    by_cases hi : i < 12
    · rw [boolL_get hi, boolL_get hi]
      have : (i == c) = false := by simp; omega
      rw [this]; rfl
    · simp [boolL, hi]
def intsL (L : List Nat) : List Int := L.map fun x : Nat => (x : Int)
theorem intsL_snoc (L : List Nat) (x : Nat) : intsL (L ++ [x]) = intsL L ++ [(x : Int)] := by simp [intsL]
theorem intsL_len (L : List Nat) : (intsL L).length = L.length := by simp [intsL]
def lenV : Value → Nat
  | .slice _ n _ => n
  | _ => 0

end Go.Proofs.Ytnbgnoimanpjnaa
