/-
  Shadows: which sets are a set of the family less one thing. No program in sight.
-/
import Derived.Test.YtdbfmjlnalaobaaSpair2
namespace Go.Proofs.Ytdbfmjlnalaobaa
set_option linter.unusedVariables false

def allT (f : Nat → Bool) : Nat → Bool
  | 0 => true
  | n + 1 => bif f n then allT f n else false
theorem allT_at {f : Nat → Bool} : ∀ {n : Nat}, allT f n = true → ∀ i, i < n → f i = true
  | 0, _, i, h => by omega
  | n + 1, h, i, hi => by
    simp only [allT] at h
    cases hf : f n with
    | false => rw [hf] at h; simp at h
    | true =>
      rw [hf] at h
      by_cases e : i = n
      · rw [e]; exact hf
      · exact allT_at (n := n) h i (by omega)
/-- Less one bit. -/
def lessOk (i s : Nat) : Bool := !(s / 2 ^ i % 2 == 1) || (s &&& (18446744073709551615 - 2 ^ i) == s - 2 ^ i)
theorem less_all : allT (fun i => allT (lessOk i) 4096) 12 = true := by decide +kernel
theorem less_bit {i s : Nat} (hi : i < 12) (hs : s < 4096) (h : s / 2 ^ i % 2 = 1) : s &&& (18446744073709551615 - 2 ^ i) = s - 2 ^ i := by
  have := allT_at (allT_at less_all i hi) s hs
  unfold lessOk at this
  rw [h] at this
  simpa using this
theorem bv_u64 (a : Nat) (ha : a < 9223372036854775808) : (BitVec.ofInt 64 (a : Int)).toNat = a := by
  rw [BitVec.ofInt_natCast, BitVec.toNat_ofNat]
  exact Nat.mod_eq_of_lt (by omega)
theorem andNot_i64 (i s : Nat) (hi : i < 12) (hs : s < 4096) (h : s / 2 ^ i % 2 = 1) : bits .andNot .i64 (s : Int) ((2 ^ i : Nat) : Int) = ((s - 2 ^ i : Nat) : Int) := by
  have hp : 2 ^ i ≤ 4096 := (pow12 (n := i) (by omega)).2
  show IntKind.i64.wrap ((BitVec.ofInt 64 (s : Int) &&& ~~~ BitVec.ofInt 64 ((2 ^ i : Nat) : Int)).toNat : Int) = _
  rw [BitVec.toNat_and, BitVec.toNat_not, bv_u64 s (by omega), bv_u64 (2 ^ i) (by omega)]
  rw [show (2 : Nat) ^ 64 - 1 - 2 ^ i = 18446744073709551615 - 2 ^ i by omega, less_bit hi hs h]
  have : s - 2 ^ i ≤ s := Nat.sub_le _ _
  rw [IntKind.wrap_i64]
  omega

/-- Is the i-th thing in s, and is x what is left? -/
def shT (s i x : Nat) : Bool := s / 2 ^ i % 2 == 1 && (s - 2 ^ i == x)
def shS (s i x : Nat) : Bool := (List.range i).any fun t => shT s t x
def shB (F : Nat → Nat) (n k i x : Nat) : Bool := (List.range k).any (fun j => shS (F j) n x) || shS (F k) i x
theorem shS_zero (s x : Nat) : shS s 0 x = false := rfl
theorem shS_succ (s i x : Nat) : shS s (i + 1) x = (shS s i x || shT s i x) := by simp [shS, List.range_succ]
theorem shB_zero (F : Nat → Nat) (n : Nat) : shB F n 0 0 = fun _ => false := rfl
theorem shB_row (F : Nat → Nat) (n k : Nat) : shB F n k n = shB F n (k + 1) 0 := by
  funext x
  simp [shB, List.range_succ, shS_zero]
theorem shB_off {F : Nat → Nat} {n k i : Nat} (h : ¬ F k / 2 ^ i % 2 = 1) : shB F n k (i + 1) = shB F n k i := by
  funext x
  simp only [shB, shS_succ]
  rw [show shT (F k) i x = false by simp [shT, h], Bool.or_false]
theorem shB_on {F : Nat → Nat} {n k i : Nat} (h : F k / 2 ^ i % 2 = 1) : (fun x => x == F k - 2 ^ i || shB F n k i x) = shB F n k (i + 1) := by
  funext x
  simp only [shB, shS_succ]
  rw [show shT (F k) i x = (F k - 2 ^ i == x) by simp [shT, h], show (x == F k - 2 ^ i) = (F k - 2 ^ i == x) from Bool.beq_comm]
  generalize (F k - 2 ^ i == x) = a
  generalize shS (F k) i x = b
  generalize ((List.range k).any fun j => shS (F j) n x) = c
  cases a <;> cases b <;> cases c <;> rfl
def boolS (m : Nat) (f : Nat → Bool) : List Value := (List.range m).map fun x => .bool (f x)
theorem boolS_len (m : Nat) (f : Nat → Bool) : (boolS m f).length = m := by simp [boolS]
theorem boolS_get {m : Nat} {f : Nat → Bool} {c : Nat} (h : c < m) : (boolS m f)[c]? = some (.bool (f c)) := by simp [boolS, h]
theorem boolS_set {m : Nat} {f : Nat → Bool} {c : Nat} (h : c < m) : (boolS m f).set c (.bool true) = boolS m (fun x => x == c || f x) := by
  apply List.ext_getElem?
  intro i
  by_cases e : c = i
  · subst e
    rw [List.getElem?_set_self (by rw [boolS_len]; exact h), boolS_get h]
    simp
  · rw [List.getElem?_set_ne e]
    by_cases hi : i < m
    · rw [boolS_get hi, boolS_get hi, show (i == c) = false by simp; omega]
      rfl
    · rw [List.getElem?_eq_none (by rw [boolS_len]; omega), List.getElem?_eq_none (by rw [boolS_len]; omega)]
theorem boolS_none (m : Nat) : boolS m (fun _ => false) = List.replicate m (.bool false) := by
  apply List.ext_getElem?
  intro i
  by_cases hi : i < m
  · rw [boolS_get hi, List.getElem?_replicate, if_pos hi]
  · rw [List.getElem?_eq_none (by rw [boolS_len]; omega), List.getElem?_eq_none (by simp; omega)]
/-- The sets below t, in order. -/
def natL (L : List Nat) : List Int := L.map fun x : Nat => (x : Int)
def outS (f : Nat → Bool) (t : Nat) : List Int := natL ((List.range t).filter f)
theorem outS_on {f : Nat → Bool} {t : Nat} (h : f t = true) : outS f (t + 1) = outS f t ++ [(t : Int)] := by
  unfold outS
  rw [List.range_succ, List.filter_append]
  simp [natL, h]
theorem outS_off {f : Nat → Bool} {t : Nat} (h : f t = false) : outS f (t + 1) = outS f t := by
  unfold outS
  rw [List.range_succ, List.filter_append]
  simp [natL, h]
theorem outS_len (f : Nat → Bool) (t : Nat) : (outS f t).length ≤ t := by
  unfold outS natL
  rw [List.length_map]
  exact Nat.le_trans (List.length_filter_le _ _) (by simp)
theorem outS_far {f : Nat → Bool} {P : Nat} (h : ∀ x, P ≤ x → f x = false) : ∀ t, P ≤ t → outS f t = outS f P
  | 0, ht => by rw [show P = 0 by omega]
  | t + 1, ht => by
    by_cases e : P = t + 1
    · rw [e]
    · rw [outS_off (h t (by omega)), outS_far h t (by omega)]
theorem shB_bd {F : Nat → Nat} {n P N : Nat} (h : ∀ k, k < N → F k < P) : ∀ x, P ≤ x → shB F n N 0 x = false := by
  intro x hx
  simp only [shB, shS_zero, Bool.or_false]
  rw [List.any_eq_false]
  intro j hj
  simp only [shS, Bool.not_eq_true]
  rw [List.any_eq_false]
  intro t ht
  have := h j (List.mem_range.1 hj)
  unfold shT
  simp
  intro _
  have : F j - 2 ^ t ≤ F j := Nat.sub_le _ _
  omega
end Go.Proofs.Ytdbfmjlnalaobaa
