/-
  Plain laws of rows that a recurrence makes. No program in sight; conditions as each law states.
-/
import Derived.Test.YtgfdddknajeknaaDoorPlain
namespace Go.Proofs.YtgfdddknajeknaaDoor
set_option linter.unusedVariables false

/-- The taps' sum over a list's end, over so many taps. -/
def dot (taps l : List Int) : Nat → Int
  | 0 => 0
  | j + 1 => dot taps l j + taps.getD j 0 * l.getD (l.length - 1 - j) 0
def nxt (p : Int) (taps seed l : List Int) : Int := if l.length < seed.length then seed.getD l.length 0 else dot taps l taps.length % p
/-- The first numbers of a row. -/
def rowL (p : Int) (taps seed : List Int) : Nat → List Int
  | 0 => []
  | i + 1 => rowL p taps seed i ++ [nxt p taps seed (rowL p taps seed i)]
theorem rowL_len (p : Int) (taps seed : List Int) : ∀ i, (rowL p taps seed i).length = i
  | 0 => rfl
  | i + 1 => by simp [rowL, rowL_len p taps seed i]
theorem getD_nn {l : List Int} {p : Int} (hp : 0 < p) (h : ∀ x ∈ l, 0 ≤ x ∧ x < p) (j : Nat) : 0 ≤ l.getD j 0 ∧ l.getD j 0 < p := by
  rw [List.getD_eq_getElem?_getD]
  cases e : l[j]? with
  | none => simpa using hp
  | some x => exact h x (List.mem_of_getElem? e)
theorem mul_bd {x y p : Int} (h1 : 0 ≤ x ∧ x < p) (h2 : 0 ≤ y ∧ y < p) (hp : p ≤ 7) : 0 ≤ x * y ∧ x * y ≤ 36 := by
  refine ⟨Int.mul_nonneg h1.1 h2.1, ?_⟩
  have : x * y ≤ 6 * 6 := Int.mul_le_mul (by omega) (by omega) h2.1 (by omega)
  omega
theorem dot_bd {taps l : List Int} {p : Int} (hp : 0 < p) (hp7 : p ≤ 7) (h1 : ∀ x ∈ taps, 0 ≤ x ∧ x < p) (h2 : ∀ x ∈ l, 0 ≤ x ∧ x < p) : ∀ j : Nat, 0 ≤ dot taps l j ∧ dot taps l j ≤ 36 * (j : Int)
  | 0 => by simp [dot]
  | j + 1 => by
    have ih := dot_bd hp hp7 h1 h2 j
    have := mul_bd (getD_nn hp h1 j) (getD_nn hp h2 (l.length - 1 - j)) hp7
    simp only [dot]
    omega
theorem row_mem {p : Int} {taps seed : List Int} (hp : 0 < p) (hs : ∀ x ∈ seed, 0 ≤ x ∧ x < p) : ∀ i, ∀ x ∈ rowL p taps seed i, 0 ≤ x ∧ x < p
  | 0, x, h => by simp [rowL] at h
  | i + 1, x, h => by
    simp only [rowL, List.mem_append, List.mem_singleton] at h
    rcases h with h | rfl
    · exact row_mem hp hs i x h
    · unfold nxt
      split
      · exact getD_nn hp hs _
      · exact ⟨Int.emod_nonneg _ (by omega), Int.emod_lt_of_pos _ hp⟩
/-- Longer rows begin alike. -/
theorem row_take (p : Int) (taps seed : List Int) (i : Nat) : ∀ d, (rowL p taps seed (i + d)).take i = rowL p taps seed i
  | 0 => by rw [Nat.add_zero, List.take_of_length_le (by rw [rowL_len]; exact Nat.le_refl _)]
  | d + 1 => by
    have : rowL p taps seed (i + (d + 1)) = rowL p taps seed (i + d) ++ [nxt p taps seed (rowL p taps seed (i + d))] := rfl
    rw [this, List.take_append_of_le_length (by rw [rowL_len]; omega), row_take p taps seed i d]
theorem row_get {p : Int} {taps seed : List Int} {i n m : Nat} (h1 : i < n) (h2 : n ≤ m) : (rowL p taps seed n).getD i 0 = (rowL p taps seed m).getD i 0 := by
  have := row_take p taps seed n (m - n)
  rw [show n + (m - n) = m by omega] at this
  rw [← this, List.getD_eq_getElem?_getD, List.getElem?_take, if_pos h1, ← List.getD_eq_getElem?_getD]
/-- The i-th number of a row. -/
def rowF (p : Int) (taps seed : List Int) (i : Nat) : Int := (rowL p taps seed (i + 1)).getD i 0
theorem row_at {p : Int} {taps seed : List Int} {i n : Nat} (h : i < n) : (rowL p taps seed n).getD i 0 = rowF p taps seed i := (row_get (Nat.lt_succ_self i) h).symm
theorem row_list (p : Int) (taps seed : List Int) (n : Nat) : rowL p taps seed n = (List.range n).map (rowF p taps seed) := by
  refine List.ext_getElem (by simp [rowL_len]) fun i h1 h2 => ?_
  have h1' := h1
  rw [rowL_len] at h1'
  have := row_at (p := p) (taps := taps) (seed := seed) h1'
  rw [List.getD_eq_getElem?_getD, List.getElem?_eq_getElem h1] at this
  simpa using this
theorem row_seed {p : Int} {taps seed : List Int} : rowL p taps seed seed.length = seed := by
  refine List.ext_getElem (by rw [rowL_len]) fun i h1 h2 => ?_
  have h := row_at (p := p) (taps := taps) (seed := seed) h2
  rw [List.getD_eq_getElem?_getD, List.getElem?_eq_getElem h1] at h
  have e : rowF p taps seed i = seed[i] := by
    unfold rowF
    simp only [rowL]
    rw [List.getD_eq_getElem?_getD, List.getElem?_append_right (by rw [rowL_len]; exact Nat.le_refl _), rowL_len, Nat.sub_self]
    unfold nxt
    rw [rowL_len, if_pos h2]
    simp [h2]
  simpa [e] using h
/-- What stands in the window of the program's rounds. -/
def winL (p : Int) (taps seed : List Int) (m : Nat) : List Int := (rowL p taps seed (m + seed.length)).drop m
theorem win_len (p : Int) (taps seed : List Int) (m : Nat) : (winL p taps seed m).length = seed.length := by simp [winL, rowL_len]
theorem win_zero (p : Int) (taps seed : List Int) : winL p taps seed 0 = seed := by simp [winL, row_seed]
theorem win_get {p : Int} {taps seed : List Int} {m i : Nat} (h : i < seed.length) : (winL p taps seed m).getD i 0 = rowF p taps seed (m + i) := by
  unfold winL
  rw [List.getD_eq_getElem?_getD, List.getElem?_drop, ← List.getD_eq_getElem?_getD, row_at (by omega)]
theorem win_next (p : Int) (taps seed : List Int) (m : Nat) (hk : 1 ≤ seed.length) : winL p taps seed (m + 1) = (winL p taps seed m).drop 1 ++ [dot taps (winL p taps seed m) taps.length % p] ∨ taps.length ≠ seed.length := by
  by_cases hl : taps.length = seed.length
  · left
    unfold winL
    rw [show m + 1 + seed.length = (m + seed.length) + 1 by omega]
    simp only [rowL]
    rw [List.drop_append_of_le_length (by rw [rowL_len]; omega), List.drop_drop]
    congr 2
    unfold nxt
    rw [rowL_len, if_neg (by omega)]
    congr 1
    have key : ∀ j, j ≤ seed.length → dot taps (rowL p taps seed (m + seed.length)) j = dot taps ((rowL p taps seed (m + seed.length)).drop m) j := by
      intro j
      induction j with
      | zero => intro _; rfl
      | succ j ih =>
        intro hj
        simp only [dot]
        rw [ih (by omega)]
        congr 2
        rw [List.length_drop, rowL_len, List.getD_eq_getElem?_getD, List.getD_eq_getElem?_getD, List.getElem?_drop]
        congr 2
        omega
    exact key _ (by omega)
  · exact .inr hl

/-- Sums, number by number. -/
def addL (p : Int) (a b : List Int) : List Int := List.zipWith (fun x y => (x + y) % p) a b
theorem addL_len {p : Int} {a b : List Int} (h : a.length = b.length) : (addL p a b).length = a.length := by simp [addL, h]
theorem addL_get {p : Int} {a b : List Int} {i : Nat} (h1 : i < a.length) (h2 : i < b.length) : (addL p a b).getD i 0 = (a.getD i 0 + b.getD i 0) % p := by
  have h3 : i < (addL p a b).length := by simp [addL]; omega
  rw [List.getD_eq_getElem?_getD, List.getD_eq_getElem?_getD, List.getD_eq_getElem?_getD, List.getElem?_eq_getElem h1, List.getElem?_eq_getElem h2, List.getElem?_eq_getElem h3]
  simp [addL]
theorem addL_snoc {p x y : Int} {a b : List Int} (h : a.length = b.length) : addL p (a ++ [x]) (b ++ [y]) = addL p a b ++ [(x + y) % p] := by
  unfold addL
  rw [List.zipWith_append h]
  rfl
theorem dot_add {p : Int} {taps a b : List Int} (hp : 0 < p) (h : a.length = b.length) (hl : taps.length ≤ a.length) : ∀ j, j ≤ taps.length → dot taps (addL p a b) j % p = (dot taps a j + dot taps b j) % p
  | 0, _ => by simp [dot]
  | j + 1, hj => by
    have ih := dot_add hp h hl j (by omega)
    simp only [dot]
    rw [addL_len h, addL_get (by omega) (by omega), ← h]
    generalize a.getD (a.length - 1 - j) 0 = x
    generalize b.getD (a.length - 1 - j) 0 = y
    generalize taps.getD j 0 = t
    rw [Int.add_emod, ih, ← Int.add_emod]
    have e1 : t * ((x + y) % p) % p = (t * x + t * y) % p := by rw [Int.mul_emod, Int.emod_emod_of_dvd _ (Int.dvd_refl p), ← Int.mul_emod, Int.mul_add]
    rw [Int.add_emod, e1, ← Int.add_emod]
    congr 1
    omega
theorem row_add {p : Int} {taps a b : List Int} (hp : 0 < p) (ha : a.length = taps.length) (hb : b.length = taps.length) : ∀ n, rowL p taps (addL p a b) n = addL p (rowL p taps a n) (rowL p taps b n)
  | 0 => by simp [rowL, addL]
  | n + 1 => by
    simp only [rowL]
    rw [row_add hp ha hb n, addL_snoc (by rw [rowL_len, rowL_len])]
    congr 2
    unfold nxt
    rw [addL_len (by rw [rowL_len, rowL_len]), addL_len (by omega), rowL_len, rowL_len, ha, hb]
    by_cases h : n < taps.length
    · rw [if_pos h, if_pos h, if_pos h, addL_get (by omega) (by omega)]
    · rw [if_neg h, if_neg h, if_neg h, dot_add hp (by rw [rowL_len, rowL_len]) (by rw [rowL_len]; omega) _ (Nat.le_refl _), Int.add_emod]
end Go.Proofs.YtgfdddknajeknaaDoor
