/-
  What taps make, is found no longer than these; what is found makes the row. No program in sight.
-/
import Derived.Test.YtlnfkkapepgilaaBm
namespace Go.Proofs.Ytlnfkkapepgilaa
set_option linter.unusedVariables false

theorem dot_sm (taps l : List Int) : ∀ j, dot taps l j = sm (fun j => taps.getD j 0 * l.getD (l.length - 1 - j) 0) j
  | 0 => rfl
  | j + 1 => by rw [dot, sm, dot_sm taps l j]
theorem sm_neg (f : Nat → Int) : ∀ n, sm (fun i => -f i) n = -sm f n
  | 0 => rfl
  | n + 1 => by simp only [sm]; rw [sm_neg f n]; omega
/-- The taps as a polynomial. -/
def tapC (taps : List Int) (i : Nat) : Int := if i = 0 then 1 else -(taps.getD (i - 1) 0)
theorem tap_gen {p : Int} (hp : 0 < p) (taps seed : List Int) (hl : seed.length = taps.length) (n : Nat) : Gen p (fun i => (rowL p taps seed n).getD i 0) (tapC taps) taps.length n := by
  intro m h1 h2
  unfold disc
  rw [show taps.length + 1 = 1 + taps.length by omega, sm_front]
  have e0 : (rowL p taps seed n).getD (m - 0) 0 = dot taps (rowL p taps seed m) taps.length % p := by
    rw [Nat.sub_zero, row_at h2]
    unfold rowF
    simp only [rowL]
    rw [List.getD_eq_getElem?_getD, List.getElem?_append_right (by rw [rowL_len]; exact Nat.le_refl _), rowL_len, Nat.sub_self]
    unfold nxt
    rw [rowL_len, if_neg (by omega)]
    rfl
  have e1 : sm (fun j => tapC taps (1 + j) * (rowL p taps seed n).getD (m - (1 + j)) 0) taps.length = - dot taps (rowL p taps seed m) taps.length := by
    rw [dot_sm, ← sm_neg]
    refine sm_congr _ fun j hj => ?_
    unfold tapC
    rw [if_neg (by omega), show 1 + j - 1 = j by omega, rowL_len, row_at (by omega), row_at (by omega), show m - (1 + j) = m - 1 - j by omega, Int.neg_mul]
  rw [e1]
  show p ∣ tapC taps 0 * (rowL p taps seed n).getD (m - 0) 0 + _
  rw [e0, show tapC taps 0 = 1 from rfl, Int.one_mul]
  refine ⟨-(dot taps (rowL p taps seed m) taps.length / p), ?_⟩
  rw [Int.emod_def, Int.mul_neg]
  omega
/-- The taps that are told. -/
def bmT (p : Int) (C : Nat → Int) (L : Nat) : List Int := (List.range L).map fun j => (p - C (j + 1)) % p
theorem bmT_get {p : Int} {C : Nat → Int} {L j : Nat} (h : j < L) : (bmT p C L).getD j 0 = (p - C (j + 1)) % p := by
  rw [List.getD_eq_getElem?_getD, bmT, List.getElem?_map, List.getElem?_range h]
  rfl
theorem bmT_len (p : Int) (C : Nat → Int) (L : Nat) : (bmT p C L).length = L := by simp [bmT]
theorem bmT_in {p : Int} (hp : 0 < p) (C : Nat → Int) (L : Nat) : ∀ x ∈ bmT p C L, 0 ≤ x ∧ x < p := by
  intro x hx
  obtain ⟨j, _, rfl⟩ := List.mem_map.1 hx
  exact ⟨Int.emod_nonneg _ (by omega), Int.emod_lt_of_pos _ hp⟩
theorem bm_row {p : Int} (hp : 0 < p) {row : List Int} (hr : ∀ x ∈ row, 0 ≤ x ∧ x < p) {C : Nat → Int} {L : Nat} (h0 : C 0 = 1) (hg : Gen p (fun i => row.getD i 0) C L row.length) (hL : L ≤ row.length) : ∀ i, i ≤ row.length → rowL p (bmT p C L) (row.take L) i = row.take i
  | 0, _ => by simp [rowL]
  | i + 1, h => by
    have ih := bm_row hp hr h0 hg hL i (by omega)
    have hlt : i < row.length := by omega
    have htk : row.take (i + 1) = row.take i ++ [row.getD i 0] := by
      rw [List.take_add_one, List.getElem?_eq_getElem hlt, List.getD_eq_getElem?_getD, List.getElem?_eq_getElem hlt]
      rfl
    simp only [rowL]
    rw [ih, htk]
    congr 2
    unfold nxt
    have hlt2 : (row.take i).length = i := by rw [List.length_take]; omega
    have hls : (row.take L).length = L := by rw [List.length_take]; omega
    rw [hlt2, hls]
    by_cases hi : i < L
    · rw [if_pos hi, List.getD_eq_getElem?_getD, List.getElem?_take, if_pos hi, ← List.getD_eq_getElem?_getD]
    · rw [if_neg hi, bmT_len]
      have hd := hg i (by omega) hlt
      unfold disc at hd
      rw [show L + 1 = 1 + L by omega, sm_front, h0, Int.one_mul, Nat.sub_zero] at hd
      have hs : p ∣ dot (bmT p C L) (row.take i) L + sm (fun j => C (1 + j) * row.getD (i - (1 + j)) 0) L := by
        rw [dot_sm, ← sm_add]
        refine sm_dvd _ fun j hj => ?_
        rw [bmT_get hj, hlt2, List.getD_eq_getElem?_getD (l := row.take i), List.getElem?_take, if_pos (by omega), ← List.getD_eq_getElem?_getD, show i - (1 + j) = i - 1 - j by omega, ← Int.add_mul]
        refine Int.dvd_mul_of_dvd_left ?_
        rw [Int.emod_def, Nat.add_comm j 1]
        exact ⟨1 - (p - C (1 + j)) / p, by rw [Int.mul_sub]; omega⟩
      have h2 := Int.dvd_sub hs hd
      rw [show dot (bmT p C L) (row.take i) L + sm (fun j => C (1 + j) * row.getD (i - (1 + j)) 0) L - (row.getD i 0 + sm (fun j => C (1 + j) * row.getD (i - (1 + j)) 0) L) = dot (bmT p C L) (row.take i) L - row.getD i 0 by omega] at h2
      have h3 := getD_nn hp hr i
      have h4 := Int.emod_emod_of_dvd (dot (bmT p C L) (row.take i) L) (Int.dvd_refl p)
      have h5 : dot (bmT p C L) (row.take i) L % p = row.getD i 0 % p := Int.emod_eq_emod_iff_emod_sub_eq_zero.2 (Int.emod_eq_zero_of_dvd h2)
      rw [h5, Int.emod_eq_of_lt h3.1 h3.2]
end Go.Proofs.Ytlnfkkapepgilaa
