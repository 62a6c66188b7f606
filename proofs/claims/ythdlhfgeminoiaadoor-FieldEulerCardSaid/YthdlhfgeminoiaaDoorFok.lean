/-
  A field that is one: its numbers. No program in sight.
-/
import Derived.Test.YthdlhfgeminoiaaDoorFmul
namespace Go.Proofs.YthdlhfgeminoiaaDoor
set_option linter.unusedVariables false
open Go.RowKit

/-- The fields, by prime, degree and the low polynomial's number. -/
structure FOk (P K n : Nat) : Prop where
  pr : (P : Int) ∈ prL
  p2 : 2 ≤ P
  p61 : P ≤ 61
  k1 : 1 ≤ K
  k6 : K ≤ 6
  q64 : P ^ K ≤ 64
  nq : n < P ^ K
  ord : ordF P K = P ^ K
  ir : irB P K (dgL P n 7) = true
theorem numL_map {P : Nat} (l : List Nat) (h : ∀ j, l.getD j 0 < P) : numL P l < P ^ l.length := num_lt l h
theorem fa_ok {p k : Int} {low : List Int} (h : faE p k low = 0) : ∃ P K n : Nat, p = (P : Int) ∧ k = (K : Int) ∧ low = nZ (dgL P n K) ∧ FOk P K n := by
  have hq := fa_ord h
  obtain ⟨P, K, rfl, rfl, hpr, hp2, hp61, hk1, hk6, hq64, hord⟩ := ord_pos hq
  have hlen : low.length = K := by
    refine Classical.byContradiction fun hc => ?_
    rw [fa_len hq (by simpa using hc)] at h
    cases h
  have hin : ∀ i, i < low.length → ofF P (low[i]?.getD 0) = false := fun i hi => by
    cases e : ofF P (low[i]?.getD 0) with
    | false => rfl
    | true => rw [fa_off hq (by simpa using hlen) hi e] at h; cases h
  have h1 := toN_nZ hin
  have h2 := toN_lt (P := P) (by omega) hin
  have h3 : (toN low).length = K := by rw [toN, List.length_map, hlen]
  have h4 := dgL_num h2
  rw [h3] at h4
  have h5 := num_lt _ h2
  rw [h3] at h5
  refine ⟨P, K, numL P (toN low), rfl, rfl, by rw [h4, h1], hpr, hp2, hp61, hk1, hk6, hq64, h5, hord, ?_⟩
  have h6 := fa_dg hq (n := numL P (toN low)) (by rw [hord]; exact h5)
  rw [h4, h1, h] at h6
  cases e : irB P K (dgL P (numL P (toN low)) 7) with
  | true => rfl
  | false => rw [e] at h6; cases h6
theorem FOk.fa {P K n : Nat} (h : FOk P K n) : faE P K (nZ (dgL P n K)) = 0 := by
  have hq : ordF (P : Int) (K : Int) ≠ 0 := by
    rw [h.ord]
    have := h.nq
    omega
  rw [fa_dg hq (by rw [h.ord]; exact h.nq), if_pos h.ir]
theorem wi_ok {p k : Int} {low es : List Int} (h : wiE p k low es = 0) : faE p k low = 0 ∧ ∀ x ∈ es, 0 ≤ x ∧ x < ordF p k := by
  by_cases hf : faE p k low = 0
  · refine ⟨hf, fun x hx => ?_⟩
    rw [wiE, if_pos hf] at h
    by_cases hc : es.any (ofF (ordF p k)) = true
    · rw [if_pos hc] at h; cases h
    · have : ofF (ordF p k) x = false := by
        cases e : ofF (ordF p k) x with
        | false => rfl
        | true => exact absurd (List.any_eq_true.2 ⟨x, hx, e⟩) hc
      simp only [ofF, Bool.or_eq_false_iff, decide_eq_false_iff_not] at this
      omega
  · rw [wi_bad hf] at h
    exact absurd h hf
theorem FOk.wi {P K n : Nat} (h : FOk P K n) {es : List Int} (he : ∀ x ∈ es, 0 ≤ x ∧ x < (P ^ K : Nat)) : wiE P K (nZ (dgL P n K)) es = 0 := by
  refine wi_in h.fa fun i hi => ?_
  have := he es[i] (List.getElem_mem hi)
  rw [List.getElem?_eq_getElem hi, Option.getD_some, h.ord]
  simp only [ofF, Bool.or_eq_false_iff, decide_eq_false_iff_not]
  omega
theorem OI.lit2 (B : Nat) (w : World) (x y : Int) (hb : B ≤ w.heap.size) : OI B (w.alloc (.cells #[.int .i64 x, .int .i64 y] 3)) (.slice (some ⟨w.heap.size, 0, none⟩) 2 2) [x, y] := Ow.lit 3 B w #[.int .i64 x, .int .i64 y] 2 hb rfl (by decide)
end Go.Proofs.YthdlhfgeminoiaaDoor
