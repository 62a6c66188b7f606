/-
  The walk over parterrelaw4.subsetFact: it holds. No condition.
-/
import Derived.Test.YtdbfmjlnalaobaaCasc
import Derived.Test.YtdbfmjlnalaobaaSrank
import Derived.Test.YtdbfmjlnalaobaaWints
namespace Go.Proofs.Ytdbfmjlnalaobaa
set_option linter.unusedVariables false
open Go.RowKit

theorem casc_11 : casc 3 11 = [5, 2] := by decide +kernel
theorem rk_023 : rkS [0, 2, 3] ([0, 2, 3] : List Int).length = 2 := by decide +kernel
theorem rank_023 : rankE [0, 2, 3] = 0 := by decide +kernel
theorem casc_fact (w : World) : Calls Try.prog 25 #[.int .i64 11, .int .i64 3] w fun e w' => (∃ u, e = .returned (.tuple #[u, .int .i64 0]) ∧ OI w.heap.size w' u [5, 2]) ∧ Below w.heap.size w w' := by
  have h := Cascade_ok 11 3 w (by omega) (by omega) (by omega)
  rw [casc_11] at h
  exact h
theorem rank_fact (v : Value) (w : World) (h : Sl w v [0, 2, 3]) : Calls Try.prog 21 #[v] w fun e w' => e = .returned (.tuple #[.int .i64 2, .int .i64 0]) ∧ ∃ n, w' = w.drewN n := by
  have h1 := Rank_ok v [0, 2, 3] w h (by intro x hx; unfold I64; simp at hx; omega) rank_023
  rw [rk_023] at h1
  exact h1
theorem fact_any (w : World) :
    Calls Try.prog 32 #[] w fun e w' => e = .returned (.bool true) ∧ Below w.heap.size w w' := by
  have HC := hid (casc_fact w)
  have HR := hid rank_fact
  have B0 := hid (Below.refl w.heap.size w)
  go_enter Try.func32, Try.ntmps32
  go_wp2_with fail
  refine HC.out.mono ?_
  rintro e w1 ⟨⟨r, rfl, hr⟩, hb1⟩
  have HB := hid hb1
  have HR2 := hid hr
  clear hr hb1
  go_wp2_with fail
  refine (ints_any _ _ [5, 2] [5, 2] _ ((HR2.out.alloc _).sl (by decide)) (Sl.lit _ _ _ rfl)).mono ?_
  rintro e w2 ⟨rfl, ⟨k, rfl⟩⟩
  have hd : decide ([(5 : Int), 2] = [5, 2]) = true := by decide
  rw [hd]
  have S3 : Hid (Sl (((w1.alloc (.cells #[.int .i64 5, .int .i64 2] 3)).drewN k).alloc (.cells #[.int .i64 0, .int .i64 2, .int .i64 3] 3)) (.slice (some ⟨w1.heap.size + 1, 0, none⟩) 3 3) [0, 2, 3]) := hid (by
    have h := Sl.lit ((w1.alloc (.cells #[.int .i64 5, .int .i64 2] 3)).drewN k) #[.int .i64 0, .int .i64 2, .int .i64 3] [0, 2, 3] rfl
    have e : ((w1.alloc (.cells #[.int .i64 5, .int .i64 2] 3)).drewN k).heap.size = w1.heap.size + 1 := World.size_alloc _ _
    rw [e] at h
    exact h)
  have HB2 := hid (below_drewN (HB.out.alloc HB.out.size (.cells #[.int .i64 5, .int .i64 2] 3)) k)
  go_wp2_with fail
  refine (HR.out _ _ S3.out).mono ?_
  rintro e w3 ⟨rfl, q, rfl⟩
  go_wp2
  go_ret
  exact ⟨rfl, below_drewN (HB2.out.alloc HB2.out.size _) q⟩

/-- Ranked and unranked is the same. -/
theorem rk_below {l : List Int} (R : RkL l) : ∀ m, m + 1 ≤ l.length → rkS l (m + 1) < bin ((l[m]?.getD 0).toNat + 1) (m + 1)
  | 0, h => by
    show 0 + bin _ 1 < _
    rw [Nat.zero_add]
    exact bin_up (by omega)
  | m + 1, h => by
    have ih := rk_below R m (by omega)
    have h1 := R.up m (by omega)
    have h2 := R.bd m (by omega)
    have h3 := bin_mono (show (l[m]?.getD 0).toNat + 1 ≤ (l[m + 1]?.getD 0).toNat by omega) (m + 1)
    show rkS l (m + 1) + bin (l[m + 1]?.getD 0).toNat (m + 1 + 1) < _
    rw [bin_succ]
    omega
theorem rk_top {l : List Int} (R : RkL l) {m : Nat} (h : m + 1 ≤ l.length) : topN (m + 1) (rkS l (m + 1)) = (l[m]?.getD 0).toNat := by
  have h1 := rk_below R m h
  have h2 := R.bd m (by omega)
  refine (topN_only (by omega) ?_ ?_ h1).symm
  · exact Nat.lt_of_lt_of_le h1 (bin_mono (by omega) _)
  · show _ ≤ rkS l m + bin _ (m + 1)
    omega
theorem rk_rest {l : List Int} (R : RkL l) : ∀ t, t ≤ l.length → rrN l.length (rkS l l.length) t = rkS l (l.length - t)
  | 0, _ => rfl
  | t + 1, h => by
    have ih := rk_rest R t (by omega)
    obtain ⟨m, hm⟩ : ∃ m, l.length - t = m + 1 := ⟨l.length - t - 1, by omega⟩
    have h1 := rk_top R (show m + 1 ≤ l.length by omega)
    simp only [rrN]
    rw [ih, hm, h1, show l.length - (t + 1) = m by omega]
    show rkS l m + bin _ (m + 1) - _ = _
    omega
theorem rk_back {l : List Int} (R : RkL l) : unbL l.length (rkS l l.length) l.length = l := by
  apply List.ext_getElem?
  intro j
  by_cases h : j < l.length
  · obtain ⟨x, hx⟩ : ∃ x, l[j]? = some x := ⟨l[j], List.getElem?_eq_getElem h⟩
    have h1 := rk_rest R (l.length - 1 - j) (by omega)
    have h2 := rk_top R (show j + 1 ≤ l.length by omega)
    have h3 := R.bd j h
    rw [hx, Option.getD_some] at h2 h3
    have h4 : tpN l.length (rkS l l.length) (l.length - 1 - j) = x.toNat := by
      unfold tpN
      rw [h1, show l.length - (l.length - 1 - j) = j + 1 by omega, h2]
    have h5 := unb_get l.length (rkS l l.length) l.length j h
    rw [if_pos (by omega), h4] at h5
    rw [h5, hx, show ((x.toNat : Nat) : Int) = x by omega]
  · rw [List.getElem?_eq_none (by rw [unb_len]; omega), List.getElem?_eq_none (by omega)]
theorem rk_in {l : List Int} (R : RkL l) : rkS l l.length < bin 61 l.length := by
  cases hl : l.length with
  | zero => rw [bin_zero]; show 0 < 1; omega
  | succ m =>
    have h1 := rk_below R m (by omega)
    have h2 := R.bd m (by omega)
    exact Nat.lt_of_lt_of_le h1 (bin_mono (by omega) _)
end Go.Proofs.Ytdbfmjlnalaobaa
