/-
  The walk over the law RecurLeast. Conditions: the slice can be read.
-/
import Derived.Test.YtlnfkkapepgilaaLeastOf
import Derived.Test.YtlnfkkapepgilaaWints
namespace Go.Proofs.Ytlnfkkapepgilaa
set_option linter.unusedVariables false
open Go.RowKit

theorem recurLeast_walk (w : World) (p : Int) (_ : I64 p) (v : Value) (seen : List Int) (hv : Sl w v seen) (h1 : ∀ x ∈ seen, I64 x) :
    Calls Try.prog 5 #[.int .i64 p, v] w fun e w' => e = .returned (.bool true) ∧ Below w.heap.size w w' := by
  by_cases h : leastE p seen = 0
  · have hp : smallB p = true := by
      cases hs : smallB p with
      | true => rfl
      | false => unfold leastE at h; rw [if_pos hs] at h; cases h
    have hl : seen.length ≤ 60 := by
      refine Classical.byContradiction fun hc => ?_
      unfold leastE at h
      rw [hp, if_neg (by decide), if_pos (by omega)] at h
      cases h
    have hf : fitB p seen = true := by
      cases hs : fitB p seen with
      | true => rfl
      | false => unfold leastE at h; rw [hp, if_neg (by decide), if_neg (by omega), if_pos hs] at h; cases h
    have hsm := small_cases hp
    obtain ⟨P, rfl⟩ := Int.eq_ofNat_of_zero_le (show 0 ≤ p by omega)
    have HA := hid (Least_ok P v seen w hv hp hl hf h1)
    have HB := hid (fun w1 (hb : Below w.heap.size w w1) => LeastOf_ok P v seen w1 (hv.below hb) hp hl hf)
    have HLL := hid hl
    obtain ⟨sv, sc, e1⟩ := hv.len
    subst e1
    generalize seen.length = N at *
    clear hv h1 hf hl hp h
    go_enter Try.func5, Try.ntmps5
    go_wp2_with fail
    refine HA.out.mono ?_
    rintro e w1 ⟨⟨t, C, B, L, g, b, rfl, ht, hbm⟩, hb1⟩
    have HC := hid (HB.out w1 hb1 C B L g b hbm)
    have B1 := hid hb1
    have HT := hid ht
    have HTL : Hid ((lsT (P : Int) C L N).length ≤ 60) := hid (by
      have := hbm.ln
      have := HLL.out
      unfold lsT
      split
      · simp
      · rw [bmT_len]; omega)
    clear hb1 hbm ht HA HB
    go_wp2_with fail
    refine HC.out.mono ?_
    rintro e w2 ⟨⟨u, rfl, hu⟩, hb2⟩
    have B2 := hid (B1.out.trans (hb2.mono B1.out.size))
    have HI := hid (ints_any t u (lsT P C L N) (lsT P C L N) w2 ((HT.out.below hb2).sl (by have := HTL.out; omega)) (hu.sl (by have := HTL.out; omega)))
    rw [show decide (lsT (P : Int) C L N = lsT P C L N) = true by simp] at HI
    have hLL : ((L : Int) == (L : Int)) = true := by simp
    clear hb2 hu HT HC
    go_wp2_with fail
    refine HI.out.mono ?_
    rintro e w3 ⟨rfl, m3, rfl⟩
    go_wp2
    go_ret
    exact ⟨rfl, below_drewN B2.out m3⟩
  · have HA := hid (Least_bad p v seen w hv h1 h)
    have HB := hid (fun w1 (hb : Below w.heap.size w w1) => LeastOf_bad p v seen w1 (hv.below hb) h)
    have HI := hid (fun w1 => ints_any (.slice none 0 0) (.slice none 0 0) [] [] w1 (Sl.nil' _ _) (Sl.nil' _ _))
    have hzz : (leastE p seen == leastE p seen) = true := by simp
    clear hv h1 h
    generalize leastE p seen = z at *
    go_enter Try.func5, Try.ntmps5
    go_wp2_with fail
    refine HA.out.mono ?_
    rintro e w1 ⟨rfl, hb1⟩
    have HC := hid (HB.out w1 hb1)
    have B1 := hid hb1
    clear hb1 HA HB
    go_wp2_with fail
    refine HC.out.mono ?_
    rintro e w2 ⟨rfl, hb2⟩
    have B2 := hid (B1.out.trans (hb2.mono B1.out.size))
    clear hb2 HC
    go_wp2_with fail
    refine (HI.out _).mono ?_
    rintro e w3 ⟨rfl, m3, rfl⟩
    go_wp2
    go_ret
    exact ⟨rfl, below_drewN B2.out m3⟩
end Go.Proofs.Ytlnfkkapepgilaa
