/-
  The walk over perm.Parse. Conditions: a text of at most 1,000,000,000 letters; the library's variables lie.
-/
import Derived.Test.YtgfdddknajeknaaDoorTwof
import Derived.Test.YtgfdddknajeknaaDoorTwcyc
namespace Go.Proofs.YtgfdddknajeknaaDoor
set_option linter.unusedVariables false
open Go.RowKit

theorem Parse_far (T : List UInt8) (n : Int) (w : World) (h : n < 0 ∨ 12 < n) :
    Calls Tryd.prog 8 #[.string (str T), .int .i64 n] w (TEnd n T w) := by
  have HG := hid (TEnd.far (T := T) h (Below.refl w.heap.size w))
  generalize TEnd n T w = G at *
  go_enter Tryd.func8, Tryd.ntmps8
  rcases h with h | h
  · go_wp2
    exact HG.out
  · have h0 : ¬ n < 0 := by omega
    go_wp2
    exact HG.out

set_option maxHeartbeats 2000000 in
theorem Parse_in (T : List UInt8) (N : Nat) (hN : N ≤ 12) (w : World) (hs : T.length ≤ 1000000000) (hL : LibW w) :
    Calls Tryd.prog 8 #[.string (str T), .int .i64 N] w (TEnd (N : Int) T w) := by
  have HPA := hid (parse_any T N hN w hs hL)
  have HNO := hid (fun w' (h : PRT (stP N) N T none) (hb : Below w.heap.size w w') => TEnd.no hN (no_wr hN (stP_cyc hN) stP_uniq h) hb)
  have HLA := hid (fun l (hl : l.length = N) (h : PRT (stP N) N T (some l)) => TEnd.last hN (stP_cyc hN) stP_uniq hl h)
  have HN2 := hid (fun w' (h : ¬ ∃ f, Pm N f ∧ T = wrT f N) (hb : Below w.heap.size w w') => TEnd.no hN h hb)
  have HY := hid (fun w' f u (P : Pm N f) (h : T = wrT f N) ho hb => TEnd.yes (w := w) (w' := w') (u := u) hN P h ho hb)
  generalize TEnd (N : Int) T w = G at *
  go_enter Tryd.func8, Tryd.ntmps8
  go_wp2_with fail
  refine HPA.out.mono ?_
  rintro e w1 ⟨⟨r, hr, hcase⟩, hb1⟩
  have HB := hid hb1
  have hbs := hb1.size
  clear hb1 HPA hL
  rcases hcase with ⟨rfl, rfl⟩ | ⟨l, u, rfl, rfl, ho, hl⟩
  · have HZ := hid (HNO.out w1 hr HB.out)
    clear hr
    go_wp2
    exact HZ.out
  · have HCS := hid (HLA.out l hl hr)
    have HO := hid ho
    have hsl := ho.sl (by rw [intsL_len]; omega)
    have HSL := hid hsl
    clear hr ho hsl
    rcases HCS.out with ⟨hE, hT, hno⟩ | ⟨hE, f, hPm, hP, hLf, hT⟩
    · have HC := hid (Cycles_bad u (intsL l) w1 HSL.out hE)
      have hq : (str T).toList.isEmpty = false := by rw [str_empty]; cases h : T with | nil => exact absurd h hT | cons _ _ => rfl
      have hq2 : ((str []).toList == (str T).toList) = false := by
        rw [Lib.toList_data, Lib.toList_data, str_data, str_data, beq_eq_false_iff_ne]
        exact fun e => hT e.symm
      have hq3 : (([] : List UInt8) == (str T).toList) = false := by
        rw [Lib.toList_data, str_data, beq_eq_false_iff_ne]
        exact fun e => hT e.symm
      clear hE hT HCS HLA
      generalize permE (intsL l) = E at *
      go_wp2_with fail
      refine HC.out.mono ?_
      rintro e w2 ⟨rfl, hb2⟩
      have HZ := hid (HN2.out _ hno (HB.out.trans (hb2.mono hbs)))
      clear hb2 hno
      go_wp2
      exact HZ.out
    · have HC := hid (Cycles_ok u (intsL l) N f w1 HSL.out hPm hE)
      have HLf := hid hLf
      clear hE hPm HCS HLA hLf
      go_wp2_with fail
      refine HC.out.mono ?_
      rintro e w2 ⟨rfl, hb2⟩
      have HO2 := hid (And.intro (HO.out.below hb2) (HB.out.trans (hb2.mono hbs)))
      clear hb2 HC
      rcases hT with hT | ⟨hT, hno⟩
      · have HZ := hid (HY.out w2 f u hP hT (by rw [← HLf.out]; exact HO2.out.1) HO2.out.2)
        have hq : ((str (wrT f N)).toList == (str T).toList) = true := by rw [← hT]; simp
        rw [← hT] at hq ⊢
        clear hT HO2
        go_wp2
        exact HZ.out
      · have HZ := hid (HN2.out _ hno HO2.out.2)
        have hq : ((str (wrT f N)).toList == (str T).toList) = false := by
          rw [Lib.toList_data, Lib.toList_data, str_data, str_data, beq_eq_false_iff_ne]
          exact fun e => hT e.symm
        generalize wrT f N = X at *
        clear hT hno HO2
        go_wp2
        exact HZ.out
end Go.Proofs.YtgfdddknajeknaaDoor
