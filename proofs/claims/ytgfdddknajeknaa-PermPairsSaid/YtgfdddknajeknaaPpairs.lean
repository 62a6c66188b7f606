/-
  The walk over the law PermPairs. Conditions: the slices can be read.
-/
import Derived.Test.YtgfdddknajeknaaPalike
namespace Go.Proofs.Ytgfdddknajeknaa
set_option linter.unusedVariables false
open Go.RowKit

theorem permPairs_walk (w : World) (v : Value) (l : List Int) (hl : Sl w v l) (_ : ∀ x ∈ l, I64 x) (u : Value) (m : List Int) (hm : Sl w u m) (_ : ∀ x ∈ m, I64 x) :
    Calls Try.prog 3 #[v, u] w fun e w' => e = .returned (.bool true) ∧ Below w.heap.size w w' := by
  have HF1 := hid (permfault_any v l w hl)
  have HF2 := hid (fun w1 (h : Below w.heap.size w w1) => permfault_any u m w1 (hm.below h))
  have B0 := hid (Below.refl w.heap.size w)
  by_cases hz : bothE l m = 0
  · obtain ⟨h1, h2, h3⟩ := both_zero hz
    have HC := hid (fun w1 (h : Below w.heap.size w w1) => Compose_ok v u l m w1 (hl.below h) (hm.below h) hz)
    have HA := hid (fun w1 (h : Below w.heap.size w w1) => Alike_ok v u l m w1 (hl.below h) (hm.below h) hz)
    have HT := hid (fun w1 (h : Below w.heap.size w w1) => then_ok v u l m w1 (hl.below h) (hm.below h) (by rw [← h3]; exact perm_mem (pm_of h1)) (by have := (pm_of h1).n12; omega))
    have HL1 := hid (fun w1 (h : Below w.heap.size w w1) => lengths_ok v l _ _ w1 (hl.below h) (pm_of h1))
    have HL2 := hid (fun w1 (h : Below w.heap.size w w1) => lengths_ok u m _ _ w1 (hm.below h) (pm_of h2))
    have hn1 := (pm_of h1).n12
    have hn2 := (pm_of h2).n12
    have T1 := hid (show (thenL l m).length ≤ 17592186044416 by rw [then_len]; omega)
    have T2 := hid (show (lenL (fL l) l.length l.length).length ≤ 17592186044416 by rw [lenL_len]; omega)
    have T3 := hid (show (lenL (fL m) m.length m.length).length ≤ 17592186044416 by rw [lenL_len]; omega)
    rw [h1] at HF1
    rw [h2] at HF2
    obtain ⟨a, k, N, rfl, hN, _, _⟩ := hl.open
    obtain ⟨a2, k2, M, rfl, hM, _, _⟩ := hm.open
    have qn : ((N : Int) != (M : Int)) = false := by rw [← hN.out, ← hM.out, h3]; simp
    clear hl hm hz h1 h2 h3 hn1 hn2
    generalize thenL l m = xs at *
    generalize lenL (fL l) l.length l.length = ls at *
    generalize lenL (fL m) m.length m.length = ms at *
    go_enter Try.func3, Try.ntmps3
    go_wp2_with fail
    refine HF1.out.mono ?_
    rintro e w1 ⟨rfl, n1, rfl⟩
    go_wp2_with fail
    refine (HF2.out _ (below_drewN B0.out _)).mono ?_
    rintro e w2 ⟨rfl, n2, rfl⟩
    go_wp2_with fail
    refine (HC.out _ (by first | exact below_drewN B0.out _ | exact below_drewN (below_drewN B0.out _) _)).mono ?_
    rintro e w3 ⟨⟨r, rfl, hr⟩, hb3⟩
    have B3 := hid (by first | exact (below_drewN B0.out _).trans (hb3.mono (Nat.le_refl _)) | exact (below_drewN (below_drewN B0.out _) _).trans (hb3.mono (Nat.le_refl _)) : Below w.heap.size w w3)
    have HR := hid hr
    clear hb3 hr
    go_wp2_with fail
    refine (HA.out _ B3.out).mono ?_
    rintro e w4 ⟨rfl, hb4⟩
    have B4 := hid (B3.out.trans (hb4.mono B3.out.size))
    have HR4 := hid (HR.out.below hb4)
    clear hb4
    go_wp2_with fail
    refine (HT.out _ B4.out).mono ?_
    rintro e w5 ⟨⟨r2, rfl, hr2⟩, hb5⟩
    have B5 := hid (B4.out.trans (hb5.mono B4.out.size))
    have HR5 := hid (HR4.out.below hb5)
    have HS5 := hid hr2
    clear hb5 hr2
    go_wp2_with fail
    refine (ints_any _ _ xs xs _ (HR5.out.sl T1.out) (HS5.out.sl T1.out)).mono ?_
    rintro e w6 ⟨rfl, n6, rfl⟩
    have hd : decide (xs = xs) = true := by simp
    have B6 := hid (below_drewN B5.out n6)
    go_wp2_with fail
    refine (HL1.out _ B6.out).mono ?_
    rintro e w7 ⟨⟨r7, rfl, hr7⟩, hb7⟩
    have B7 := hid (B6.out.trans (hb7.mono B6.out.size))
    have HR7 := hid hr7
    clear hb7 hr7
    go_wp2_with fail
    refine (HL2.out _ B7.out).mono ?_
    rintro e w8 ⟨⟨r8, rfl, hr8⟩, hb8⟩
    have B8 := hid (B7.out.trans (hb8.mono B7.out.size))
    have HR8 := hid (HR7.out.below hb8)
    have HS8 := hid hr8
    clear hb8 hr8
    go_wp2_with fail
    refine (ints_any _ _ ls ms _ (HR8.out.sl T2.out) (HS8.out.sl T3.out)).mono ?_
    rintro e w9 ⟨rfl, n9, rfl⟩
    generalize decide (ls = ms) = bb at *
    have hbb : (bb == bb) = true := by simp
    go_wp2
    go_ret
    exact ⟨rfl, below_drewN B8.out _⟩
  · have HC := hid (fun w1 (h : Below w.heap.size w w1) => Compose_bad v u l m w1 (hl.below h) (hm.below h) hz)
    have HA := hid (fun w1 (h : Below w.heap.size w w1) => Alike_bad v u l m w1 (hl.below h) (hm.below h) hz)
    obtain ⟨a, k, N, rfl, hN, _, _⟩ := hl.open
    obtain ⟨a2, k2, M, rfl, hM, _, _⟩ := hm.open
    have HE := hid (show bothE l m = if permE l ≠ 0 then permE l else if permE m ≠ 0 then permE m else if N ≠ M then 2 else 0 by rw [← hN.out, ← hM.out]; rfl)
    have qz : (bothE l m == 0) = false := by simpa using hz
    have qz1 : (bothE l m != 0) = true := by simpa using hz
    have qzz : (bothE l m != bothE l m) = false := by simp
    clear hl hm
    generalize bothE l m = z at *
    generalize permE l = x at *
    generalize permE m = y at *
    by_cases hx : x = 0
    · have qx : (x == 0) = true := by simpa using hx
      by_cases hy : y = 0
      · have hNM : N ≠ M := fun e => hz (by rw [HE.out]; simp [hx, hy, e])
        have HZ : z = 2 := by rw [HE.out]; simp [hx, hy, hNM]
        have qn : ((N : Int) != (M : Int)) = true := by simp; omega
        have qy : (y == 0) = true := by simpa using hy
        subst HZ
        clear hz qz qz1 qzz hx hy hNM
        go_enter Try.func3, Try.ntmps3
        go_wp2_with fail
        refine HF1.out.mono ?_
        rintro e w1 ⟨rfl, n1, rfl⟩
        go_wp2_with fail
        refine (HF2.out _ (below_drewN B0.out _)).mono ?_
        rintro e w2 ⟨rfl, n2, rfl⟩
        go_wp2_with fail
        refine (HC.out _ (by first | exact below_drewN B0.out _ | exact below_drewN (below_drewN B0.out _) _)).mono ?_
        rintro e w3 ⟨rfl, hb3⟩
        have B3 := hid (by first | exact (below_drewN B0.out _).trans (hb3.mono (Nat.le_refl _)) | exact (below_drewN (below_drewN B0.out _) _).trans (hb3.mono (Nat.le_refl _)) : Below w.heap.size w w3)
        clear hb3
        go_wp2_with fail
        refine (HA.out _ B3.out).mono ?_
        rintro e w4 ⟨rfl, hb4⟩
        have B4 := hid (B3.out.trans (hb4.mono B3.out.size))
        clear hb4
        go_wp2
        go_ret
        exact ⟨rfl, B4.out⟩
      · have HZ : z = y := by rw [HE.out]; simp [hx, hy]
        subst HZ
        clear hz hx hy
        go_enter Try.func3, Try.ntmps3
        go_wp2_with fail
        refine HF1.out.mono ?_
        rintro e w1 ⟨rfl, n1, rfl⟩
        go_wp2_with fail
        refine (HF2.out _ (below_drewN B0.out _)).mono ?_
        rintro e w2 ⟨rfl, n2, rfl⟩
        go_wp2_with fail
        refine (HC.out _ (by first | exact below_drewN B0.out _ | exact below_drewN (below_drewN B0.out _) _)).mono ?_
        rintro e w3 ⟨rfl, hb3⟩
        have B3 := hid (by first | exact (below_drewN B0.out _).trans (hb3.mono (Nat.le_refl _)) | exact (below_drewN (below_drewN B0.out _) _).trans (hb3.mono (Nat.le_refl _)) : Below w.heap.size w w3)
        clear hb3
        go_wp2_with fail
        refine (HA.out _ B3.out).mono ?_
        rintro e w4 ⟨rfl, hb4⟩
        have B4 := hid (B3.out.trans (hb4.mono B3.out.size))
        clear hb4
        go_wp2
        go_ret
        exact ⟨rfl, B4.out⟩
    · have HZ : z = x := by rw [HE.out]; simp [hx]
      subst HZ
      clear hz hx
      go_enter Try.func3, Try.ntmps3
      go_wp2_with fail
      refine HF1.out.mono ?_
      rintro e w1 ⟨rfl, n1, rfl⟩
      go_wp2_with fail
      refine (HC.out _ (below_drewN B0.out _)).mono ?_
      rintro e w3 ⟨rfl, hb3⟩
      have B3 := hid ((below_drewN B0.out n1).trans (hb3.mono (Nat.le_refl _)))
      clear hb3
      go_wp2_with fail
      refine (HA.out _ B3.out).mono ?_
      rintro e w4 ⟨rfl, hb4⟩
      have B4 := hid (B3.out.trans (hb4.mono B3.out.size))
      clear hb4
      go_wp2
      go_ret
      exact ⟨rfl, B4.out⟩
end Go.Proofs.Ytgfdddknajeknaa
