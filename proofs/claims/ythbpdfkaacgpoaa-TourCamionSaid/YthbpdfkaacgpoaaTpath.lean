/-
  The walks over tour.Path, tour.Cycle and their tests. Conditions: the slice can be read; the numbers are of 64 bits.
-/
import Derived.Test.YthbpdfkaacgpoaaTfirst2
namespace Go.Proofs.Ythbpdfkaacgpoaa
set_option linter.unusedVariables false
open Go.RowKit

theorem wantP (SB : Nat → Bool) (N : Nat) : Want 33 SB N (fun _ => true) where
  enter := run_callFunc_own Try.func33 (by kernel_rfl) (by kernel_rfl)
  calls := fun w v l hv hl hin => by
    have hone := bool81_one SB
    have HG := hid (World.grownBy_alloc w (.cells (boolS 81 SB).toArray 51) none)
    clear hv hin
    go_enter Try.func33, Try.ntmps33
    go_wp2
    go_ret
    exact ⟨rfl, HG.out⟩
/-- Does the last beat the first? -/
def clB (SB : Nat → Bool) (l : List Int) : Bool := l.length == 1 || SB ((l.getD (l.length - 1) 0).toNat * 9 + (l.getD 0 0).toNat)
set_option maxHeartbeats 1000000 in
set_option maxRecDepth 100000 in
theorem cycle1_ok (SB : Nat → Bool) (N : Nat) (hN : 1 ≤ N) (hN9 : N ≤ 9) (w : World) (v : Value) (l : List Int) (hv : Sl w v l) (hl : l.length = N) (hin : ∀ x ∈ l, 0 ≤ x ∧ x < 9) :
    Calls Try.prog 37 #[.agg (boolS 81 SB).toArray, v] w fun e w' => e = .returned (.bool (clB SB l)) ∧ w.grownBy w' none := by
  have hone := bool81_one SB
  have hA := Arr.new w 51 (boolS 81 SB)
  have HG := hid (World.grownBy_alloc w (.cells (boolS 81 SB).toArray 51) none)
  have hb0 : Below w.heap.size w (w.alloc (.cells (boolS 81 SB).toArray 51)) := (Below.refl _ _).alloc (Nat.le_refl _) _
  obtain ⟨a, c, hv1, hl1, hc⟩ := hv.out
  rw [hl] at hv1 hl1
  subst hv1
  obtain ⟨b, off, rfl, hbl, hcl⟩ := hc (by omega)
  have c0 := (hb0.cell (p := ⟨b, off + 0, none⟩) hbl).trans (hcl 0 (by omega))
  have c1 := (hb0.cell (p := ⟨b, off + (N - 1), none⟩) hbl).trans (hcl (N - 1) (by omega))
  have hx := hin (l.getD (N - 1) 0) (by rw [List.getD_eq_getElem?_getD, List.getElem?_eq_getElem (by omega)]; exact List.getElem_mem _)
  have hy := hin (l.getD 0 0) (by rw [List.getD_eq_getElem?_getD, List.getElem?_eq_getElem (by omega)]; exact List.getElem_mem _)
  obtain ⟨x, ex⟩ := Int.eq_ofNat_of_zero_le hx.1
  obtain ⟨y, ey⟩ := Int.eq_ofNat_of_zero_le hy.1
  have hcb : clB SB l = ((N == 1) || SB (x * 9 + y)) := by unfold clB; rw [hl, ex, ey, Int.toNat_natCast, Int.toNat_natCast]
  have HCB := hid hcb
  rw [ex] at c1 hx
  rw [ey] at c0 hy
  rw [Nat.add_zero] at c0
  have hx9 : x < 9 := by omega
  have hy9 : y < 9 := by omega
  have ct := hA.cell (x * 9 + y)
  rw [boolS_get (by omega)] at ct
  have HG2 := hid (grown_rn HG.out (grown_drew (w.alloc (.cells (boolS 81 SB).toArray 51))))
  clear hcb hA hb0 hc hcl hin hv ex ey hx hy hl HG
  by_cases hN1 : N = 1
  · have hq : ((N : Int) == 1) = true := by rw [beq_iff_eq]; omega
    have HR : Hid (clB SB l = true) := hid (by rw [HCB.out, hN1]; rfl)
    clear hN1 HCB
    go_enter Try.func37, Try.ntmps37
    go_wp2_with fail
    generalize w.alloc (.cells (boolS 81 SB).toArray 51) = w0 at *
    go_region
    all_goals
      go_wp2
      go_ret
      exact ⟨by rw [HR.out]; rfl, HG2.out⟩
  · have hq : ((N : Int) == 1) = false := by rw [beq_eq_false_iff_ne]; omega
    have HR : Hid (clB SB l = SB (x * 9 + y)) := hid (by rw [HCB.out, show (N == 1) = false from beq_eq_false_iff_ne.2 hN1]; rfl)
    have hNm : (N : Int) - 1 = ((N - 1 : Nat) : Int) := by omega
    have hNl : N - 1 < N := by omega
    clear hN1 HCB
    go_enter Try.func37, Try.ntmps37
    go_wp2_with fail
    generalize w.alloc (.cells (boolS 81 SB).toArray 51) = w0 at *
    have c0 : w0.drew.cell? ⟨b, off, none⟩ = _ := c0
    have c1 : w0.drew.cell? ⟨b, off + (N - 1), none⟩ = _ := c1
    have ct : w0.drew.cell? ⟨w.heap.size, x * 9 + y, none⟩ = _ := ct
    generalize N - 1 = Nm at *
    generalize SB (x * 9 + y) = sb at *
    go_region
    all_goals
      go_wp2
      go_ret
      exact ⟨by rw [HR.out]; rfl, HG2.out⟩
theorem wantC (SB : Nat → Bool) {N : Nat} (hN : 1 ≤ N) (hN9 : N ≤ 9) : Want 37 SB N (clB SB) where
  enter := run_callFunc_own Try.func37 (by kernel_rfl) (by kernel_rfl)
  calls := fun w v l hv hl hin => cycle1_ok SB N hN hN9 w v l hv hl hin
end Go.Proofs.Ythbpdfkaacgpoaa
