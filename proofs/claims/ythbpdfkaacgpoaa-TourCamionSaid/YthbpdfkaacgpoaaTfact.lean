/-
  The walks over parterrelaw4.ring3 and tourFact. No condition.
-/
import Derived.Test.YthbpdfkaacgpoaaTrings
namespace Go.Proofs.Ythbpdfkaacgpoaa
set_option linter.unusedVariables false
open Go.RowKit

theorem ring3_sl (w : World) : Sl (w.alloc (.cells #[.int .i64 0, .int .i64 1, .int .i64 0, .int .i64 0, .int .i64 0, .int .i64 1, .int .i64 1, .int .i64 0, .int .i64 0] 3)) (.slice (some ⟨w.heap.size, 0, none⟩) 9 9) ring3L :=
  Ow.rd (Ow.lit 3 0 w #[.int .i64 0, .int .i64 1, .int .i64 0, .int .i64 0, .int .i64 0, .int .i64 1, .int .i64 1, .int .i64 0, .int .i64 0] 9 (Nat.zero_le _) rfl (by omega)) (by decide)

set_option maxHeartbeats 1000000 in
set_option maxRecDepth 100000 in
theorem ring3_ok (w : World) :
    Calls Try.prog 39 #[] w fun e w' => (∃ c, e = .returned (sqV 3 (.slice (some ⟨c, 0, none⟩) 9 9)) ∧ Sl w' (.slice (some ⟨c, 0, none⟩) 9 9) ring3L) ∧ Below w.heap.size w w' := by
  go_enter Try.func39, Try.ntmps39
  go_wp2
  have hA : Arr (w.alloc (.cells #[.int .i64 3, .slice (some ⟨w.heap.size + 1, 0, none⟩) 9 9] 24)) w.heap.size 24 [.int .i64 3, .slice (some ⟨w.heap.size + 1, 0, none⟩) 9 9] := Arr.new w _ _
  have hA2 := hA.alloc (.cells #[.int .i64 0, .int .i64 1, .int .i64 0, .int .i64 0, .int .i64 0, .int .i64 1, .int .i64 1, .int .i64 0, .int .i64 0] 3)
  have hs := ring3_sl (w.alloc (.cells #[.int .i64 3, .slice (some ⟨w.heap.size + 1, 0, none⟩) 9 9] 24))
  rw [World.size_alloc] at hs
  have hld := run_loadVar_mid (P := Try.prog) _ _ _ 24 _ _ hA2.range Try.underlying24 rfl (by kernel_rfl)
  refine ⟨rfl, sqV 3 (.slice (some ⟨w.heap.size + 1, 0, none⟩) 9 9), ?_, ⟨_, rfl, hs⟩, ((Below.refl _ _).alloc (Nat.le_refl _) _).alloc (by simp) _⟩
  show ((results _ _).run _ _) = _
  simp [results, Try.f39, asAddr, hld, sqV]

theorem ring3_tE : tE (3 : Nat) ring3L = 0 := by decide
theorem ring3_paths : (comp 3 (beB 3 ring3L (3 * 3)) 3 []).length = 3 := by decide +kernel
theorem ring3_rings : rgC (beB 3 ring3L (3 * 3)) 3 = 1 := by decide +kernel
theorem ring3_i64 : ∀ x ∈ ring3L, I64 x := by
  intro x hx
  simp only [ring3L, List.mem_cons, List.not_mem_nil, or_false] at hx
  unfold I64
  omega

set_option maxHeartbeats 1000000 in
set_option maxRecDepth 100000 in
theorem tourFact_any (w : World) :
    Calls Try.prog 17 #[] w fun e w' => e = .returned (.bool true) ∧ Below w.heap.size w w' := by
  have HP : Hid (∀ u w1, Sl w1 u ring3L → Calls Try.prog 12 #[.agg #[.int .i64 3, u]] w1 fun e w' => e = .returned (.tuple #[.int .i64 3, .int .i64 0]) ∧ Below w1.heap.size w1 w') := hid (fun u w1 hu => by
    have := Paths_ok 3 u ring3L w1 hu ring3_i64 ring3_tE (by omega) (by omega) rfl
    rw [ring3_paths] at this
    exact this)
  have HR : Hid (∀ u w1, Sl w1 u ring3L → Calls Try.prog 24 #[.agg #[.int .i64 3, u]] w1 fun e w' => e = .returned (.tuple #[.int .i64 1, .int .i64 0]) ∧ Below w1.heap.size w1 w') := hid (fun u w1 hu => by
    have := Rings_ok 3 u ring3L w1 hu ring3_i64 ring3_tE (by omega) (by omega) rfl
    rw [ring3_rings] at this
    exact this)
  have H3 := hid (ring3_ok w)
  go_enter Try.func17, Try.ntmps17
  go_wp2_with fail
  refine H3.out.mono ?_
  rintro e w1 ⟨⟨c, rfl, hs⟩, hb1⟩
  have hA := Arr.new w1 24 [.int .i64 3, .slice (some ⟨c, 0, none⟩) 9 9]
  have hb2 := hb1.alloc hb1.size (.cells #[.int .i64 3, .slice (some ⟨c, 0, none⟩) 9 9] 24)
  have hs2 := hs.below ((Below.refl w1.heap.size w1).alloc (Nat.le_refl _) (.cells #[.int .i64 3, .slice (some ⟨c, 0, none⟩) 9 9] 24))
  have HX := hid (And.intro hA (And.intro hb2 hs2))
  clear hA hb2 hs2 hs hb1
  unfold sqV
  go_wp2_with fail
  refine (HP.out _ _ HX.out.2.2).mono ?_
  rintro e w2 ⟨rfl, hb2⟩
  have hA3 := HX.out.1.below hb2
  have hs3 := HX.out.2.2.below hb2
  have HY := hid (And.intro (HX.out.2.1.trans (hb2.mono HX.out.2.1.size)) hs3)
  have k0 := hA3.cell 0
  have k1 := hA3.cell 1
  simp only [List.getElem?_cons_zero, List.getElem?_cons_succ] at k0 k1
  clear hA3 hs3 hb2
  go_wp2_with fail
  refine (HR.out _ _ HY.out.2).mono ?_
  rintro e w3 ⟨rfl, hb3⟩
  have HZ := hid (HY.out.1.trans (hb3.mono HY.out.1.size))
  clear hb3 k0 k1
  go_wp2
  go_ret
  exact ⟨rfl, HZ.out⟩
end Go.Proofs.Ythbpdfkaacgpoaa
