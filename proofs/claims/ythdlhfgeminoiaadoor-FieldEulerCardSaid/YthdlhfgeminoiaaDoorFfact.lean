/-
  The walk over parterrelaw1.fact; sums, products, powers of elements, each with its contract. Conditions: the primes are laid; the slice can be read.
-/
import Derived.Test.YthdlhfgeminoiaaDoorFref
namespace Go.Proofs.YthdlhfgeminoiaaDoor
set_option linter.unusedVariables false
open Go.RowKit

theorem add_v {P K n Q x y z : Nat} (hQ : Q = P ^ K) (h : FOk P K n) {u : Value} {w : World} (hp : Prs w) (hu : Sl w u (nZ (dgL P n K))) (hx : x < Q) (hy : y < Q) (hz : addF P K x y = z) :
    Calls Tryd.prog 15 #[fldV P K u, .int .i64 x, .int .i64 y] w fun e w' => e = .returned (.tuple #[.int .i64 (z : Nat), .int .i64 0]) ∧ Below w.heap.size w w' := by
  have hq := h.q64
  have h1 := Add_any P K x y u (nZ (dgL P n K)) w h.i64.1 h.i64.2 (by unfold I64; omega) (by unfold I64; omega) hp hu (nz_i64 h.p2 (by have := h.p61; omega) n K)
  have h2 : wiE P K (nZ (dgL P n K)) [(x : Int), (y : Int)] = 0 := h.wi (by intro a ha; simp at ha; rcases ha with rfl | rfl <;> omega)
  rw [addR, if_pos h2, h2, Int.toNat_natCast, Int.toNat_natCast, Int.toNat_natCast, Int.toNat_natCast, hz] at h1
  exact h1
theorem mul_v {P K n Q x y z : Nat} (hQ : Q = P ^ K) (h : FOk P K n) {u : Value} {w : World} (hp : Prs w) (hu : Sl w u (nZ (dgL P n K))) (hx : x < Q) (hy : y < Q) (hz : mulF P K (dgL P n K) x y = z) :
    Calls Tryd.prog 16 #[fldV P K u, .int .i64 x, .int .i64 y] w fun e w' => e = .returned (.tuple #[.int .i64 (z : Nat), .int .i64 0]) ∧ Below w.heap.size w w' := by
  have hq := h.q64
  have h1 := Mul_any P K x y u (nZ (dgL P n K)) w h.i64.1 h.i64.2 (by unfold I64; omega) (by unfold I64; omega) hp hu (nz_i64 h.p2 (by have := h.p61; omega) n K)
  have h2 : wiE P K (nZ (dgL P n K)) [(x : Int), (y : Int)] = 0 := h.wi (by intro a ha; simp at ha; rcases ha with rfl | rfl <;> omega)
  rw [mulR, if_pos h2, h2, Int.toNat_natCast, Int.toNat_natCast, Int.toNat_natCast, Int.toNat_natCast, toN_of, hz] at h1
  exact h1
theorem fok233 : FOk 2 3 3 := ⟨by decide, by decide, by decide, by decide, by decide, by decide, by decide, by decide, by decide +kernel⟩

set_option maxHeartbeats 1000000 in
set_option maxRecDepth 100000 in
theorem fact_ok (w : World) (hp : Prs w) : Calls Tryd.prog 26 #[] w fun e w' => e = .returned (.bool true) ∧ Below w.heap.size w w' := by
  have HL := hid (Least_ok 2 3 3 w hp (by decide) (by decide) (by decide +kernel) (by decide +kernel))
  have HM := hid (fun (w1 : World) (hb : Below w.heap.size w w1) (u : Value) (hu : Sl w1 u (nZ (dgL 2 3 3))) => mul_v (Q := 8) (x := 4) (y := 2) (z := 3) (by decide) fok233 (hp.below hb) hu (by decide) (by decide) (by decide +kernel))
  have i3 : (Tryd.prog.info? 24).map (·.size) = some 3 := by kernel_rfl
  clear hp
  go_enter Tryd.func26, Tryd.ntmps26
  go_wp2_with fail
  refine HL.out.mono ?_
  rintro e w1 ⟨⟨u, rfl, hu⟩, hb1⟩
  obtain ⟨ax, cx, e1⟩ := OI.len hu
  subst e1
  have hlen : (nZ (dgL 2 3 3)).length = 3 := rfl
  rw [hlen] at hu
  have hA := Arr.new w1 24 [.int .i64 2, .int .i64 3, .slice ax 3 cx]
  have hb2 := hb1.alloc hb1.size (.cells #[.int .i64 2, .int .i64 3, .slice ax 3 cx] 24)
  have hu2 := (OI.alloc hu (.cells #[.int .i64 2, .int .i64 3, .slice ax 3 cx] 24)).sl (by rw [hlen]; decide)
  have HC := hid (HM.out _ hb2 _ hu2)
  have HB := hid hb2
  have r1 := hA.range
  unfold fldV at HC
  clear hA hb2 hu2 hu hb1 HM HL
  unfold fldV
  go_wp2_with (refine wpList_load_mid rfl 24 _ rfl w1.heap.size 0 rfl [.int .i64 2, .int .i64 3, .slice ax 3 cx] _ r1 Tryd.underlying24 rfl i3 ?_)
  refine HC.out.mono ?_
  rintro e w2 ⟨rfl, hb3⟩
  have HB2 := hid (HB.out.trans (hb3.mono HB.out.size))
  clear hb3 r1 HC
  go_wp2
  go_ret
  exact ⟨rfl, HB2.out⟩
end Go.Proofs.YthdlhfgeminoiaaDoor
