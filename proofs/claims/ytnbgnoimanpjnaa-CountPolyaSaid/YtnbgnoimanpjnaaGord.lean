/-
  The walks over group.Order, Element and Has. Conditions: the slices can be read; numbers of 64 bits.
-/
import Derived.Test.YtnbgnoimanpjnaaGopen
import Derived.Test.YtnbgnoimanpjnaaGmem
import Derived.Test.YtnbgnoimanpjnaaClone
namespace Go.Proofs.Ytnbgnoimanpjnaa
set_option linter.unusedVariables false
open Go.RowKit

theorem order_bad (n : Int) (v : Value) (ll : List (List Int)) (w : World) (hl : RL w v ll) (hE : grpE n ll ≠ 0) :
    Calls Try.prog 16 #[.int .i64 n, v] w fun e w' => e = .returned (.tuple #[.int .i64 0, .int .i64 (grpE n ll)]) ∧ Below w.heap.size w w' := by
  have HO := hid (gopen_bad n v ll w hl hE)
  obtain ⟨a, c, N, rfl, hN, hc1, hc2⟩ := hl.open
  clear hE hl hc2
  generalize grpE n ll = E at *
  go_enter Try.func16, Try.ntmps16
  go_wp2_with fail
  refine HO.out.mono ?_
  rintro e w1 ⟨rfl, hb1⟩
  have HB := hid hb1
  clear hb1
  go_wp2
  go_ret2
  exact ⟨rfl, HB.out⟩
theorem order_ok (n : Nat) (v : Value) (ll : List (List Int)) (w : World) (hl : RL w v ll) (hE : grpE (n : Int) ll = 0) :
    Calls Try.prog 16 #[.int .i64 n, v] w fun e w' => e = .returned (.tuple #[.int .i64 ((GL n (msL n ll)).length : Nat), .int .i64 0]) ∧ Below w.heap.size w w' := by
  have HO := hid (gopen_ok n v ll w hl hE)
  obtain ⟨a, c, N, rfl, hN, hc1, hc2⟩ := hl.open
  clear hE hl hc2
  generalize GL n (msL n ll) = L at *
  go_enter Try.func16, Try.ntmps16
  go_wp2_with fail
  refine HO.out.mono ?_
  rintro e w1 ⟨⟨s, r, rfl, hs, hr⟩, hb1⟩
  obtain ⟨a2, c2, e2⟩ := hr.len
  subst e2
  obtain ⟨a3, c3, e3⟩ := hs.len
  subst e3
  have HB := hid hb1
  clear hb1 hs hr
  go_wp2
  go_ret2
  exact ⟨rfl, HB.out⟩

theorem elem_bad (n k : Int) (v : Value) (ll : List (List Int)) (w : World) (hl : RL w v ll) (hE : grpE n ll ≠ 0) :
    Calls Try.prog 17 #[.int .i64 n, v, .int .i64 k] w fun e w' => e = .returned (.tuple #[.slice none 0 0, .int .i64 (grpE n ll)]) ∧ Below w.heap.size w w' := by
  have HO := hid (gopen_bad n v ll w hl hE)
  obtain ⟨a, c, N, rfl, hN, hc1, hc2⟩ := hl.open
  have hb : (grpE n ll != 0) = true := bne_iff_ne.2 hE
  clear hE hl hc2
  generalize grpE n ll = E at *
  go_enter Try.func17, Try.ntmps17
  go_wp2_with fail
  refine HO.out.mono ?_
  rintro e w1 ⟨rfl, hb1⟩
  have HB := hid hb1
  clear hb1
  go_wp2
  go_ret2
  exact ⟨rfl, HB.out⟩
theorem elem_far (n : Nat) (k : Int) (v : Value) (ll : List (List Int)) (w : World) (hl : RL w v ll) (hE : grpE (n : Int) ll = 0) (hk : k < 0 ∨ ((GL n (msL n ll)).length : Int) ≤ k) :
    Calls Try.prog 17 #[.int .i64 n, v, .int .i64 k] w fun e w' => e = .returned (.tuple #[.slice none 0 0, .int .i64 1]) ∧ Below w.heap.size w w' := by
  have HO := hid (gopen_ok n v ll w hl hE)
  obtain ⟨a, c, N, rfl, hN, hc1, hc2⟩ := hl.open
  clear hE hl hc2
  generalize GL n (msL n ll) = L at *
  obtain ⟨M, hM⟩ : ∃ M, L.length = M := ⟨_, rfl⟩
  have HM := hid hM
  rw [hM] at hk
  clear hM
  go_enter Try.func17, Try.ntmps17
  go_wp2_with fail
  refine HO.out.mono ?_
  rintro e w1 ⟨⟨s, r, rfl, hs, hr⟩, hb1⟩
  obtain ⟨a2, c2, e2⟩ := hr.len
  subst e2
  obtain ⟨a3, c3, e3⟩ := hs.len
  subst e3
  rw [HM.out]
  have HB := hid hb1
  clear hb1 hs hr
  rcases hk with hk | hk
  · go_wp2
    go_ret2
    exact ⟨rfl, HB.out⟩
  · by_cases hk0 : k < 0
    · go_wp2
      go_ret2
      exact ⟨rfl, HB.out⟩
    · go_wp2
      go_ret2
      exact ⟨rfl, HB.out⟩
theorem elem_ok (n k : Nat) (v : Value) (ll : List (List Int)) (w : World) (hl : RL w v ll) (hE : grpE (n : Int) ll = 0) (hk : k < (GL n (msL n ll)).length) :
    Calls Try.prog 17 #[.int .i64 n, v, .int .i64 k] w fun e w' => (∃ u, e = .returned (.tuple #[u, .int .i64 0]) ∧ OI w.heap.size w' u (elL n ((GL n (msL n ll)).getD k id))) ∧ Below w.heap.size w w' := by
  have HO := hid (gopen_ok n v ll w hl hE)
  obtain ⟨n', hn', hG⟩ := gok_of hE
  obtain rfl : n = n' := by omega
  have n1 := hG.n1
  have n7 := hG.n7
  obtain ⟨a, c, N, rfl, hN, hc1, hc2⟩ := hl.open
  have hlen := (GL_len hG.mv).2
  have hfb := (fac_bd n (by omega)).2
  clear hE hl hc2 hG
  generalize GL n (msL n ll) = L at *
  obtain ⟨x, hx⟩ : ∃ x, L.getD k id = x := ⟨_, rfl⟩
  have HX := hid hx
  rw [hx]
  obtain ⟨M, hM⟩ : ∃ M, L.length = M := ⟨_, rfl⟩
  have HM := hid hM
  rw [hM] at hk hlen
  have hel := elL_len n x
  have hki : (k : Int) < (M : Int) := by omega
  have hni : (n : Int) ≤ 7 := by omega
  have hkn : ¬ (k : Int) < 0 := by omega
  clear hM hx hn'
  go_enter Try.func17, Try.ntmps17
  go_wp2_with fail
  refine HO.out.mono ?_
  rintro e w1 ⟨⟨s, r, rfl, hs, hr⟩, hb1⟩
  obtain ⟨a3, c3, e3⟩ := hs.len
  subst e3
  obtain ⟨g, c2, e2, _, hg⟩ := hr.form (by rw [HM.out]; omega)
  subst e2
  have hrange := hr.range (i := k) (by rw [HM.out]; exact hk)
  rw [HX.out] at hrange
  have hsl : Sl w1 (.slice (some ⟨g, k * 7, none⟩) n 7) (elL n x) := by
    refine Sl.mk (some ⟨g, k * 7, none⟩) 7 (by rw [elL_len]) (by rw [elL_len]; omega) fun _ => ⟨g, k * 7, rfl, hg, fun i hi => ?_⟩
    rw [elL_len] at hi
    have := hrange i _ (mvC_get (x := x) (i := i) (by omega))
    rw [this]
    simp [elL, hi]
  have HC := hid (clone_ints g (k * 7) n 7 (elL n x) w1 hsl (by rw [elL_len]; omega))
  rw [HM.out]
  have HB := hid hb1
  clear hb1 hs hr hrange hsl
  go_wp2_with fail
  refine HC.out.mono ?_
  rintro e w2 ⟨⟨u, rfl, hu⟩, hb2⟩
  have HU := hid (And.intro (hu.mono HB.out.size) (HB.out.trans (hb2.mono HB.out.size)))
  clear hu hb2
  go_wp2
  go_ret2
  exact ⟨⟨_, rfl, HU.out.1⟩, HU.out.2⟩
end Go.Proofs.Ytnbgnoimanpjnaa
