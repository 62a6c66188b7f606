/-
  The walks over cmp.Compare[int], slices.Compare of two arrays of seven, and the closure by which group.made sorts. No condition.
-/
import Derived.Test.YtnbgnoimanpjnaaGmove
import Derived.Sort.Grow
import Derived.Deep.RegionWith
namespace Go.Proofs.Ytnbgnoimanpjnaa
set_option linter.unusedVariables false
open Go.RowKit

def cmp3 (x y : Int) : Int := if x < y then -1 else if y < x then 1 else 0
theorem isnan_ok (x : Int) (w : World) :
    Calls Try.prog 107 #[.int .i64 x] w fun e w' => e = .returned (.bool false) ∧ w = w' := by
  have h : (x != x) = false := by simp
  go_enter Try.func107, Try.ntmps107
  go_wp2
  go_ret
  exact ⟨rfl, rfl⟩
theorem cmpint_ok (x y : Int) (w : World) :
    Calls Try.prog 91 #[.int .i64 x, .int .i64 y] w fun e w' => e = .returned (.int .i64 (cmp3 x y)) ∧ w = w' := by
  have HX := hid (fun w1 => isnan_ok x w1)
  have HY := hid (fun w1 => isnan_ok y w1)
  have HC : Hid (cmp3 x y = if x < y then -1 else if y < x then 1 else 0) := hid rfl
  generalize cmp3 x y = z at *
  by_cases h1 : x < y
  · obtain rfl : z = -1 := by rw [HC.out, if_pos h1]
    go_enter Try.func91, Try.ntmps91
    go_wp2_with fail
    refine (HX.out _).mono ?_
    rintro e w1 ⟨rfl, rfl⟩
    go_wp2_with fail
    refine (HY.out _).mono ?_
    rintro e w1 ⟨rfl, rfl⟩
    go_wp2
    go_ret
    exact ⟨rfl, rfl⟩
  · by_cases h2 : y < x
    · obtain rfl : z = 1 := by rw [HC.out, if_neg h1, if_pos h2]
      go_enter Try.func91, Try.ntmps91
      go_wp2_with fail
      refine (HX.out _).mono ?_
      rintro e w1 ⟨rfl, rfl⟩
      go_wp2_with fail
      refine (HY.out _).mono ?_
      rintro e w1 ⟨rfl, rfl⟩
      go_wp2
      go_ret
      exact ⟨rfl, rfl⟩
    · obtain rfl : z = 0 := by rw [HC.out, if_neg h1, if_neg h2]
      go_enter Try.func91, Try.ntmps91
      go_wp2_with fail
      refine (HX.out _).mono ?_
      rintro e w1 ⟨rfl, rfl⟩
      go_wp2_with fail
      refine (HY.out _).mono ?_
      rintro e w1 ⟨rfl, rfl⟩
      go_wp2
      go_ret
      exact ⟨rfl, rfl⟩
/-- By the first difference of seven. -/
def cfF (x y : Nat → Nat) : Int := match (List.range 7).find? (fun i => !(x i == y i)) with
  | none => 0
  | some i => if x i < y i then -1 else 1
theorem cf_none {x y : Nat → Nat} (h : ∀ i, i < 7 → x i = y i) : cfF x y = 0 := by
  unfold cfF
  rw [List.find?_eq_none.2 (fun i hi => by simp [h i (List.mem_range.1 hi)])]
theorem cf_some {x y : Nat → Nat} {k : Nat} (hk : k < 7) (h : ∀ i, i < k → x i = y i) (hne : x k ≠ y k) : cfF x y = if x k < y k then -1 else 1 := by
  unfold cfF
  rw [List.find?_range_eq_some.2 ⟨by simp [hne], List.mem_range.2 hk, fun j hj => by simp [h j hj]⟩]
theorem cmp3_ne {a b : Nat} (h : a ≠ b) : cmp3 (a : Int) (b : Int) = if a < b then -1 else 1 := by
  unfold cmp3
  by_cases h1 : a < b
  · rw [if_pos (by omega), if_pos h1]
  · rw [if_neg (by omega), if_pos (by omega), if_neg h1]
theorem cmp3_eq (a : Int) : cmp3 a a = 0 := by
  unfold cmp3
  rw [if_neg (by omega), if_neg (by omega)]

set_option maxHeartbeats 1000000 in
theorem scmp_ok (x y : Nat → Nat) (b1 b2 : Nat) (w : World) (hx : w.rangeAt b1 0 (mvC x)) (hy : w.rangeAt b2 0 (mvC y)) :
    Calls Try.prog 68 #[.slice (some ⟨b1, 0, none⟩) 7 7, .slice (some ⟨b2, 0, none⟩) 7 7] w fun e w' => e = .returned (.int .i64 (cfF x y)) ∧ ∃ q, w' = w.drewN q := by
  have HX : Hid (∀ i, i < 7 → w.cell? ⟨b1, i, none⟩ = some (.int .i64 ((x i : Nat) : Int))) := hid (fun i hi => by
    have := hx i _ (mvC_get hi)
    rwa [Nat.zero_add] at this)
  have HY : Hid (∀ i, i < 7 → w.cell? ⟨b2, i, none⟩ = some (.int .i64 ((y i : Nat) : Int))) := hid (fun i hi => by
    have := hy i _ (mvC_get hi)
    rwa [Nat.zero_add] at this)
  have HC := hid (fun (a b : Int) (w1 : World) => cmpint_ok a b w1)
  have HN := hid (cf_none (x := x) (y := y))
  have HS := hid (fun k (hk : k < 7) h hne => cf_some (x := x) (y := y) (k := k) hk h hne)
  clear hx hy
  generalize cfF x y = z at *
  go_enter Try.func68, Try.ntmps68
  go_wp2_with fail
  go_loopw [4, 5, 6, 7, 8, 11] (fun _ _ _ _ _ i wq => ∃ k q : Nat, k ≤ 7 ∧ i = .int .i64 k ∧ Hid (∀ j, j < k → x j = y j) ∧ wq = w.drewN q) (fun _ _ _ _ _ i _ => 7 - (intOf i).toNat)
  case atStart => exact ⟨0, 0, by omega, rfl, hid (fun j hj => by omega), rfl⟩
  case round =>
    obtain ⟨k, q, hk, rfl, HE, rfl⟩ := hrel
    by_cases hlt : k < 7
    · have hki : (k : Int) < 7 := by omega
      have hki2 : ¬ (7 : Int) ≤ (k : Int) := by omega
      have c1 := HX.out k hlt
      have c2 := HY.out k hlt
      by_cases he : x k = y k
      · have HE2 : Hid (∀ j, j < k + 1 → x j = y j) := hid (fun j hj => by
          by_cases e : j = k
          · rw [e]; exact he
          · exact HE.out j (by omega))
        have HCC := hid (fun w1 => HC.out ((x k : Nat) : Int) ((y k : Nat) : Int) w1)
        rw [show cmp3 ((x k : Nat) : Int) ((y k : Nat) : Int) = 0 by rw [he]; exact cmp3_eq _] at HCC
        clear he
        generalize x k = xk at *
        generalize y k = yk at *
        go_wp2_with fail
        refine (HCC.out _).mono ?_
        rintro e w1 ⟨rfl, rfl⟩
        go_wp2
        go_roundw
        case rel => exact ⟨k + 1, q, by omega, by go_num, HE2.out, rfl⟩
        case measure => simp [intOf] <;> omega
      · have HCC := hid (fun w1 => HC.out ((x k : Nat) : Int) ((y k : Nat) : Int) w1)
        have hz := HS.out k hlt HE.out he
        rw [cmp3_ne he, ← hz] at HCC
        have hz0 : (z != 0) = true := by rw [bne_iff_ne, hz]; split <;> decide
        clear he hz
        generalize x k = xk at *
        generalize y k = yk at *
        go_wp2_with fail
        refine (HCC.out _).mono ?_
        rintro e w1 ⟨rfl, rfl⟩
        go_wp2
        go_ret
        exact ⟨rfl, q, rfl⟩
    · have hki : ¬ (k : Int) < 7 := by omega
      have hz := HN.out (fun i hi => HE.out i (by omega))
      have HZ := hid hz
      clear hz
      go_wp2
      go_ret
      exact ⟨by rw [HZ.out]; rfl, q, rfl⟩

set_option maxHeartbeats 1000000 in
set_option maxRecDepth 10000 in
/-- The closure: two blocks are laid. -/
theorem mcmp_ok (x y : Nat → Nat) (w : World) :
    Calls Try.prog 81 #[.agg (mvC x).toArray, .agg (mvC y).toArray] w fun e w' => e = .returned (.int .i64 (cfF x y)) ∧ ∃ q os', w' = Go.Sort.grow (w.drewN q) os' := by
  have hA1 : Arr ((w.alloc (.cells (mvC x).toArray 68)).alloc (.cells (mvC y).toArray 68)) w.heap.size 68 (mvC x) := (Arr.new w _ _).alloc _
  have hA2 : Arr ((w.alloc (.cells (mvC x).toArray 68)).alloc (.cells (mvC y).toArray 68)) (w.alloc (.cells (mvC x).toArray 68)).heap.size 68 (mvC y) := Arr.new _ _ _
  rw [World.size_alloc] at hA2
  have HC := hid (fun m => scmp_ok x y w.heap.size (w.heap.size + 1) (((w.alloc (.cells (mvC x).toArray 68)).alloc (.cells (mvC y).toArray 68)).drewN m) hA1.range hA2.range)
  clear hA1 hA2
  generalize cfF x y = z at *
  go_enter Try.func81, Try.ntmps81
  go_wp2_with fail
  go_region_with (go_at_call 68; refine (HC.out _).mono ?_; rintro e w1 ⟨rfl, q, rfl⟩)
  go_wp2
  go_ret
  exact ⟨rfl, 1 + q, _, by rw [Go.Sort.alloc_eq_grow, Go.Sort.alloc_eq_grow, Go.Sort.grow_grow]; rfl⟩
end Go.Proofs.Ytnbgnoimanpjnaa
