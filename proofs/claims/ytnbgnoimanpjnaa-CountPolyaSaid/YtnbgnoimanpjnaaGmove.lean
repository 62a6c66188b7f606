/-
  The walks over group.stay, then, back: what a permutation does as an array. Conditions: the arrays hold numbers below 7.
-/
import Derived.Test.YtnbgnoimanpjnaaPchk
import Derived.Test.YtnbgnoimanpjnaaGrank
import Derived.Deep.MidRow
namespace Go.Proofs.Ytnbgnoimanpjnaa
set_option linter.unusedVariables false
open Go.RowKit

/-- Seven cells. -/
def mvC (x : Nat → Nat) : List Value := (List.range 7).map fun i => Value.int .i64 ((x i : Nat) : Int)
theorem mvC_len (x : Nat → Nat) : (mvC x).length = 7 := by simp [mvC]
theorem mvC_get {x : Nat → Nat} {i : Nat} (h : i < 7) : (mvC x)[i]? = some (.int .i64 ((x i : Nat) : Int)) := by simp [mvC, h]
theorem mvC_one (x : Nat → Nat) : (mvC x).toArray.all (·.oneCell') = true := by simp [mvC, Value.oneCell']
theorem mvC_set {x y : Nat → Nat} {i v : Nat} (h : i < 7) (h1 : y i = v) (h2 : ∀ j, j ≠ i → y j = x j) : (mvC x).set i (.int .i64 ((v : Nat) : Int)) = mvC y := by
  refine List.ext_getElem? fun j => ?_
  by_cases e : i = j
  · subst e
    rw [List.getElem?_set_self (by rw [mvC_len]; exact h), mvC_get h, h1]
  · rw [List.getElem?_set_ne e]
    by_cases hj : j < 7
    · rw [mvC_get hj, mvC_get hj, h2 j (fun he => e he.symm)]
    · rw [List.getElem?_eq_none (by rw [mvC_len]; omega), List.getElem?_eq_none (by rw [mvC_len]; omega)]
theorem mvC_congr {x y : Nat → Nat} (h : ∀ i, i < 7 → x i = y i) : mvC x = mvC y := List.map_congr_left fun i hi => by rw [h i (List.mem_range.1 hi)]
/-- An array's value. -/
def mvV (x : Nat → Nat) : Value := .agg (mvC x).toArray
theorem mvC_zero : mvC (fun _ => 0) = List.replicate 7 (.int .i64 0) := by rfl
theorem mvC_arr (x : Nat → Nat) : (mvC x).toArray.size = 7 := List.size_toArray.trans (mvC_len x)
theorem mv_info : (Try.prog.info? 68).map (·.size) = some 7 := by kernel_rfl

set_option maxHeartbeats 1000000 in
theorem gstay_ok (w : World) :
    Calls Try.prog 79 #[] w fun e w' => e = .returned (mvV id) ∧ Below w.heap.size w w' := by
  go_enter Try.func79, Try.ntmps79
  go_wp2_with fail
  have hb0 : Below w.heap.size w (w.alloc (.cells (mvC fun _ => 0).toArray 68)) := (Below.refl _ _).alloc (Nat.le_refl _) _
  have hb1 : Below w.heap.size w ((w.alloc (.cells (mvC fun _ => 0).toArray 68)).alloc (.cells (mvC fun _ => 0).toArray 68)) := hb0.alloc (by simp) _
  have hA1 : Arr ((w.alloc (.cells (mvC fun _ => 0).toArray 68)).alloc (.cells (mvC fun _ => 0).toArray 68)) w.heap.size 68 (mvC fun _ => 0) := (Arr.new w _ _).alloc _
  have hA2 : Arr ((w.alloc (.cells (mvC fun _ => 0).toArray 68)).alloc (.cells (mvC fun _ => 0).toArray 68)) (w.alloc (.cells (mvC fun _ => 0).toArray 68)).heap.size 68 (mvC fun _ => 0) := Arr.new _ _ _
  rw [World.size_alloc] at hA2
  go_loopw [2, 3] (fun _ i wr => ∃ k : Nat, k ≤ 7 ∧ i = .int .i64 k ∧ Arr wr w.heap.size 68 (mvC fun _ => 0) ∧ Arr wr (w.heap.size + 1) 68 (mvC fun i => if i < k then i else 0) ∧ Below w.heap.size w wr) (fun _ i _ => 7 - (intOf i).toNat)
  case atStart => exact ⟨0, by omega, rfl, hA1, by rw [mvC_congr (y := fun _ => 0) (fun i _ => if_neg (by omega))]; exact hA2, hb1⟩
  case round =>
    clear hb0 hb1 hA1 hA2
    obtain ⟨k, hk, rfl, h1, h2, hb⟩ := hrel
    by_cases hlt : k < 7
    · have hki : (k : Int) < 7 := by omega
      have hcell := h2.cell k
      rw [mvC_get hlt] at hcell
      have hf := h2.frozen k
      obtain ⟨hs1, hg1⟩ := h2.stored k (.int .i64 ((k : Nat) : Int))
      rw [mvC_set (y := fun i => if i < k + 1 then i else 0) hlt (if_pos (by omega)) (fun j hj => by
        by_cases h : j < k
        · rw [if_pos h, if_pos (by omega)]
        · rw [if_neg h, if_neg (by omega)])] at hs1
      have HX := hid (And.intro (h1.kept hg1 (by simp)) (And.intro hs1 (hb.grown hg1 hb.size (fun b e => by cases e; omega))))
      clear h1 h2 hb hs1 hg1
      go_wp2
      go_roundw
      case rel => exact ⟨k + 1, by omega, by go_num, HX.out.1, HX.out.2.1, HX.out.2.2⟩
      case measure => simp [intOf] <;> omega
    · have hki : ¬ (k : Int) < 7 := by omega
      rw [mvC_congr (x := fun i => if i < k then i else 0) (y := id) (fun i hi => if_pos (by omega))] at h2
      have r2 := h2.range
      have t1 := h1.there
      have hr1 := Arr.setCells (mvC id) [] (mvC fun _ => 0) wr h1 (by rw [mvC_len, mvC_len])
      have hg1 := grown_setCells (b := w.heap.size) (mvC id) 0 wr
      have HX := hid (And.intro hr1 (hb.grown hg1 hb.size (fun b e => by cases e; exact Nat.le_refl _)))
      have i1 : (Try.prog.info? 68).map (·.size) = some (mvC id).length := by rw [mvC_len]; kernel_rfl
      have t2 : wr.there w.heap.size 0 (mvC id).toArray.size := by
        rw [mvC_arr]
        rw [mvC_len] at t1
        exact t1
      have i2 : (Try.prog.info? 68).map (·.size) = some (mvC id).toArray.size := by rw [mvC_arr]; exact mv_info
      clear h1 h2 hb hr1 hg1 t1
      go_wp2_with (first
        | (refine wpList_load_mid rfl 68 _ rfl (w.heap.size + 1) 0 rfl (mvC id) _ r2 Try.underlying68 rfl i1 ?_)
        | (refine wpList_store_mid rfl 68 _ _ rfl w.heap.size 0 (mvC id).toArray rfl rfl t2 i2 (mvC_one _) ?_))
      have hrd : (wr.setCells w.heap.size 0 (mvC id)).rangeAt w.heap.size 0 (mvC id) := HX.out.1.range
      have hld := run_loadVar_mid (P := Try.prog) _ _ _ 68 _ _ hrd Try.underlying68 rfl i1
      refine ⟨rfl, .agg (mvC id).toArray, ?_, rfl, HX.out.2⟩
      show ((results _ _).run _ _) = _
      simp [results, Try.f79, asAddr, hld]

/-- 'a[i]' of an array by value. -/
theorem run_index_arr {P : Program} {t e : TypeId} {n : Nat} (h : P.underlying t = some (.array n e)) (hz : ∀ w, (Go.sizeOf e).run P w = .ok 1 w) (ha : ∀ w, (isAgg e).run P w = .ok false w) {cs : List Value} {i : Nat} {v : Value} (hi : i < n) (hv : cs[i]? = some v) (w : World) : (Instr.index t (.agg cs.toArray) (.int .i64 (i : Int))).run P w = .ok v w := by
  have hn : 0 ≤ (i : Int) ∧ (i : Int) < (n : Int) := by omega
  simp [Instr.index, run_underlying h, asIntOf, hn, go_sem, hv, hz, ha, hi]
set_option maxHeartbeats 1000000 in
set_option maxRecDepth 10000 in
theorem gthen_ok (x y : Nat → Nat) (w : World) (hx : ∀ i, i < 7 → x i < 7) (hy : ∀ i, i < 7 → y i < 7) :
    Calls Try.prog 58 #[mvV x, mvV y] w fun e w' => e = .returned (mvV fun i => y (x i)) ∧ Below w.heap.size w w' := by
  unfold mvV
  have hA1 : Arr (((w.alloc (.cells (mvC x).toArray 68)).alloc (.cells (mvC y).toArray 68)).alloc (.cells (mvC fun _ => 0).toArray 68)) w.heap.size 68 (mvC x) := ((Arr.new w _ _).alloc _).alloc _
  have hA2 : Arr (((w.alloc (.cells (mvC x).toArray 68)).alloc (.cells (mvC y).toArray 68)).alloc (.cells (mvC fun _ => 0).toArray 68)) (w.alloc (.cells (mvC x).toArray 68)).heap.size 68 (mvC y) := (Arr.new _ _ _).alloc _
  have hA3 : Arr (((w.alloc (.cells (mvC x).toArray 68)).alloc (.cells (mvC y).toArray 68)).alloc (.cells (mvC fun _ => 0).toArray 68)) ((w.alloc (.cells (mvC x).toArray 68)).alloc (.cells (mvC y).toArray 68)).heap.size 68 (mvC fun _ => 0) := Arr.new _ _ _
  have hb1 : Below w.heap.size w (((w.alloc (.cells (mvC x).toArray 68)).alloc (.cells (mvC y).toArray 68)).alloc (.cells (mvC fun _ => 0).toArray 68)) := (((Below.refl _ _).alloc (Nat.le_refl _) _).alloc (by simp) _).alloc (by simp; omega) _
  rw [World.size_alloc] at hA2
  rw [World.size_alloc, World.size_alloc] at hA3
  have r1 := hA1.range
  have i1 : (Try.prog.info? 68).map (·.size) = some (mvC x).length := by rw [mvC_len]; exact mv_info
  go_enter Try.func58, Try.ntmps58
  go_wp2_with (first
    | (refine wpList_load_mid rfl 68 _ rfl w.heap.size 0 rfl (mvC x) _ r1 Try.underlying68 rfl i1 ?_)
    | fail)
  clear r1
  go_loopw [5, 6, 8] (fun _ _ i wr => ∃ k : Nat, k ≤ 7 ∧ i = .int .i64 k ∧ Arr wr w.heap.size 68 (mvC fun i => if i < k then y (x i) else x i) ∧ Arr wr (w.heap.size + 1) 68 (mvC y) ∧ Arr wr (w.heap.size + 1 + 1) 68 (mvC fun _ => 0) ∧ Below w.heap.size w wr) (fun _ _ i _ => 7 - (intOf i).toNat)
  case atStart => exact ⟨0, by omega, rfl, by rw [mvC_congr (y := x) (fun i _ => if_neg (by omega))]; exact hA1, hA2, hA3, hb1⟩
  case round =>
    clear hb1 hA1 hA2 hA3
    obtain ⟨k, hk, rfl, h1, h2, h3, hb⟩ := hrel
    by_cases hlt : k < 7
    · have hki : (k : Int) < 7 := by omega
      have hxk := mvC_get (x := x) hlt
      have hxlt := hx k hlt
      have hcy := h2.cell (x k)
      rw [mvC_get hxlt] at hcy
      have hcell := h1.cell k
      rw [mvC_get hlt] at hcell
      have hf := h1.frozen k
      obtain ⟨hs1, hg1⟩ := h1.stored k (.int .i64 ((y (x k) : Nat) : Int))
      rw [mvC_set (y := fun i => if i < k + 1 then y (x i) else x i) hlt (if_pos (by omega)) (fun j hj => by
        by_cases h : j < k
        · rw [if_pos h, if_pos (by omega)]
        · rw [if_neg h, if_neg (by omega)])] at hs1
      have HX := hid (And.intro hs1 (And.intro (h2.kept hg1 (by simp)) (And.intro (h3.kept hg1 (by simp; omega)) (hb.grown hg1 hb.size (fun b e => by cases e; omega)))))
      clear h1 h2 h3 hb hs1 hg1
      have hix := fun w => run_index_arr (P := Try.prog) Try.underlying68 Try.sizeOf3 Try.isAgg3 hlt hxk w
      generalize y (x k) = yx at *
      generalize x k = xk at *
      generalize mvC x = cs at *
      go_wp2
      go_roundw
      case rel => exact ⟨k + 1, by omega, by go_num, HX.out.1, HX.out.2.1, HX.out.2.2.1, HX.out.2.2.2⟩
      case measure => simp [intOf] <;> omega
    · have hki : ¬ (k : Int) < 7 := by omega
      rw [mvC_congr (x := fun i => if i < k then y (x i) else x i) (y := fun i => y (x i)) (fun i hi => if_pos (by omega))] at h1
      obtain ⟨z, hzz⟩ : ∃ z, (fun i => y (x i)) = z := ⟨_, rfl⟩
      rw [hzz] at h1
      have HZZ := hid hzz
      clear hzz
      have r1 := h1.range
      have t1 := h3.there
      have hr1 := Arr.setCells (mvC z) [] (mvC fun _ => 0) wr h3 (by rw [mvC_len, mvC_len])
      have hg1 := grown_setCells (b := w.heap.size + 1 + 1) (mvC z) 0 wr
      have HX := hid (And.intro hr1 (hb.grown hg1 hb.size (fun b e => by cases e; omega)))
      have i1 : (Try.prog.info? 68).map (·.size) = some (mvC z).length := by rw [mvC_len]; exact mv_info
      have t2 : wr.there (w.heap.size + 1 + 1) 0 (mvC z).toArray.size := by
        rw [mvC_arr]
        rw [mvC_len] at t1
        exact t1
      have i2 : (Try.prog.info? 68).map (·.size) = some (mvC z).toArray.size := by rw [mvC_arr]; exact mv_info
      clear h1 h2 h3 hb hr1 hg1 t1
      go_wp2_with (first
        | (refine wpList_load_mid rfl 68 _ rfl w.heap.size 0 rfl (mvC z) _ r1 Try.underlying68 rfl i1 ?_)
        | (refine wpList_store_mid rfl 68 _ _ rfl (w.heap.size + 1 + 1) 0 (mvC z).toArray rfl rfl t2 i2 (mvC_one _) ?_))
      have hrd : (wr.setCells (w.heap.size + 1 + 1) 0 (mvC z)).rangeAt (w.heap.size + 1 + 1) 0 (mvC z) := HX.out.1.range
      have hld := run_loadVar_mid (P := Try.prog) _ _ _ 68 _ _ hrd Try.underlying68 rfl i1
      refine ⟨rfl, .agg (mvC z).toArray, ?_, by rw [HZZ.out], HX.out.2⟩
      show ((results _ _).run _ _) = _
      simp [results, Try.f58, asAddr, hld]

set_option maxHeartbeats 1000000 in
set_option maxRecDepth 10000 in
theorem gback_ok (x y : Nat → Nat) (w : World) (hx : ∀ i, i < 7 → x i < 7) (hy : ∀ i, i < 7 → y (x i) = i) (hxy : ∀ j, j < 7 → x (y j) = j ∧ y j < 7) :
    Calls Try.prog 59 #[mvV x] w fun e w' => e = .returned (mvV y) ∧ Below w.heap.size w w' := by
  unfold mvV
  have hA1 : Arr (((w.alloc (.cells (mvC x).toArray 68)).alloc (.cells (mvC fun _ => 0).toArray 68)).alloc (.cells (mvC fun _ => 0).toArray 68)) w.heap.size 68 (mvC x) := ((Arr.new w _ _).alloc _).alloc _
  have hA2 : Arr (((w.alloc (.cells (mvC x).toArray 68)).alloc (.cells (mvC fun _ => 0).toArray 68)).alloc (.cells (mvC fun _ => 0).toArray 68)) (w.alloc (.cells (mvC x).toArray 68)).heap.size 68 (mvC fun _ => 0) := (Arr.new _ _ _).alloc _
  have hA3 : Arr (((w.alloc (.cells (mvC x).toArray 68)).alloc (.cells (mvC fun _ => 0).toArray 68)).alloc (.cells (mvC fun _ => 0).toArray 68)) ((w.alloc (.cells (mvC x).toArray 68)).alloc (.cells (mvC fun _ => 0).toArray 68)).heap.size 68 (mvC fun _ => 0) := Arr.new _ _ _
  have hb1 : Below w.heap.size w (((w.alloc (.cells (mvC x).toArray 68)).alloc (.cells (mvC fun _ => 0).toArray 68)).alloc (.cells (mvC fun _ => 0).toArray 68)) := (((Below.refl _ _).alloc (Nat.le_refl _) _).alloc (by simp) _).alloc (by simp; omega) _
  rw [World.size_alloc] at hA2
  rw [World.size_alloc, World.size_alloc] at hA3
  have r1 := hA1.range
  have i1 : (Try.prog.info? 68).map (·.size) = some (mvC x).length := by rw [mvC_len]; exact mv_info
  go_enter Try.func59, Try.ntmps59
  go_wp2_with (first
    | (refine wpList_load_mid rfl 68 _ rfl w.heap.size 0 rfl (mvC x) _ r1 Try.underlying68 rfl i1 ?_)
    | fail)
  clear r1
  go_loopw [4, 5, 7] (fun _ _ i wr => ∃ k : Nat, k ≤ 7 ∧ i = .int .i64 k ∧ Arr wr (w.heap.size + 1) 68 (mvC fun _ => 0) ∧ Arr wr (w.heap.size + 1 + 1) 68 (mvC fun j => if y j < k then y j else 0) ∧ Below w.heap.size w wr) (fun _ _ i _ => 7 - (intOf i).toNat)
  case atStart => exact ⟨0, by omega, rfl, hA2, by rw [mvC_congr (y := fun _ => 0) (fun i _ => if_neg (by omega))]; exact hA3, hb1⟩
  case round =>
    clear hb1 hA1 hA2 hA3
    obtain ⟨k, hk, rfl, h2, h3, hb⟩ := hrel
    by_cases hlt : k < 7
    · have hki : (k : Int) < 7 := by omega
      have hxk := mvC_get (x := x) hlt
      have hxlt := hx k hlt
      have hcell := h3.cell (x k)
      rw [mvC_get hxlt] at hcell
      have hf := h3.frozen (x k)
      obtain ⟨hs1, hg1⟩ := h3.stored (x k) (.int .i64 ((k : Nat) : Int))
      rw [show (mvC fun j => if y j < k then y j else 0).set (x k) (.int .i64 ((k : Nat) : Int)) = mvC (fun j => if y j < k + 1 then y j else 0) from by
        refine List.ext_getElem? fun j => ?_
        by_cases e : x k = j
        · subst e
          rw [List.getElem?_set_self (by rw [mvC_len]; exact hxlt), mvC_get hxlt, hy k hlt, if_pos (by omega)]
        · rw [List.getElem?_set_ne e]
          by_cases hj : j < 7
          · rw [mvC_get hj, mvC_get hj]
            have hne : y j ≠ k := fun he => e (by rw [← he]; exact (hxy j hj).1)
            by_cases h : y j < k
            · rw [if_pos h, if_pos (by omega)]
            · rw [if_neg h, if_neg (by omega)]
          · rw [List.getElem?_eq_none (by rw [mvC_len]; omega), List.getElem?_eq_none (by rw [mvC_len]; omega)]] at hs1
      have hix := fun w => run_index_arr (P := Try.prog) Try.underlying68 Try.sizeOf3 Try.isAgg3 hlt hxk w
      have HX := hid (And.intro (h2.kept hg1 (by simp)) (And.intro hs1 (hb.grown hg1 hb.size (fun b e => by cases e; omega))))
      clear h2 h3 hb hs1 hg1
      generalize x k = xk at *
      generalize mvC x = cs at *
      go_wp2
      go_roundw
      case rel => exact ⟨k + 1, by omega, by go_num, HX.out.1, HX.out.2.1, HX.out.2.2⟩
      case measure => simp [intOf] <;> omega
    · have hki : ¬ (k : Int) < 7 := by omega
      rw [mvC_congr (x := fun j => if y j < k then y j else 0) (y := y) (fun j hj => if_pos (by have := (hxy j hj).2; omega))] at h3
      have r1 := h3.range
      have t1 := h2.there
      have hr1 := Arr.setCells (mvC y) [] (mvC fun _ => 0) wr h2 (by rw [mvC_len, mvC_len])
      have hg1 := grown_setCells (b := w.heap.size + 1) (mvC y) 0 wr
      have HX := hid (And.intro hr1 (hb.grown hg1 hb.size (fun b e => by cases e; omega)))
      have i1 : (Try.prog.info? 68).map (·.size) = some (mvC y).length := by rw [mvC_len]; exact mv_info
      have t2 : wr.there (w.heap.size + 1) 0 (mvC y).toArray.size := by
        rw [mvC_arr]
        rw [mvC_len] at t1
        exact t1
      have i2 : (Try.prog.info? 68).map (·.size) = some (mvC y).toArray.size := by rw [mvC_arr]; exact mv_info
      clear h2 h3 hb hr1 hg1 t1
      go_wp2_with (first
        | (refine wpList_load_mid rfl 68 _ rfl (w.heap.size + 1 + 1) 0 rfl (mvC y) _ r1 Try.underlying68 rfl i1 ?_)
        | (refine wpList_store_mid rfl 68 _ _ rfl (w.heap.size + 1) 0 (mvC y).toArray rfl rfl t2 i2 (mvC_one _) ?_))
      have hrd : (wr.setCells (w.heap.size + 1) 0 (mvC y)).rangeAt (w.heap.size + 1) 0 (mvC y) := HX.out.1.range
      have hld := run_loadVar_mid (P := Try.prog) _ _ _ 68 _ _ hrd Try.underlying68 rfl i1
      refine ⟨rfl, .agg (mvC y).toArray, ?_, rfl, HX.out.2⟩
      show ((results _ _).run _ _) = _
      simp [results, Try.f59, asAddr, hld]
end Go.Proofs.Ytnbgnoimanpjnaa
