/-
  The walk over field.divides. Conditions: the degrees fit, all numbers are below the prime.
-/
import Derived.Test.YthdlhfgeminoiaaDoorFdig
import Derived.Test.YthdlhfgeminoiaaDoorArrEq
namespace Go.Proofs.YthdlhfgeminoiaaDoor
set_option linter.unusedVariables false
open Go.RowKit

/-- i steps of the inner loop: at top, with t times. -/
def dvI (P t base : Nat) (d : List Nat) (a : List Nat) : Nat → List Nat
  | 0 => a
  | i + 1 => (dvI P t base d a i).set (base + i) (((dvI P t base d a i).getD (base + i) 0 + (P - t) * d.getD i 0) % P)
/-- s steps of the outer loop. -/
def dvO (P deg k : Nat) (d : List Nat) (a : List Nat) : Nat → List Nat
  | 0 => a
  | s + 1 => dvI P ((dvO P deg k d a s).getD (k - s) 0) (k - s - deg) d (dvO P deg k d a s) (deg + 1)
def dvB (P deg k : Nat) (d a : List Nat) : Bool := decide (dvO P deg k d a (k + 1 - deg) = List.replicate 7 0)
theorem getD_set_lt {P : Nat} {l : List Nat} (h : ∀ j, l.getD j 0 < P) {i x : Nat} (hx : x < P) : ∀ j, (l.set i x).getD j 0 < P := by
  intro j
  rw [List.getD_eq_getElem?_getD, List.getElem?_set]
  by_cases e : i = j
  · rw [if_pos e]
    split
    · exact hx
    · have := h j; simp; omega
  · rw [if_neg e, ← List.getD_eq_getElem?_getD]
    exact h j
theorem dvI_len (P t base : Nat) (d a : List Nat) : ∀ i, (dvI P t base d a i).length = a.length
  | 0 => rfl
  | i + 1 => by rw [dvI, List.length_set, dvI_len P t base d a i]
theorem dvI_lt {P t base : Nat} {d a : List Nat} (h : ∀ j, a.getD j 0 < P) : ∀ i j, (dvI P t base d a i).getD j 0 < P
  | 0 => h
  | i + 1 => getD_set_lt (dvI_lt h i) (Nat.mod_lt _ (by have := h 0; omega))
theorem dvO_len (P deg k : Nat) (d a : List Nat) : ∀ s, (dvO P deg k d a s).length = a.length
  | 0 => rfl
  | s + 1 => by rw [dvO, dvI_len, dvO_len P deg k d a s]
theorem dvO_lt {P deg k : Nat} {d a : List Nat} (h : ∀ j, a.getD j 0 < P) : ∀ s j, (dvO P deg k d a s).getD j 0 < P
  | 0 => h
  | s + 1 => dvI_lt (dvO_lt h s) _

set_option maxHeartbeats 1000000 in
set_option maxRecDepth 100000 in
theorem fdivides_ok (P deg k : Nat) (d a : List Nat) (w : World) (hP : 2 ≤ P) (hP2 : P ≤ 64) (hd : d.length = 7) (ha : a.length = 7) (hdl : ∀ j, d.getD j 0 < P) (hal : ∀ j, a.getD j 0 < P) (h1 : 1 ≤ deg) (h2 : deg ≤ k) (h3 : k ≤ 6) :
    Calls Tryd.prog 51 #[.int .i64 P, .agg (pv d).toArray, .int .i64 deg, .agg (pv a).toArray, .int .i64 k] w fun e w' => e = .returned (.bool (dvB P deg k d a)) ∧ Below w.heap.size w w' := by
  have hA1 : Arr ((w.alloc (.cells (pv d).toArray 50)).alloc (.cells (pv a).toArray 50)) w.heap.size 50 (pv d) := (Arr.new w _ _).alloc _
  have hA2 : Arr ((w.alloc (.cells (pv d).toArray 50)).alloc (.cells (pv a).toArray 50)) (w.alloc (.cells (pv d).toArray 50)).heap.size 50 (pv a) := Arr.new _ _ _
  rw [World.size_alloc] at hA2
  have HS := hid (And.intro hA1 (And.intro hA2 (((Below.refl w.heap.size w).alloc (Nat.le_refl _) (.cells (pv d).toArray 50)).alloc (by simp) (.cells (pv a).toArray 50))))
  clear hA1 hA2
  have HLEN := hid (fun s => (dvO_len P deg k d a s).trans ha)
  have HLT := hid (fun s j => dvO_lt (deg := deg) (k := k) (d := d) hal s j)
  have HO0 : Hid (dvO P deg k d a 0 = a) := hid rfl
  have HON : Hid (∀ s, dvO P deg k d a (s + 1) = dvI P ((dvO P deg k d a s).getD (k - s) 0) (k - s - deg) d (dvO P deg k d a s) (deg + 1)) := hid fun s => rfl
  have HIL := hid (fun t b (x : List Nat) i => dvI_len P t b d x i)
  have HIT := hid (fun t b (x : List Nat) (h : ∀ j, x.getD j 0 < P) i j => dvI_lt (t := t) (base := b) (d := d) h i j)
  have HI0 : Hid (∀ t b (x : List Nat), dvI P t b d x 0 = x) := hid fun t b x => rfl
  have HIN : Hid (∀ t b (x : List Nat) i, dvI P t b d x (i + 1) = (dvI P t b d x i).set (b + i) (((dvI P t b d x i).getD (b + i) 0 + (P - t) * d.getD i 0) % P)) := hid fun t b x i => rfl
  have HDV : Hid (dvB P deg k d a = decide (dvO P deg k d a (k + 1 - deg) = List.replicate 7 0)) := hid rfl
  have HDL := hid hdl
  have hm64 : ∀ x y, x ≤ 64 → y < P → x * y ≤ 4096 := fun x y hx hy => Nat.mul_le_mul hx (show y ≤ 64 by omega)
  have HM := hid hm64
  generalize dvB P deg k d a = R at *
  obtain ⟨O, hO⟩ : ∃ O, O = dvO P deg k d a := ⟨_, rfl⟩
  rw [← hO] at HLEN HLT HO0 HON HDV
  clear hO hdl hal hm64
  go_enter Tryd.func51, Tryd.ntmps51
  go_wp2
  go_loopw [11, 12, 13, 14, 26] (fun x _ _ _ _ wr => ∃ s top : Nat, s + top = k ∧ deg ≤ top + 1 ∧ x = .int .i64 top ∧ Arr wr w.heap.size 50 (pv d) ∧ Arr wr (w.heap.size + 1) 50 (pv (O s)) ∧ Below w.heap.size w wr) (fun x _ _ _ _ _ => (intOf x).toNat)
  case atStart => exact ⟨0, k, by omega, by omega, rfl, HS.out.1, by rw [HO0.out]; exact HS.out.2.1, HS.out.2.2⟩
  case round =>
    clear HS
    obtain ⟨s, top, hst, htd, rfl, hA, hB, hb⟩ := hrel
    by_cases hge : deg ≤ top
    · have hks : k - s = top := by omega
      have hon := HON.out s
      rw [hks] at hon
      have hlen := HLEN.out s
      have hlt := HLT.out s
      have htl := hlt top
      have hcell := hB.cell top
      rw [pv_get (by omega)] at hcell
      have HW := hid (And.intro hA (And.intro hB hb))
      have HONS := hid hon
      have hi0 := HI0.out ((O s).getD top 0) (top - deg) (O s)
      have HIL2 := hid (fun i => (HIL.out ((O s).getD top 0) (top - deg) (O s) i).trans hlen)
      have HIT2 := hid (HIT.out ((O s).getD top 0) (top - deg) (O s) hlt)
      have HIN2 := hid (HIN.out ((O s).getD top 0) (top - deg) (O s))
      have hge2 : (deg : Int) ≤ (top : Int) := by omega
      have htop7 : (top : Int) < 7 := by omega
      have hsub : (top : Int) - (deg : Int) = ((top - deg : Nat) : Int) := by omega
      have hbd : top - deg + deg = top := by omega
      have HI0' := hid hi0
      clear hA hB hb hlt hon hi0
      generalize hI : dvI P ((O s).getD top 0) (top - deg) d (O s) = I at *
      clear hI
      generalize (O s).getD top 0 = t at *
      generalize top - deg = base at *
      go_wp2
      go_loopw [13, 14, 26] (fun _ _ i wq => ∃ j : Nat, j ≤ deg + 1 ∧ i = .int .i64 j ∧ Arr wq w.heap.size 50 (pv d) ∧ Arr wq (w.heap.size + 1) 50 (pv (I j)) ∧ Below w.heap.size w wq) (fun _ _ i _ => deg + 1 - (intOf i).toNat)
      case atStart => exact ⟨0, by omega, rfl, HW.out.1, by rw [HI0'.out]; exact HW.out.2.1, HW.out.2.2⟩
      case round =>
        clear HW hcell
        obtain ⟨j, hj, rfl, hA, hB, hb⟩ := hrel
        by_cases hjl : j < deg + 1
        · have hlI := HIL2.out j
          have hin := HIN2.out j
          have hce := hB.cell (base + j)
          rw [pv_get (by omega)] at hce
          have hfz := hB.frozen (base + j)
          have hcd := hA.cell j
          rw [pv_get (by omega)] at hcd
          have hst2 := Arr.stored (w := wr.drew) hB (base + j) (.int .i64 ((((I j).getD (base + j) 0 + (P - t) * d.getD j 0) % P : Nat) : Int))
          rw [pv_set, ← hin] at hst2
          have hq1 := HIT2.out j (base + j)
          have hq2 := HDL.out j
          have hm := HM.out (P - t) (d.getD j 0) (by omega) hq2
          have HX := hid (And.intro (Arr.kept (w := wr.drew) hA hst2.2 (by simp)) (And.intro hst2.1 ((hb.drew).grown hst2.2 hb.size (fun k h => by cases h; omega))))
          have n1 : (P : Int) - (t : Int) = ((P - t : Nat) : Int) := by omega
          have n2 : ((P - t : Nat) : Int) * ((d.getD j 0 : Nat) : Int) = (((P - t) * d.getD j 0 : Nat) : Int) := (Int.natCast_mul _ _).symm
          have n3 : (((I j).getD (base + j) 0 : Nat) : Int) + (((P - t) * d.getD j 0 : Nat) : Int) = (((I j).getD (base + j) 0 + (P - t) * d.getD j 0 : Nat) : Int) := by omega
          have n4 : ((((I j).getD (base + j) 0 + (P - t) * d.getD j 0 : Nat)) : Int).tmod (P : Int) = ((((I j).getD (base + j) 0 + (P - t) * d.getD j 0) % P : Nat) : Int) := (Int.ofNat_tmod _ _).symm
          have n5 : (base : Int) + (j : Int) = ((base + j : Nat) : Int) := by omega
          have hl1 : ((I j).getD (base + j) 0 + (P - t) * d.getD j 0) % P < P := Nat.mod_lt _ (by omega)
          have hj7 : (j : Int) < 7 := by omega
          have hb7 : base + j < 7 := by omega
          have hjd : (j : Int) < (deg : Int) + 1 := by omega
          have hcd : wr.drew.cell? ⟨w.heap.size, j, none⟩ = _ := hcd
          have hce : wr.drew.cell? ⟨w.heap.size + 1, base + j, none⟩ = _ := hce
          have hfz : wr.drew.frozen? ⟨w.heap.size + 1, base + j, none⟩ = false := hfz
          clear hA hB hb hst2 hin hlI
          generalize (I j).getD (base + j) 0 = av at *
          generalize d.getD j 0 = dvv at *
          generalize P - t = pt at *
          generalize hat : base + j = at' at *
          have HAT := hid hat
          clear hat
          generalize pt * dvv = prod at *
          have hsum : av + prod ≤ 5000 := by omega
          generalize hsm : av + prod = sm at *
          clear hsm
          generalize sm % P = r at *
          go_wp2
          go_region
          go_wp2
          go_roundw
          case rel => exact ⟨j + 1, by omega, by go_num, HX.out.1, HX.out.2.1, HX.out.2.2⟩
          case measure => simp [intOf] <;> omega
        · obtain rfl : j = deg + 1 := by omega
          have HX := hid (And.intro hA (And.intro hB hb))
          clear hA hB hb
          go_wp2
          go_roundw
          case rel => exact ⟨s + 1, top - 1, by omega, by omega, by go_num, HX.out.1, by rw [HONS.out]; exact HX.out.2.1, HX.out.2.2⟩
          case measure => simp [intOf] <;> omega
    · have hs : s = k + 1 - deg := by omega
      rw [← hs] at HDV
      have hlen := HLEN.out s
      have hlt2 : ¬ (deg : Int) ≤ (top : Int) := by omega
      have HB := hid hb
      have r2 := hB.range
      have i1 : (Tryd.prog.info? 50).map (·.size) = some (pv (O s)).length := by rw [pv_len, hlen]; kernel_rfl
      obtain ⟨i0, hi0, _⟩ := info_parts Tryd.info3
      have heq := run_eq_ints (P := Tryd.prog) wr 9998 Tryd.underlying50 Tryd.underlying3 hi0 (by kernel_rfl) (xs := (O s).map fun x : Nat => (x : Int)) (ys := (List.replicate 7 0).map fun x : Nat => (x : Int)) (by rw [List.length_map, hlen]) (by simp)
      have e1 : ((O s).map fun x : Nat => (x : Int)).map (Value.int .i64) = pv (O s) := by simp [pv]
      have e2 : (((List.replicate 7 0).map fun x : Nat => (x : Int)).map (Value.int .i64)).toArray = #[.int .i64 0, .int .i64 0, .int .i64 0, .int .i64 0, .int .i64 0, .int .i64 0, .int .i64 0] := rfl
      have e3 : decide (((O s).map fun x : Nat => (x : Int)) = ((List.replicate 7 0).map fun x : Nat => (x : Int))) = R := by
        rw [HDV.out]
        refine decide_eq_decide.2 ⟨fun h => ?_, fun h => by rw [h]⟩
        have := congrArg (List.map Int.toNat) h
        simpa [List.map_map, Function.comp_def] using this
      rw [e1, e2, e3] at heq
      clear hA hB hb e1 e2 e3 hs
      generalize pv (O s) = V at *
      go_wp2_with (refine wpList_load_mid rfl 50 _ rfl (w.heap.size + 1) 0 rfl V _ r2 Tryd.underlying50 rfl i1 ?_)
      go_ret
      exact ⟨rfl, HB.out⟩
end Go.Proofs.YthdlhfgeminoiaaDoor
