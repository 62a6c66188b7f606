/-
  The walk over field.room.add. Conditions: the numbers fit.
-/
import Derived.Test.YthdlhfgeminoiaaDoorFreg
namespace Go.Proofs.YthdlhfgeminoiaaDoor
set_option linter.unusedVariables false
open Go.RowKit

/-- Sums of digits. -/
def adL (P : Nat) (a b : List Nat) (j : Nat) : List Nat := (List.range 7).map fun i => if i < j then (a.getD i 0 + b.getD i 0) % P else a.getD i 0
theorem adL_len (P : Nat) (a b : List Nat) (j : Nat) : (adL P a b j).length = 7 := by simp [adL]
theorem adL_get {P : Nat} {a b : List Nat} {j i : Nat} (h : i < 7) : (adL P a b j).getD i 0 = if i < j then (a.getD i 0 + b.getD i 0) % P else a.getD i 0 := by
  rw [List.getD_eq_getElem?_getD, adL, List.getElem?_map, List.getElem?_range h]
  rfl
theorem adL_zero {P : Nat} {a b : List Nat} (h : a.length = 7) : adL P a b 0 = a := by
  apply List.ext_getElem
  · rw [adL_len, h]
  · intro i h1 h2
    have := adL_get (P := P) (a := a) (b := b) (j := 0) (i := i) (by omega)
    rw [if_neg (by omega), List.getD_eq_getElem?_getD, List.getD_eq_getElem?_getD, List.getElem?_eq_getElem h1, List.getElem?_eq_getElem h2] at this
    exact this
theorem adL_succ {P : Nat} {a b : List Nat} {j : Nat} (hj : j < 7) : adL P a b (j + 1) = (adL P a b j).set j ((a.getD j 0 + b.getD j 0) % P) := by
  apply List.ext_getElem
  · simp [adL_len]
  · intro i h1 h2
    rw [adL_len] at h1
    simp only [adL, List.getElem_map, List.getElem_range, List.getElem_set]
    by_cases e : j = i
    · subst e; simp
    · by_cases e2 : i < j
      · rw [if_pos (by omega), if_neg e, if_pos e2]
      · rw [if_neg (by omega), if_neg e, if_neg e2]
theorem adL_lt {P : Nat} {a b : List Nat} (hP : 1 ≤ P) (ha : ∀ j, a.getD j 0 < P) (n : Nat) : ∀ j, (adL P a b n).getD j 0 < P := by
  intro j
  by_cases h : j < 7
  · rw [adL_get h]
    split
    · exact Nat.mod_lt _ (by omega)
    · exact ha j
  · rw [List.getD_eq_getElem?_getD, List.getElem?_eq_none (by rw [adL_len]; omega)]
    exact hP
def addF (P K x y : Nat) : Nat := numL P ((adL P (dgL P x 7) (dgL P y 7) 7).take K)

set_option maxHeartbeats 1000000 in
set_option maxRecDepth 100000 in
theorem add_ok (P K Q x y : Nat) (u : Value) (w : World) (hu : ∃ a n c, u = .slice a n c) (hP : 2 ≤ P) (hP2 : P ≤ 64) (hK : 1 ≤ K) (hK6 : K ≤ 6) (hq : P ^ K ≤ 64) (hx : x < 64) (hy : y < 64) :
    Calls Tryd.prog 42 #[rmV P K u Q, .int .i64 x, .int .i64 y] w fun e w' => e = .returned (.int .i64 (addF P K x y)) ∧ Below w.heap.size w w' := by
  have hus := hu
  obtain ⟨xs, nn, c, rfl⟩ := hu
  have hR : Arr (w.alloc (.cells #[.int .i64 (P : Int), .int .i64 (K : Int), .slice xs nn c, .int .i64 (Q : Int)] 57)) w.heap.size 57 [.int .i64 (P : Int), .int .i64 (K : Int), .slice xs nn c, .int .i64 (Q : Int)] := Arr.new _ _ _
  have hb := ((Below.refl w.heap.size w).alloc (Nat.le_refl _) (.cells #[.int .i64 (P : Int), .int .i64 (K : Int), .slice xs nn c, .int .i64 (Q : Int)] 57))
  have hbR : w.heap.size < (w.alloc (.cells #[.int .i64 (P : Int), .int .i64 (K : Int), .slice xs nn c, .int .i64 (Q : Int)] 57)).heap.size := hR.lt
  have hd1 : ∀ j, (dgL P x 7).getD j 0 < P := fun j => dgL_lt hP _ _
  have hd2 : ∀ j, (dgL P y 7).getD j 0 < P := fun j => dgL_lt hP _ _
  have hl1 := dgL_len P x 7
  have hl2 := dgL_len P y 7
  have HS := hid (fun j (h : j < 7) => adL_succ (P := P) (a := dgL P x 7) (b := dgL P y 7) h)
  have HG := hid (fun j (h : j < 7) => (adL_get (P := P) (a := dgL P x 7) (b := dgL P y 7) (j := j) (i := j) h).trans (if_neg (by omega)))
  have HL := hid (adL_len P (dgL P x 7) (dgL P y 7))
  have H0 := hid (adL_zero (P := P) (a := dgL P x 7) (b := dgL P y 7) hl1)
  have HLT := hid (adL_lt (P := P) (a := dgL P x 7) (b := dgL P y 7) (by omega) hd1 7)
  have hQ : addF P K x y = numL P ((adL P (dgL P x 7) (dgL P y 7) 7).take K) := rfl
  unfold rmV
  go_enter Tryd.func42, Tryd.ntmps42
  go_wp2
  generalize w.alloc (.cells #[.int .i64 (P : Int), .int .i64 (K : Int), .slice xs nn c, .int .i64 (Q : Int)] 57) = w0 at *
  generalize hbe : w.heap.size = bR at *
  have HBE : Hid (w.heap.size = bR) := hid hbe
  clear hbe
  rename_i Q0 K0 hK0
  refine wp_region_any (by kernel_rfl) ?_
  refine digits_region (s0 := 10) (n := 40) (P := P) (x := x) (y := y) (bR := bR) (by kernel_rfl) ⟨_, rfl, rfl, rfl, rfl⟩ ⟨_, rfl, rfl, rfl, rfl⟩ ⟨_, rfl, rfl, rfl, rfl⟩ ⟨_, rfl, rfl, rfl, rfl⟩ ⟨_, rfl, rfl, rfl, rfl⟩ ⟨_, rfl, rfl, rfl, rfl⟩ ⟨_, rfl, rfl, rfl, rfl⟩ ⟨_, rfl, rfl, rfl, rfl⟩ ⟨_, rfl, rfl, rfl, rfl⟩ ⟨_, rfl, rfl, rfl, rfl⟩ ⟨_, rfl, rfl, rfl, rfl⟩ ⟨_, rfl, rfl, rfl, rfl⟩ ⟨_, rfl, rfl, rfl, rfl⟩ ⟨_, rfl, rfl, rfl, rfl⟩ (by kernel_rfl) (by kernel_rfl) (by omega) (by omega) hP hP2 (by omega) (by omega) (by rfl) rfl (fun _ _ _ _ => rfl) rfl rfl rfl (by exact hR) rfl ?_
  refine by_slots (P := fun a' w' b7 b8 => _) ?_
  intro f w1 b7 b8 hT e7 e8 hb7 hb8 hne A7 A8 AR hbel
  have e0 := hT 0 (by decide) (by decide) (by decide)
  have e1 := hT 1 (by decide) (by decide) (by decide)
  have e2 := hT 2 (by decide) (by decide) (by decide)
  have e3 := hT 3 (by decide) (by decide) (by decide)
  have e4 := hT 4 (by decide) (by decide) (by decide)
  have e5 := hT 5 (by decide) (by decide) (by decide)
  have e6 := hT 6 (by decide) (by decide) (by decide)
  have e9 := hT 9 (by decide) (by decide) (by decide)
  replace hbel : Below w0.heap.size w0 w1 := ⟨hbel.os, hbel.tape, hbel.output, hbel.size, hbel.block⟩
  replace hb7 : w0.heap.size ≤ b7 := hb7
  replace hb8 : w0.heap.size ≤ b8 := hb8
  simp only [List.range, List.range.loop, List.map, e0, e1, e2, e3, e4, e5, e6, e7, e8, e9, Array.getD_eq_getD_getElem?, List.getElem?_toArray, List.getElem?_cons_zero, List.getElem?_cons_succ, Option.getD_some]
  clear hT e0 e1 e2 e3 e4 e5 e6 e7 e8 e9
  apply hK0
  clear hK0
  have hbr2 : bR < w1.heap.size := Nat.lt_of_lt_of_le hbR hbel.size
  have hb2 : Below bR w w1 := hb.trans (hbel.mono (by omega))
  have HW := hid (And.intro AR (And.intro A7 (And.intro A8 hb2)))
  have hL2 : Hid ((dgL P y 7).length = 7) := hid hl2
  have HLT1 := hid hd1
  have HLT2 := hid hd2
  clear hR hb hd1 hd2 hl1 hl2 AR A7 A8 hb2 hbel
  generalize dgL P x 7 = D1 at *
  generalize dgL P y 7 = D2 at *
  have hb7' : bR ≤ b7 := by omega
  have hb8' : bR ≤ b8 := by omega
  have hbR7 : bR < b7 := by omega
  clear hb7 hb8 hbR
  go_wp2
  go_loopw [9, 20] (fun _ i wq => ∃ j : Nat, j ≤ 7 ∧ i = .int .i64 j ∧ Arr wq bR 57 [.int .i64 (P : Int), .int .i64 (K : Int), .slice xs nn c, .int .i64 (Q : Int)] ∧ Arr wq b7 50 (pv (adL P D1 D2 j)) ∧ Arr wq b8 50 (pv D2) ∧ Below bR w wq) (fun _ i _ => 7 - (intOf i).toNat)
  case atStart => exact ⟨0, by omega, rfl, HW.out.1, by rw [H0.out]; exact HW.out.2.1, HW.out.2.2.1, HW.out.2.2.2⟩
  case round =>
    clear HW
    obtain ⟨j, hj, rfl, hR, hA, hB, hb⟩ := hrel
    by_cases hjl : j < 7
    · have hlI := HL.out j
      have hs := HS.out j hjl
      have hce := hA.cell j
      rw [pv_get (by omega), HG.out j hjl] at hce
      have hfz := hA.frozen j
      have hcd := hB.cell j
      rw [pv_get (by rw [hL2.out]; omega)] at hcd
      have k0 := hR.cell 0
      simp only [List.getElem?_cons_zero] at k0
      have hst2 := Arr.stored (w := wr.drew) hA j (.int .i64 (((D1.getD j 0 + D2.getD j 0) % P : Nat) : Int))
      rw [pv_set, ← hs] at hst2
      have hq1 := HLT1.out j
      have hq2 := HLT2.out j
      have HX := hid (And.intro (Arr.kept (w := wr.drew) hR hst2.2 (fun e => by cases e; omega)) (And.intro hst2.1 (And.intro (Arr.kept (w := wr.drew) hB hst2.2 (fun e => hne (Option.some.inj e).symm)) ((hb.drew).grown hst2.2 (by have := hb.size; have := hR.lt; show bR ≤ wr.heap.size; omega) (fun k h => by cases h; omega)))))
      have n3 : ((D1.getD j 0 : Nat) : Int) + ((D2.getD j 0 : Nat) : Int) = ((D1.getD j 0 + D2.getD j 0 : Nat) : Int) := by omega
      have n4 : ((D1.getD j 0 + D2.getD j 0 : Nat) : Int).tmod (P : Int) = (((D1.getD j 0 + D2.getD j 0) % P : Nat) : Int) := (Int.ofNat_tmod _ _).symm
      have hj7 : (j : Int) < 7 := by omega
      have hcd : wr.drew.cell? ⟨b8, j, none⟩ = _ := hcd
      have hce : wr.drew.cell? ⟨b7, j, none⟩ = _ := hce
      have hfz : wr.drew.frozen? ⟨b7, j, none⟩ = false := hfz
      have k0 : wr.drew.cell? ⟨bR, 0, none⟩ = _ := k0
      clear hA hB hR hb hst2 hs hlI
      generalize D1.getD j 0 = av at *
      generalize D2.getD j 0 = dvv at *
      have hsum : av + dvv ≤ 128 := by omega
      generalize hsm : av + dvv = sm at *
      clear hsm
      generalize sm % P = r at *
      go_wp2
      go_region
      go_wp2
      go_roundw
      case rel => exact ⟨j + 1, by omega, by go_num, HX.out⟩
      case measure => simp [intOf] <;> omega
    · obtain rfl : j = 7 := by omega
      have hlI := HL.out 7
      have HB := hid hb
      have hszb := hR.lt
      have r1 := hR.range
      have r2 := hA.range
      have i1 : (Tryd.prog.info? 50).map (·.size) = some (pv (adL P D1 D2 7)).length := by rw [pv_len, hlI]; kernel_rfl
      have i2 : (Tryd.prog.info? 57).map (·.size) = some 4 := by kernel_rfl
      have HC := hid (number_ok P K Q (.slice xs nn c) (adL P D1 D2 7) wr hus hP hP2 hK hK6 hq hlI HLT.out)
      have HC2 : Hid (Calls Tryd.prog 53 #[.agg #[.int .i64 (P : Int), .int .i64 (K : Int), .slice xs nn c, .int .i64 (Q : Int)], .agg (pv (adL P D1 D2 7)).toArray] wr fun e w' => e = .returned (.int .i64 (addF P K x y)) ∧ Below wr.heap.size wr w') := hid (by rw [hQ]; exact HC.out)
      clear HC hQ
      clear hA hB hR hb
      generalize pv (adL P D1 D2 7) = V at *
      go_wp2_with (first
        | (refine wpList_load_mid rfl 50 _ rfl b7 0 rfl V _ r2 Tryd.underlying50 rfl i1 ?_)
        | (refine wpList_load_mid rfl 57 _ rfl bR 0 rfl [.int .i64 (P : Int), .int .i64 (K : Int), .slice xs nn c, .int .i64 (Q : Int)] _ r1 Tryd.underlying57 rfl i2 ?_))
      refine HC2.out.mono ?_
      rintro _ w2 ⟨rfl, hb2⟩
      have HB2 := hid (HB.out.trans (hb2.mono (by omega)))
      go_wp2
      go_ret
      exact ⟨rfl, by rw [HBE.out]; exact HB2.out⟩
end Go.Proofs.YthdlhfgeminoiaaDoor
