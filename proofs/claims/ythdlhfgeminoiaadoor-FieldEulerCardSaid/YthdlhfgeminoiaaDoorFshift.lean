/-
  The walk over field.room.shift. Conditions: the numbers fit; the slice can be read.
-/
import Derived.Test.YthdlhfgeminoiaaDoorFadd
namespace Go.Proofs.YthdlhfgeminoiaaDoor
set_option linter.unusedVariables false
open Go.RowKit

/-- What a digit of a times x is, the digit below being b. -/
def shD (P t b l : Nat) : Nat := (b + (P - t) * l) % P
/-- The cells after j of the digits. -/
def shT (P K : Nat) (low a : List Nat) (j : Nat) : List Nat := (List.range 7).map fun i => if i < j then shD P (a.getD (K - 1) 0) (if 0 < i then a.getD (i - 1) 0 else 0) (low.getD i 0) else 0
theorem shT_len (P K : Nat) (low a : List Nat) (j : Nat) : (shT P K low a j).length = 7 := by simp [shT]
theorem shT_get {P K : Nat} {low a : List Nat} {j i : Nat} (h : i < 7) : (shT P K low a j).getD i 0 = if i < j then shD P (a.getD (K - 1) 0) (if 0 < i then a.getD (i - 1) 0 else 0) (low.getD i 0) else 0 := by
  rw [List.getD_eq_getElem?_getD, shT, List.getElem?_map, List.getElem?_range h]
  rfl
theorem shT_zero (P K : Nat) (low a : List Nat) : shT P K low a 0 = List.replicate 7 0 := by simp [shT]; rfl
theorem shT_succ {P K : Nat} {low a : List Nat} {j : Nat} : shT P K low a (j + 1) = (shT P K low a j).set j (shD P (a.getD (K - 1) 0) (if 0 < j then a.getD (j - 1) 0 else 0) (low.getD j 0)) := by
  apply List.ext_getElem
  · simp [shT_len]
  · intro i h1 h2
    rw [shT_len] at h1
    simp only [shT, List.getElem_map, List.getElem_range, List.getElem_set]
    by_cases e : j = i
    · subst e; simp
    · by_cases e2 : i < j
      · rw [if_pos (by omega), if_neg e, if_pos e2]
      · rw [if_neg (by omega), if_neg e, if_neg e2]
theorem shT_lt {P K : Nat} {low a : List Nat} (hP : 1 ≤ P) (n : Nat) : ∀ j, (shT P K low a n).getD j 0 < P := by
  intro j
  by_cases h : j < 7
  · rw [shT_get h]
    split
    · exact Nat.mod_lt _ (by omega)
    · exact hP
  · rw [List.getD_eq_getElem?_getD, List.getElem?_eq_none (by rw [shT_len]; omega)]
    exact hP
theorem List.set_twice {α : Type} (l : List α) (j : Nat) (x y : α) : (l.set j x).set j y = l.set j y := by simp

set_option maxHeartbeats 1000000 in
set_option maxRecDepth 100000 in
theorem shift_ok (P K Q : Nat) (u : Value) (low a : List Nat) (w : World) (hu : Sl w u (nZ low)) (hP : 2 ≤ P) (hP2 : P ≤ 64) (hK : 1 ≤ K) (hK6 : K ≤ 6) (hlow : low.length = K) (hll : ∀ j, low.getD j 0 < P) (ha : a.length = 7) (hal : ∀ j, a.getD j 0 < P) :
    Calls Tryd.prog 54 #[rmV P K u Q, .agg (pv a).toArray] w fun e w' => e = .returned (.agg (pv (shT P K low a K)).toArray) ∧ Below w.heap.size w w' := by
  have HLEN := hid (shT_len P K low a)
  have HSTEP := hid (fun j => shT_succ (P := P) (K := K) (low := low) (a := a) (j := j))
  have HZ := hid (shT_zero P K low a)
  have HOLD := hid (fun j (h : j < 7) => (shT_get (P := P) (K := K) (low := low) (a := a) (j := j) h).trans (if_neg (by omega)))
  have HAL := hid hal
  have HLL := hid hll
  have HA7 := hid ha
  obtain ⟨T, hT⟩ : ∃ T, T = shT P K low a := ⟨_, rfl⟩
  have HR : Hid (pv (shT P K low a K) = pv (T K)) := hid (by rw [hT])
  rw [← hT] at HLEN HSTEP HZ HOLD
  obtain ⟨sa, c, N, rfl, hN, hl1, hl2⟩ := hu.open
  obtain rfl : N = K := by rw [← hN.out, nZ_len]; exact hlow
  have HDN : Hid (∀ j, (nZ low)[j]?.getD 0 = ((low.getD j 0 : Nat) : Int)) := hid (fun j => by rw [← nZ_getD, List.getD_eq_getElem?_getD])
  rw [HR.out]
  clear hT HR hlow hll hal
  have n0 : (N : Int) - 1 = ((N - 1 : Nat) : Int) := by omega
  have hpa : (pv a)[N - 1]? = some (.int .i64 ((a.getD (N - 1) 0 : Nat) : Int)) := pv_get (by omega)
  have h17 : ((N - 1 : Nat) : Int) < 7 := by omega
  have ht := HAL.out (N - 1)
  generalize a.getD (N - 1) 0 = t at *
  have hA1 := (Arr.new w 57 [.int .i64 (P : Int), .int .i64 (N : Int), .slice sa N c, .int .i64 (Q : Int)])
  have hA2 := (Arr.new (w.alloc (.cells #[.int .i64 (P : Int), .int .i64 (N : Int), .slice sa N c, .int .i64 (Q : Int)] 57)) 50 (pv a))
  have hA3 := Arr.new ((w.alloc (.cells #[.int .i64 (P : Int), .int .i64 (N : Int), .slice sa N c, .int .i64 (Q : Int)] 57)).alloc (.cells (pv a).toArray 50)) 50 (pv (List.replicate 7 0))
  have hA4 := Arr.new (((w.alloc (.cells #[.int .i64 (P : Int), .int .i64 (N : Int), .slice sa N c, .int .i64 (Q : Int)] 57)).alloc (.cells (pv a).toArray 50)).alloc (.cells (pv (List.replicate 7 0)).toArray 50)) 50 (pv (List.replicate 7 0))
  have hb := ((((Below.refl w.heap.size w).alloc (Nat.le_refl _) (.cells #[.int .i64 (P : Int), .int .i64 (N : Int), .slice sa N c, .int .i64 (Q : Int)] 57)).alloc (by simp) (.cells (pv a).toArray 50)).alloc (by simp; omega) (.cells (pv (List.replicate 7 0)).toArray 50)).alloc (by simp; omega) (.cells (pv (List.replicate 7 0)).toArray 50)
  have hs1 := World.size_alloc w (.cells #[.int .i64 (P : Int), .int .i64 (N : Int), .slice sa N c, .int .i64 (Q : Int)] 57)
  have hs2 := World.size_alloc (w.alloc (.cells #[.int .i64 (P : Int), .int .i64 (N : Int), .slice sa N c, .int .i64 (Q : Int)] 57)) (.cells (pv a).toArray 50)
  have hs3 := World.size_alloc ((w.alloc (.cells #[.int .i64 (P : Int), .int .i64 (N : Int), .slice sa N c, .int .i64 (Q : Int)] 57)).alloc (.cells (pv a).toArray 50)) (.cells (pv (List.replicate 7 0)).toArray 50)
  rw [hs1] at hs2 hA2
  rw [hs2] at hs3 hA3
  rw [hs3] at hA4
  have HS := hid (And.intro (((hA1.alloc (.cells (pv a).toArray 50)).alloc (.cells (pv (List.replicate 7 0)).toArray 50)).alloc (.cells (pv (List.replicate 7 0)).toArray 50)) (And.intro ((hA2.alloc (.cells (pv (List.replicate 7 0)).toArray 50)).alloc (.cells (pv (List.replicate 7 0)).toArray 50)) (And.intro (hA3.alloc (.cells (pv (List.replicate 7 0)).toArray 50)) (And.intro hA4 hb))))
  clear hA1 hA2 hA3 hA4 hb hs1 hs2 hs3
  unfold rmV
  go_enter Tryd.func54, Tryd.ntmps54
  go_wp2
  clear hpa h17 n0
  go_loopw [7, 17] (fun _ i wq => ∃ j : Nat, j ≤ N ∧ i = .int .i64 j ∧ Arr wq w.heap.size 57 [.int .i64 (P : Int), .int .i64 (N : Int), .slice sa N c, .int .i64 (Q : Int)] ∧ Arr wq (w.heap.size + 1) 50 (pv a) ∧ Arr wq (w.heap.size + 1 + 1) 50 (pv (List.replicate 7 0)) ∧ Arr wq (w.heap.size + 1 + 1 + 1) 50 (pv (T j)) ∧ Below w.heap.size w wq) (fun _ i _ => N - (intOf i).toNat)
  case atStart => exact ⟨0, by omega, rfl, HS.out.1, HS.out.2.1, HS.out.2.2.1, by rw [HZ.out]; exact HS.out.2.2.2.1, HS.out.2.2.2.2⟩
  case round =>
    clear HS
    obtain ⟨j, hj, rfl, hR, hA, hZ, hO, hb⟩ := hrel
    have hlI := HLEN.out j
    by_cases hjl : j < N
    · have hold := HOLD.out j (by omega)
      have hcell := hO.cell j
      rw [pv_get (by omega), hold] at hcell
      have hfz := hO.frozen j
      have k0 := hR.cell 0
      have k2 := hR.cell 2
      simp only [List.getElem?_cons_zero, List.getElem?_cons_succ] at k0 k2
      obtain ⟨b, off, rfl, hbl, hcl⟩ := hl2 (by omega)
      have hcd := (hb.cell (p := ⟨b, off + j, none⟩) hbl).trans (hcl j hjl)
      rw [HDN.out] at hcd
      have hq2 := HLL.out j
      have hjN : (j : Int) < (N : Int) := by omega
      have hj7 : (j : Int) < 7 := by omega
      have hpt : (P : Int) - (t : Int) = ((P - t : Nat) : Int) := by omega
      have hml : (P - t) * low.getD j 0 ≤ 4096 := Nat.mul_le_mul (show P - t ≤ 64 by omega) (show low.getD j 0 ≤ 64 by omega)
      have n2 : ((P - t : Nat) : Int) * ((low.getD j 0 : Nat) : Int) = (((P - t) * low.getD j 0 : Nat) : Int) := (Int.natCast_mul _ _).symm
      have hstep := HSTEP.out j
      by_cases hj0 : j = 0
      · subst hj0
        rw [if_neg (by omega), show shD P t 0 (low.getD 0 0) = ((P - t) * low.getD 0 0) % P by unfold shD; rw [Nat.zero_add]] at hstep
        have hst2 := Arr.stored (w := wr.drew) hO 0 (.int .i64 ((((P - t) * low.getD 0 0) % P : Nat) : Int))
        rw [pv_set, ← hstep] at hst2
        have HX := hid (And.intro (Arr.kept (w := wr.drew) hR hst2.2 (fun e => by have := Option.some.inj e; omega)) (And.intro (Arr.kept (w := wr.drew) hA hst2.2 (fun e => by have := Option.some.inj e; omega)) (And.intro (Arr.kept (w := wr.drew) hZ hst2.2 (fun e => by have := Option.some.inj e; omega)) (And.intro hst2.1 ((hb.drew).grown hst2.2 hb.size (fun k h => by cases h; omega))))))
        have n4 : (((P - t) * low.getD 0 0 : Nat) : Int).tmod (P : Int) = ((((P - t) * low.getD 0 0) % P : Nat) : Int) := (Int.ofNat_tmod _ _).symm
        have hcd : wr.drew.cell? ⟨b, off, none⟩ = _ := hcd
        have hce : wr.drew.cell? ⟨w.heap.size + 1 + 1 + 1, 0, none⟩ = _ := hcell
        have hfz : wr.drew.frozen? ⟨w.heap.size + 1 + 1 + 1, 0, none⟩ = false := hfz
        have k0 : wr.drew.cell? ⟨w.heap.size, 0, none⟩ = _ := k0
        have k2 : wr.drew.cell? ⟨w.heap.size, 2, none⟩ = _ := k2
        have hlr := Nat.mod_lt ((P - t) * low.getD 0 0) (show 0 < P by omega)
        clear hA hR hZ hO hb hst2 hstep hcl hl2 hcell
        generalize low.getD 0 0 = lv at *
        generalize P - t = pt at *
        generalize pt * lv = prod at *
        generalize prod % P = r at *
        go_wp2
        go_region
        go_wp2
        go_roundw
        case rel => exact ⟨1, by omega, by go_num, HX.out⟩
        case measure => simp [intOf] <;> omega
      · rw [if_pos (by omega)] at hstep
        have hla : (pv a)[j - 1]? = some (.int .i64 ((a.getD (j - 1) 0 : Nat) : Int)) := pv_get (by omega)
        have hca := (hA.cell (j - 1)).trans hla
        have hav := HAL.out (j - 1)
        have hst1 := Arr.stored (w := wr) hO j (.int .i64 ((a.getD (j - 1) 0 : Nat) : Int))
        rw [pv_set] at hst1
        have n5 : (j : Int) - 1 = ((j - 1 : Nat) : Int) := by omega
        have hj17 : ((j - 1 : Nat) : Int) < 7 := by omega
        have hjp : (0 : Int) < (j : Int) := by omega
        have hR3 := Arr.kept (w := wr) hR hst1.2 (fun e => by have := Option.some.inj e; omega)
        have hA3 := Arr.kept (w := wr) hA hst1.2 (fun e => by have := Option.some.inj e; omega)
        have hZ3 := Arr.kept (w := wr) hZ hst1.2 (fun e => by have := Option.some.inj e; omega)
        have hb3 := hb.grown hst1.2 hb.size (fun k h => by cases h; omega)
        have HW3 := hid (And.intro hR3 (And.intro hA3 (And.intro hZ3 (And.intro hst1.1 hb3))))
        clear hR hA hZ hO hb hR3 hA3 hZ3 hst1 hb3 hla k0 k2 hcd
        generalize hav2 : a.getD (j - 1) 0 = av at *
        clear hav2
        go_wp2
        generalize wr.setCell ⟨w.heap.size + 1 + 1 + 1, j, none⟩ (.int .i64 (av : Int)) = w3 at *
        obtain ⟨hR, hA, hZ, hO, hb⟩ := HW3.out
        clear HW3 hcell hfz hca
        have hlen3 : ((T j).set j av).length = 7 := by rw [List.length_set, hlI]
        have hcell := hO.cell j
        rw [pv_get (by omega), show ((T j).set j av).getD j 0 = av by rw [List.getD_eq_getElem?_getD, List.getElem?_set_self (by omega)]; rfl] at hcell
        have hfz := hO.frozen j
        have k0 := hR.cell 0
        have k2 := hR.cell 2
        simp only [List.getElem?_cons_zero, List.getElem?_cons_succ] at k0 k2
        have hcd := (hb.cell (p := ⟨b, off + j, none⟩) hbl).trans (hcl j hjl)
        rw [HDN.out] at hcd
        have hst2 := Arr.stored (w := w3.drew) hO j (.int .i64 (((av + (P - t) * low.getD j 0) % P : Nat) : Int))
        rw [pv_set, List.set_twice] at hst2
        unfold shD at hstep
        rw [← hstep] at hst2
        have HX := hid (And.intro (Arr.kept (w := w3.drew) hR hst2.2 (fun e => by have := Option.some.inj e; omega)) (And.intro (Arr.kept (w := w3.drew) hA hst2.2 (fun e => by have := Option.some.inj e; omega)) (And.intro (Arr.kept (w := w3.drew) hZ hst2.2 (fun e => by have := Option.some.inj e; omega)) (And.intro hst2.1 ((hb.drew).grown hst2.2 hb.size (fun k h => by cases h; omega))))))
        have n3 : (av : Int) + (((P - t) * low.getD j 0 : Nat) : Int) = ((av + (P - t) * low.getD j 0 : Nat) : Int) := by omega
        have n4 : ((av + (P - t) * low.getD j 0 : Nat) : Int).tmod (P : Int) = (((av + (P - t) * low.getD j 0) % P : Nat) : Int) := (Int.ofNat_tmod _ _).symm
        have hcd : w3.drew.cell? ⟨b, off + j, none⟩ = _ := hcd
        have hce : w3.drew.cell? ⟨w.heap.size + 1 + 1 + 1, j, none⟩ = _ := hcell
        have hfz : w3.drew.frozen? ⟨w.heap.size + 1 + 1 + 1, j, none⟩ = false := hfz
        have k0 : w3.drew.cell? ⟨w.heap.size, 0, none⟩ = _ := k0
        have k2 : w3.drew.cell? ⟨w.heap.size, 2, none⟩ = _ := k2
        have hlr := Nat.mod_lt (av + (P - t) * low.getD j 0) (show 0 < P by omega)
        clear hA hR hZ hO hb hst2 hstep hcl hl2 hcell
        generalize low.getD j 0 = lv at *
        generalize P - t = pt at *
        generalize pt * lv = prod at *
        have hsm : av + prod ≤ 5000 := by omega
        generalize av + prod = sm at *
        generalize sm % P = r at *
        go_region
        go_wp2
        go_roundw
        case rel => exact ⟨j + 1, by omega, by go_num, HX.out⟩
        case measure => simp [intOf] <;> omega
    · obtain rfl : j = N := by omega
      have r2 := hO.range
      have t1 := hZ.there
      rw [pv_len, List.length_replicate] at t1
      have hZ' : Arr wr (w.heap.size + 1 + 1) 50 ([] ++ pv (List.replicate 7 0)) := hZ
      have hr1 := Arr.setCells (pv (T j)) [] (pv (List.replicate 7 0)) wr hZ' (by rw [pv_len, pv_len, hlI, List.length_replicate])
      have hg1 := grown_setCells (b := w.heap.size + 1 + 1) (pv (T j)) 0 wr
      have HX := hid (And.intro hr1 (hb.grown hg1 hb.size (fun b e => by cases e; omega)))
      have i1 : (Tryd.prog.info? 50).map (·.size) = some (pv (T j)).length := by rw [pv_len, hlI]; kernel_rfl
      have t2 : wr.there (w.heap.size + 1 + 1) 0 (pv (T j)).toArray.size := by
        rw [show (pv (T j)).toArray.size = 7 from List.size_toArray.trans ((pv_len (T j)).trans hlI)]
        exact t1
      have i2 : (Tryd.prog.info? 50).map (·.size) = some (pv (T j)).toArray.size := by rw [show (pv (T j)).toArray.size = (pv (T j)).length from List.size_toArray]; exact i1
      clear hA hR hZ hO hb hZ' hr1 hg1 t1
      obtain ⟨R, hRe⟩ : ∃ R, R = T j := ⟨_, rfl⟩
      have HRE := hid hRe
      rw [← hRe] at r2 i1 t2 i2 HX
      clear hRe
      go_wp2_with (first
        | (refine wpList_load_mid rfl 50 _ rfl (w.heap.size + 1 + 1 + 1) 0 rfl (pv R) _ r2 Tryd.underlying50 rfl i1 ?_)
        | (refine wpList_store_mid rfl 50 _ _ rfl (w.heap.size + 1 + 1) 0 (pv R).toArray rfl rfl t2 i2 (pv_one R) ?_))
      have hrd : (wr.setCells (w.heap.size + 1 + 1) 0 (pv R)).rangeAt (w.heap.size + 1 + 1) 0 (pv R) := HX.out.1.range
      have hld := run_loadVar_mid (P := Tryd.prog) _ _ _ 50 _ _ hrd Tryd.underlying50 rfl i1
      refine ⟨rfl, .agg (pv R).toArray, ?_, by rw [HRE.out], HX.out.2⟩
      show ((results _ _).run _ _) = _
      simp only [Act.put]
      simp [results, Tryd.f54, asAddr, hld]
end Go.Proofs.YthdlhfgeminoiaaDoor
