/-
  The walks over field.digits and parterreref1.Digits. Conditions: the base is 2 at least, the number is below 128.
-/
import Derived.Test.YthdlhfgeminoiaaDoorArr
import Derived.BigRegion
namespace Go.Proofs.YthdlhfgeminoiaaDoor
set_option linter.unusedVariables false
open Go.RowKit

/-- A list of numbers as an array's cells. -/
def pv (l : List Nat) : List Value := l.map fun x : Nat => Value.int .i64 (x : Int)
theorem pv_len (l : List Nat) : (pv l).length = l.length := by simp [pv]
theorem pv_get {l : List Nat} {i : Nat} (h : i < l.length) : (pv l)[i]? = some (.int .i64 ((l.getD i 0 : Nat) : Int)) := by
  simp [pv, List.getD_eq_getElem?_getD, h]
theorem pv_set (l : List Nat) (i x : Nat) : (pv l).set i (.int .i64 (x : Int)) = pv (l.set i x) := by simp [pv, List.map_set]
theorem pv_one (l : List Nat) : (pv l).toArray.all (·.oneCell') = true := all_oneCell_toArray fun v hv => by
  simp only [pv, List.mem_map] at hv
  obtain ⟨x, _, rfl⟩ := hv
  rfl
def dg (P n j : Nat) : Nat := n / P ^ j % P
def dgT (P n k : Nat) : List Nat := (List.range 7).map fun j => if j < k then dg P n j else 0
def dgL (P n m : Nat) : List Nat := (List.range m).map (dg P n)
theorem dgT_len (P n k : Nat) : (dgT P n k).length = 7 := by simp [dgT]
theorem dgT_zero (P n : Nat) : dgT P n 0 = List.replicate 7 0 := by simp [dgT]; rfl
theorem dgT_step (P n : Nat) {k : Nat} (hk : k < 7) : (dgT P n k).set k (dg P n k) = dgT P n (k + 1) := by
  apply List.ext_getElem?
  intro j
  rw [List.getElem?_set]
  simp only [dgT_len]
  by_cases e : k = j
  · subst e
    rw [if_pos rfl, if_pos hk]
    simp [dgT, hk]
  · rw [if_neg e]
    by_cases hj : j < 7
    · simp only [dgT, List.getElem?_map, List.getElem?_range hj, Option.map_some]
      congr 1
      by_cases h2 : j < k
      · rw [if_pos h2, if_pos (by omega)]
      · rw [if_neg h2, if_neg (by omega)]
    · simp [dgT, hj]
theorem dgT_end {P n k : Nat} (h : n / P ^ k = 0) (hP : 1 ≤ P) : dgT P n k = dgL P n 7 := by
  unfold dgT dgL
  apply List.map_congr_left
  intro j _
  by_cases h2 : j < k
  · rw [if_pos h2]
  · rw [if_neg h2]
    unfold dg
    have hpos : 0 < P ^ k := Nat.pow_pos hP
    have h3 : n / P ^ j = 0 := by
      rw [Nat.div_eq_zero_iff] at h ⊢
      have := Nat.pow_le_pow_right hP (show k ≤ j by omega)
      omega
    rw [h3, Nat.zero_mod]

set_option maxHeartbeats 1000000 in
set_option maxRecDepth 100000 in
theorem digits_ok (P n : Nat) (w : World) (hP : 2 ≤ P) (hP2 : P ≤ 64) (hn : n < 128) :
    Calls Tryd.prog 36 #[.int .i64 P, .int .i64 n] w fun e w' => e = .returned (.agg (pv (dgL P n 7)).toArray) ∧ Below w.heap.size w w' := by
  have HLEN := hid (dgT_len P n)
  have HSTEP := hid (fun k hk => dgT_step P n (k := k) hk)
  have HEND := hid (fun k h => dgT_end (P := P) (n := n) (k := k) h (by omega))
  have HZ := hid (dgT_zero P n)
  have H7 : Hid (128 ≤ P ^ 7) := hid (Nat.le_trans (by decide) (Nat.pow_le_pow_left hP 7))
  have HDG : Hid (∀ k, dg P n k = n / P ^ k % P) := hid fun k => rfl
  have HDV : Hid (∀ k, n / P ^ (k + 1) = n / P ^ k / P) := hid (fun k => by rw [Nat.pow_succ, Nat.div_div_eq_div_mul])
  have HD0 : Hid (n / P ^ 0 = n) := hid (by simp)
  have HMON : Hid (∀ k, 7 ≤ k → n / P ^ k = 0) := hid (fun k hk => by
    rw [Nat.div_eq_zero_iff]
    right
    exact Nat.lt_of_lt_of_le hn (Nat.le_trans (Nat.le_trans (by decide) (Nat.pow_le_pow_left hP 7)) (Nat.pow_le_pow_right (by omega) hk)))
  have HLE : Hid (∀ k, n / P ^ k ≤ n) := hid fun k => Nat.div_le_self _ _
  have hA1 : Arr ((w.alloc (.cells (pv (List.replicate 7 0)).toArray 50)).alloc (.cells (pv (List.replicate 7 0)).toArray 50)) w.heap.size 50 (pv (List.replicate 7 0)) := (Arr.new w _ _).alloc _
  have hA2 : Arr ((w.alloc (.cells (pv (List.replicate 7 0)).toArray 50)).alloc (.cells (pv (List.replicate 7 0)).toArray 50)) (w.alloc (.cells (pv (List.replicate 7 0)).toArray 50)).heap.size 50 (pv (List.replicate 7 0)) := Arr.new _ _ _
  rw [World.size_alloc] at hA2
  have HS := hid (And.intro hA1 (And.intro hA2 (((Below.refl w.heap.size w).alloc (Nat.le_refl _) (.cells (pv (List.replicate 7 0)).toArray 50)).alloc (by simp) (.cells (pv (List.replicate 7 0)).toArray 50))))
  clear hA1 hA2
  obtain ⟨T, hT⟩ : ∃ T, T = dgT P n := ⟨_, rfl⟩
  obtain ⟨q, hq⟩ : ∃ q : Nat → Nat, q = fun k => n / P ^ k := ⟨_, rfl⟩
  have HT : Hid (∀ k, dgT P n k = T k) := hid (fun k => by rw [hT])
  have HQ : Hid (∀ k, n / P ^ k = q k) := hid (fun k => by rw [hq])
  clear hT hq
  generalize dgL P n 7 = R at *
  go_enter Tryd.func36, Tryd.ntmps36
  go_wp2
  go_loopw [1, 6] (fun m i wr => ∃ k : Nat, k ≤ 7 ∧ i = .int .i64 k ∧ m = .int .i64 (q k : Nat) ∧ Arr wr w.heap.size 50 (pv (List.replicate 7 0)) ∧ Arr wr (w.heap.size + 1) 50 (pv (T k)) ∧ Below w.heap.size w wr) (fun _ i _ => 7 - (intOf i).toNat)
  case atStart => exact ⟨0, by omega, rfl, by rw [← HQ.out, HD0.out], HS.out.1, by rw [← HT.out, HZ.out]; exact HS.out.2.1, HS.out.2.2⟩
  case round =>
    clear HS
    obtain ⟨k, hk, rfl, rfl, hA, hB, hb⟩ := hrel
    by_cases hpos : 0 < q k
    · have hk7 : k < 7 := by
        rcases Nat.lt_or_ge k 7 with h | h
        · exact h
        · have := HMON.out k h
          rw [HQ.out] at this
          omega
      have hle := HLE.out k
      rw [HQ.out] at hle
      have hdg := HDG.out k
      rw [HQ.out] at hdg
      have hdv := HDV.out k
      rw [HQ.out, HQ.out] at hdv
      have hst := HSTEP.out k hk7
      rw [HT.out, HT.out, hdg] at hst
      have hln : (T k).length = 7 := by rw [← HT.out]; exact HLEN.out k
      have hcell := hB.cell k
      rw [pv_get (by omega)] at hcell
      have hfz := hB.frozen k
      have hst2 := Arr.stored (w := wr.drew) hB k (.int .i64 ((q k % P : Nat) : Int))
      rw [pv_set, hst] at hst2
      have m1 : (q k : Int).tmod (P : Int) = ((q k % P : Nat) : Int) := (Int.ofNat_tmod _ _).symm
      have m2 : (q k : Int).tdiv (P : Int) = ((q (k + 1) : Nat) : Int) := by rw [hdv]; exact (Int.ofNat_tdiv _ _).symm
      have hl1 : q k % P < P := Nat.mod_lt _ (by omega)
      have hl2 : q (k + 1) ≤ q k := by rw [hdv]; exact Nat.div_le_self _ _
      have hci : (0 : Int) < (q k : Int) := by omega
      have HX := hid (And.intro (Arr.kept (w := wr.drew) hA hst2.2 (by simp)) (And.intro hst2.1 ((hb.drew).grown hst2.2 hb.size (fun k h => by cases h; omega))))
      have hcd : wr.drew.cell? ⟨w.heap.size + 1, k, none⟩ = _ := hcell
      have hfd : wr.drew.frozen? ⟨w.heap.size + 1, k, none⟩ = false := hfz
      clear hA hB hb hst hst2 hdg hdv hln hpos hcell hfz
      obtain ⟨y', hy'⟩ : ∃ y', y' = q (k + 1) := ⟨_, rfl⟩
      rw [← hy'] at m2 hl2
      have HY := hid hy'
      clear hy'
      generalize hqk : q k = x at *
      clear hqk
      generalize x % P = r at *
      generalize (T k).getD k 0 = old at *
      go_wp2
      go_region
      go_wp2
      go_roundw
      case rel => exact ⟨k + 1, by omega, by go_num, by rw [HY.out], HX.out.1, HX.out.2.1, HX.out.2.2⟩
      case measure => simp [intOf] <;> omega
    · have hz : q k = 0 := by omega
      have hE := HEND.out k (by rw [HQ.out]; exact hz)
      rw [HT.out] at hE
      rw [hE] at hB
      have hRl : R.length = 7 := by rw [← hE, ← HT.out]; exact HLEN.out k
      rw [hz]
      clear hpos hz hE
      have r2 := hB.range
      have t1 := hA.there
      rw [pv_len, List.length_replicate] at t1
      have hA' : Arr wr w.heap.size 50 ([] ++ pv (List.replicate 7 0)) := hA
      have hr1 := Arr.setCells (pv R) [] (pv (List.replicate 7 0)) wr hA' (by rw [pv_len, pv_len, hRl, List.length_replicate])
      have hg1 := grown_setCells (b := w.heap.size) (pv R) 0 wr
      have HX := hid (And.intro hr1 (hb.grown hg1 hb.size (fun b e => by cases e; exact Nat.le_refl _)))
      have i1 : (Tryd.prog.info? 50).map (·.size) = some (pv R).length := by rw [pv_len, hRl]; kernel_rfl
      have t2 : wr.there w.heap.size 0 (pv R).toArray.size := by
        rw [show (pv R).toArray.size = 7 from List.size_toArray.trans ((pv_len R).trans hRl)]
        exact t1
      have i2 : (Tryd.prog.info? 50).map (·.size) = some (pv R).toArray.size := by rw [show (pv R).toArray.size = (pv R).length from List.size_toArray]; exact i1
      clear hA hA' hB hb hr1 hg1 t1
      go_wp2_with (first
        | (refine wpList_load_mid rfl 50 _ rfl (w.heap.size + 1) 0 rfl (pv R) _ r2 Tryd.underlying50 rfl i1 ?_)
        | (refine wpList_store_mid rfl 50 _ _ rfl w.heap.size 0 (pv R).toArray rfl rfl t2 i2 (pv_one R) ?_))
      have hrd : (wr.setCells w.heap.size 0 (pv R)).rangeAt w.heap.size 0 (pv R) := HX.out.1.range
      have hld := run_loadVar_mid (P := Tryd.prog) _ _ _ 50 _ _ hrd Tryd.underlying50 rfl i1
      refine ⟨rfl, .agg (pv R).toArray, ?_, rfl, HX.out.2⟩
      show ((results _ _).run _ _) = _
      simp only [Act.put]
      simp [results, Tryd.f36, asAddr, hld]

theorem dgL_succ (P n k : Nat) : dgL P n (k + 1) = dgL P n k ++ [dg P n k] := by simp [dgL, List.range_succ]
theorem dgL_len (P n k : Nat) : (dgL P n k).length = k := by simp [dgL]
set_option maxHeartbeats 1000000 in
set_option maxRecDepth 100000 in
theorem Digits_ok (P n m : Nat) (w : World) (hP : 1 ≤ P) (hP2 : P ≤ 1000000) (hn : n ≤ 1000000000000) (hm : m ≤ 1000) :
    Calls Tryd.prog 39 #[.int .i64 n, .int .i64 P, .int .i64 m] w fun e w' => (∃ u, e = .returned u ∧ OI w.heap.size w' u ((dgL P n m).map fun x : Nat => (x : Int))) ∧ Below w.heap.size w w' := by
  have HS : Hid (∀ k, (dgL P n (k + 1)).map (fun x : Nat => (x : Int)) = (dgL P n k).map (fun x : Nat => (x : Int)) ++ [((dg P n k : Nat) : Int)]) := hid (fun k => by rw [dgL_succ]; simp)
  have HL : Hid (∀ k, ((dgL P n k).map fun x : Nat => (x : Int)).length = k) := hid (fun k => by rw [List.length_map, dgL_len])
  have H0 : Hid ((dgL P n 0).map (fun x : Nat => (x : Int)) = []) := hid rfl
  have HDG : Hid (∀ k, dg P n k = n / P ^ k % P) := hid fun k => rfl
  have HDV : Hid (∀ k, n / P ^ (k + 1) = n / P ^ k / P) := hid (fun k => by rw [Nat.pow_succ, Nat.div_div_eq_div_mul])
  have HD0 : Hid (n / P ^ 0 = n) := hid (by simp)
  have HLE : Hid (∀ k, n / P ^ k ≤ n) := hid fun k => Nat.div_le_self _ _
  obtain ⟨q, hq⟩ : ∃ q : Nat → Nat, q = fun k => n / P ^ k := ⟨_, rfl⟩
  have HQ : Hid (∀ k, n / P ^ k = q k) := hid (fun k => by rw [hq])
  obtain ⟨L, hL⟩ : ∃ L : Nat → List Int, L = fun k => (dgL P n k).map fun x : Nat => (x : Int) := ⟨_, rfl⟩
  have HLL : Hid (∀ k, ((dgL P n k).map fun x : Nat => (x : Int)) = L k) := hid (fun k => by rw [hL])
  rw [HLL.out]
  clear hq hL
  go_enter Tryd.func39, Tryd.ntmps39
  go_wp2
  go_loopw [0, 7, 8] (fun x s i wr => ∃ k : Nat, k ≤ m ∧ i = .int .i64 k ∧ x = .int .i64 (q k : Nat) ∧ OI w.heap.size wr s (L k) ∧ Below w.heap.size w wr) (fun _ _ i _ => m - (intOf i).toNat)
  case atStart => exact ⟨0, Nat.zero_le _, rfl, by rw [← HQ.out, HD0.out], by rw [← HLL.out, H0.out]; exact Ow.nil _ _ _, Below.refl _ _⟩
  case round =>
    obtain ⟨k, hk, rfl, rfl, ho, hb⟩ := hrel
    by_cases hlt : k < m
    · have hle := HLE.out k
      rw [HQ.out] at hle
      have hdg := HDG.out k
      rw [HQ.out] at hdg
      have hdv := HDV.out k
      rw [HQ.out, HQ.out] at hdv
      have hst := HS.out k
      rw [HLL.out, HLL.out, hdg] at hst
      have HST := hid hst
      have m1 : (q k : Int).tmod (P : Int) = ((q k % P : Nat) : Int) := (Int.ofNat_tmod _ _).symm
      have m2 : (q k : Int).tdiv (P : Int) = ((q (k + 1) : Nat) : Int) := by rw [hdv]; exact (Int.ofNat_tdiv _ _).symm
      have hl1 : q k % P < P := Nat.mod_lt _ (by omega)
      have hl2 : q (k + 1) ≤ q k := by rw [hdv]; exact Nat.div_le_self _ _
      have hln : (L k).length ≤ 1000000000000 := by rw [← HLL.out, HL.out]; omega
      have hsz : w.heap.size ≤ wr.heap.size := hb.size
      have HB := hid hb
      clear hdg hdv hst hb
      obtain ⟨y', hy'⟩ : ∃ y', y' = q (k + 1) := ⟨_, rfl⟩
      rw [← hy'] at m2 hl2
      have HY := hid hy'
      clear hy'
      generalize hqk : q k = x at *
      clear hqk
      generalize x % P = r at *
      go_wp2_with (at_builtin; refine wpList_appi wr _ _ 22 rfl rfl Tryd.underlying22 Tryd.info3 w.heap.size u7 (L k) rfl ho rfl hln hsz ?_; intro g3 c3 w4 hown1 hgr1 hgr2 hgr3)
      have HX := hid (And.intro (hown1.cast HST.out.symm) (ho.grown HB.out hgr1 hsz))
      clear hown1 hgr1 hgr2 hgr3 ho
      go_roundw
      case rel => exact ⟨k + 1, by omega, by go_num, by rw [HY.out], HX.out.1, HX.out.2⟩
      case measure => simp [intOf] <;> omega
    · obtain rfl : k = m := by omega
      have HX := hid (And.intro ho hb)
      clear ho hb
      go_wp2
      go_ret
      exact ⟨⟨_, rfl, HX.out.1⟩, HX.out.2⟩
end Go.Proofs.YthdlhfgeminoiaaDoor
