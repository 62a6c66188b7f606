/-
  The walks over group.Orbits and group.Fixed. Conditions: the slices can be read; numbers of 64 bits.
-/
import Derived.Test.YtnbgnoimanpjnaaGorb
namespace Go.Proofs.Ytnbgnoimanpjnaa
set_option linter.unusedVariables false
open Go.RowKit

theorem Orbits_bad (n : Int) (v : Value) (ll : List (List Int)) (w : World) (hl : RL w v ll) (hE : grpE n ll ≠ 0) :
    Calls Try.prog 33 #[.int .i64 n, v] w fun e w' => e = .returned (.tuple #[.slice none 0 0, .int .i64 (grpE n ll)]) ∧ Below w.heap.size w w' := by
  have HO := hid (gopen_bad n v ll w hl hE)
  obtain ⟨a, c, N, rfl, hN, hc1, hc2⟩ := hl.open
  have hb : (grpE n ll != 0) = true := bne_iff_ne.2 hE
  clear hE hl hc2
  generalize grpE n ll = E at *
  go_enter Try.func33, Try.ntmps33
  go_wp2_with fail
  refine HO.out.mono ?_
  rintro e w1 ⟨rfl, hb1⟩
  have HB := hid hb1
  clear hb1
  go_wp2
  go_ret2
  exact ⟨rfl, HB.out⟩
theorem Orbits_ok (n : Nat) (v : Value) (ll : List (List Int)) (w : World) (hl : RL w v ll) (hE : grpE (n : Int) ll = 0) :
    Calls Try.prog 33 #[.int .i64 n, v] w fun e w' => (∃ r, e = .returned (.tuple #[r, .int .i64 0]) ∧ OL w.heap.size w'.heap.size w' r ((orsL n (GL n (msL n ll)) n).map intsL)) ∧ Below w.heap.size w w' := by
  have HO := hid (gopen_ok n v ll w hl hE)
  obtain ⟨n', hn', hG⟩ := gok_of hE
  obtain rfl : n = n' := by omega
  have hlen := GL_len9 hG
  have hfb := fac7 n hG.n7
  have HOR := hid (fun (B0 : Nat) (v : Value) (w : World) hv => orbits_ok n B0 v (GL n (msL n ll)) w hv hG.n7 hlen.1 (by omega) (GL_mv hG))
  obtain ⟨a, c, N, rfl, hN, hc1, hc2⟩ := hl.open
  clear hE hl hc2 hlen hG hn'
  generalize orsL n (GL n (msL n ll)) n = O at *
  generalize GL n (msL n ll) = L at *
  go_enter Try.func33, Try.ntmps33
  go_wp2_with fail
  refine HO.out.mono ?_
  rintro e w1 ⟨⟨s, r, rfl, hs, hr⟩, hb1⟩
  obtain ⟨a3, c3, e3⟩ := hs.len
  subst e3
  have H1 := hid (And.intro hr hb1)
  clear hb1 hs hr
  go_wp2_with fail
  refine (HOR.out _ _ _ H1.out.1).mono ?_
  rintro e w2 ⟨⟨q, rfl, hq⟩, hb2⟩
  have H2 := hid (And.intro (hq.mono H1.out.2.size (Nat.le_refl _)) (H1.out.2.trans (hb2.mono H1.out.2.size)))
  clear hb2 hq
  go_wp2
  go_ret2
  exact ⟨⟨_, rfl, H2.out.1⟩, H2.out.2⟩

/-- How many of the first points stay; how many do so often. -/
def fixN (x : Nat → Nat) (k : Nat) : Nat := ((List.range k).filter fun i => x i == i).length
theorem fixN_succ (x : Nat → Nat) (k : Nat) : fixN x (k + 1) = fixN x k + if x k = k then 1 else 0 := by
  unfold fixN
  rw [List.range_succ, List.filter_append, List.length_append]
  by_cases h : x k = k <;> simp [h]
theorem fixN_le (x : Nat → Nat) (k : Nat) : fixN x k ≤ k := Nat.le_trans (List.length_filter_le _ _) (by simp)
def fixL (n : Nat) (L : List (Nat → Nat)) (k : Nat) : List Int := (List.range (n + 1)).map fun c => ((((L.take k).filter fun x => fixN x n == c).length : Nat) : Int)
theorem fixL_len (n : Nat) (L : List (Nat → Nat)) (k : Nat) : (fixL n L k).length = n + 1 := by simp [fixL]
theorem fixL_zero (n : Nat) (L : List (Nat → Nat)) : fixL n L 0 = List.replicate (n + 1) 0 := by
  refine List.ext_getElem (by simp [fixL]) fun i h1 h2 => by simp [fixL]
theorem fixL_get {n c : Nat} (L : List (Nat → Nat)) (k : Nat) (h : c < n + 1) : (fixL n L k).getD c 0 = ((((L.take k).filter fun x => fixN x n == c).length : Nat) : Int) := by simp [fixL, h]
theorem fixL_bd {n c : Nat} (L : List (Nat → Nat)) (k : Nat) (h : c < n + 1) : 0 ≤ (fixL n L k).getD c 0 ∧ (fixL n L k).getD c 0 ≤ k := by
  rw [fixL_get L k h]
  have : ((L.take k).filter fun x => fixN x n == c).length ≤ k := Nat.le_trans (List.length_filter_le _ _) (by rw [List.length_take]; omega)
  omega
theorem fixL_succ {n k : Nat} {L : List (Nat → Nat)} (h : k < L.length) : fixL n L (k + 1) = (fixL n L k).set (fixN (L.getD k id) n) ((fixL n L k).getD (fixN (L.getD k id) n) 0 + 1) := by
  have hf := fixN_le (L.getD k id) n
  refine List.ext_getElem? fun c => ?_
  by_cases hc : c < n + 1
  · by_cases e : fixN (L.getD k id) n = c
    · subst e
      rw [List.getElem?_set_self (by rw [fixL_len]; exact hc), fixL_get L k hc]
      unfold fixL
      rw [List.getElem?_map, List.getElem?_range hc, Option.map_some, List.take_add_one, List.filter_append, List.length_append, List.getElem?_eq_getElem h, List.getD_eq_getElem?_getD, List.getElem?_eq_getElem h]
      simp
    · rw [List.getElem?_set_ne e]
      unfold fixL
      rw [List.getElem?_map, List.getElem?_range hc, Option.map_some, List.getElem?_map, List.getElem?_range hc, Option.map_some, List.take_add_one, List.filter_append, List.length_append, List.getElem?_eq_getElem h]
      rw [List.getD_eq_getElem?_getD, List.getElem?_eq_getElem h, Option.getD_some] at e
      simp [e]
  · rw [List.getElem?_eq_none (by rw [fixL_len]; omega), List.getElem?_eq_none (by rw [List.length_set, fixL_len]; omega)]
theorem Fixed_bad (n : Int) (v : Value) (ll : List (List Int)) (w : World) (hl : RL w v ll) (hE : grpE n ll ≠ 0) :
    Calls Try.prog 32 #[.int .i64 n, v] w fun e w' => e = .returned (.tuple #[.slice none 0 0, .int .i64 (grpE n ll)]) ∧ Below w.heap.size w w' := by
  have HO := hid (gopen_bad n v ll w hl hE)
  obtain ⟨a, c, N, rfl, hN, hc1, hc2⟩ := hl.open
  have hb : (grpE n ll != 0) = true := bne_iff_ne.2 hE
  clear hE hl hc2
  generalize grpE n ll = E at *
  go_enter Try.func32, Try.ntmps32
  go_wp2_with fail
  refine HO.out.mono ?_
  rintro e w1 ⟨rfl, hb1⟩
  have HB := hid hb1
  clear hb1
  go_wp2
  go_ret2
  exact ⟨rfl, HB.out⟩

set_option maxHeartbeats 4000000 in
set_option maxRecDepth 100000 in
theorem Fixed_ok (n : Nat) (v : Value) (ll : List (List Int)) (w : World) (hl : RL w v ll) (hE : grpE (n : Int) ll = 0) :
    Calls Try.prog 32 #[.int .i64 n, v] w fun e w' => (∃ r, e = .returned (.tuple #[r, .int .i64 0]) ∧ OI w.heap.size w' r (fixL n (GL n (msL n ll)) (GL n (msL n ll)).length)) ∧ Below w.heap.size w w' := by
  have HO := hid (gopen_ok n v ll w hl hE)
  obtain ⟨n', hn', hG⟩ := gok_of hE
  obtain rfl : n = n' := by omega
  have hn7 := hG.n7
  have hlen := GL_len9 hG
  have hfb := fac7 n hn7
  obtain ⟨a, c, N, rfl, hN, hc1, hc2⟩ := hl.open
  clear hE hl hc2 hG hn'
  generalize GL n (msL n ll) = L at *
  have HFL := hid (fixL_len n L)
  have HF0 := hid (fixL_zero n L)
  have HFS := hid (fun k (h : k < L.length) => fixL_succ (n := n) (L := L) (k := k) h)
  have HFB := hid (fun k c (h : c < n + 1) => fixL_bd (n := n) (c := c) L k h)
  have HNS := hid (fun (x : Nat → Nat) k => fixN_succ x k)
  have HNL := hid (fun (x : Nat → Nat) k => fixN_le x k)
  have HN0 : Hid (∀ x, fixN x 0 = 0) := hid (fun x => rfl)
  generalize fixL n L = FX at *
  generalize fixN = FN at *
  obtain ⟨M, hM⟩ : ∃ M, L.length = M := ⟨_, rfl⟩
  have HM := hid hM
  rw [hM] at hlen HFS ⊢
  clear hM
  go_enter Try.func32, Try.ntmps32
  go_wp2_with fail
  refine HO.out.mono ?_
  rintro e w1 ⟨⟨s, r, rfl, hs, hr⟩, hb1⟩
  obtain ⟨a3, c3, e3⟩ := hs.len
  subst e3
  obtain ⟨og, oc, er, _, hog⟩ := hr.form (by rw [HM.out]; omega)
  rw [HM.out] at er
  subst er
  have H1 := hid (And.intro hr hb1)
  have hs1 := hb1.size
  clear hb1 hs hr HO
  go_wp2_with (at_make; refine wpList_mk (w := w1) _ _ 23 3 (.int .i64 0) 8 rfl rfl Try.underlying23 Try.info3 rfl (by decide) w.heap.size _ (n + 1) rfl rfl (by omega) (by omega) hs1 ?_; intro w6 hs6 hgr6 hz6)
  have hoi : OI w.heap.size w6 (.slice (some ⟨w1.heap.size, 0, none⟩) (n + 1) (n + 1)) (FX 0) := by
    rw [HF0.out]
    unfold OI
    rw [List.map_replicate]
    exact hs6
  have hb6 : Below w1.heap.size w1 w6 := (Below.refl _ _).grown hgr6 (Nat.le_refl _) (fun k h => by cases h)
  have H6 := hid (And.intro hoi (And.intro (H1.out.1.below hb6) (H1.out.2.trans (hb6.mono hs1))))
  clear hs6 hgr6 hoi hb6 H1
  go_loopw [11, 12, 13, 29] (fun _ _ _ i wr => ∃ k : Nat, i = .int .i64 k ∧ k ≤ M ∧ OI w.heap.size wr (.slice (some ⟨w1.heap.size, 0, none⟩) (n + 1) (n + 1)) (FX k) ∧ OM w.heap.size wr (.slice (some ⟨og, 0, none⟩) M oc) L ∧ Below w.heap.size w wr ∧ w1.heap.size < wr.heap.size) (fun _ _ _ i _ => M - (intOf i).toNat)
  case atStart => exact ⟨0, rfl, Nat.zero_le _, H6.out.1, H6.out.2.1, H6.out.2.2, hz6⟩
  case round =>
    clear H6 hz6
    obtain ⟨k, rfl, hk, ho, hr, hb, hsz⟩ := hrel
    obtain ⟨W0, hW0⟩ : ∃ W0, W0 = wr := ⟨_, rfl⟩
    subst hW0
    by_cases hlt : k < M
    · have hki : (k : Int) < (M : Int) := by omega
      obtain ⟨x, hx⟩ : ∃ x, L.getD k id = x := ⟨_, rfl⟩
      have hrx := hr.range (i := k) (by rw [HM.out]; exact hlt)
      have hfs := HFS.out k hlt
      rw [hx] at hrx hfs
      have HFSk := hid hfs
      have ix : (Try.prog.info? 68).map (·.size) = some (mvC x).length := by rw [mvC_len]; exact mv_info
      have HAZ := hid (Arr.new W0 68 (mvC fun _ => 0))
      have HI := hid (And.intro ho (And.intro hr hb))
      clear ho hr hb hx hfs
      go_wp2_with (first
        | (refine wpList_load_mid rfl 68 _ rfl og (k * 7) rfl (mvC x) _ hrx Try.underlying68 rfl ix ?_; clear hrx)
        | (refine wpList_store_arr rfl 68 _ _ rfl W0.heap.size (mvC x) rfl rfl HAZ.out (by rw [mvC_len, mvC_len]) ix (mvC_one _) ?_
           intro w5 hA5 hg5
           have hB5 : Below W0.heap.size W0 w5 := ((Below.refl _ _).alloc (Nat.le_refl _) _).grown hg5 (by simp) (fun b e => by cases e; exact Nat.le_refl _)
           have H5 := hid (And.intro hA5 (And.intro (HI.out.1.below hB5) (And.intro (HI.out.2.1.below hB5) (And.intro (HI.out.2.2.trans (hB5.mono HI.out.2.2.size)) (Nat.lt_of_lt_of_le hsz hB5.size)))))
           clear hA5 hg5 hB5)
        | fail)
      go_loopw [12, 13, 34] (fun cnt _ j wr => ∃ t : Nat, j = .int .i64 t ∧ t ≤ n ∧ cnt = .int .i64 (FN x t : Nat) ∧ wr = w5) (fun _ _ j _ => n - (intOf j).toNat)
      case atStart => exact ⟨0, rfl, Nat.zero_le _, by rw [HN0.out]; rfl, rfl⟩
      case round =>
        obtain ⟨t, rfl, ht, rfl, hw⟩ := hrel
        subst hw
        have hnl := HNL.out x t
        by_cases htl : t < n
        · have hti : (t : Int) < (n : Int) := by omega
          have ht7 : t < 7 := by omega
          have hc5 := H5.out.1.cell t
          rw [mvC_get ht7] at hc5
          have hns := HNS.out x t
          by_cases he : x t = t
          · rw [he] at hc5
            have HNk : Hid (FN x (t + 1) = FN x t + 1) := hid (by rw [hns, if_pos he])
            clear hns he
            go_wp2
            go_roundw
            case rel => exact ⟨t + 1, by go_num, by omega, by rw [HNk.out]; go_num, trivial⟩
            case measure => simp [intOf] <;> omega
          · have HNk : Hid (FN x (t + 1) = FN x t) := hid (by rw [hns, if_neg he, Nat.add_zero])
            have hbe : (((x t : Nat) : Int) == ((t : Nat) : Int)) = false := beq_eq_false_iff_ne.2 (by omega)
            clear hns he
            generalize x t = xt at *
            go_wp2
            go_roundw
            case rel => exact ⟨t + 1, by go_num, by omega, by rw [HNk.out], trivial⟩
            case measure => simp [intOf] <;> omega
        · obtain rfl : t = n := by omega
          have hti : ¬ (t : Int) < (t : Int) := by omega
          have hfb2 := HFB.out k (FN x t) (by omega)
          have hcell := H5.out.2.1.cell (FN x t) (by rw [HFL.out]; omega)
          have hfz := H5.out.2.1.frozen (FN x t)
          have hci : ((FN x t : Nat) : Int) < ((t + 1 : Nat) : Int) := by omega
          obtain ⟨hs7, hg7⟩ := H5.out.2.1.stored (FN x t) ((FX k).getD (FN x t) 0 + 1)
          rw [← HFSk.out] at hs7
          have HX := hid (And.intro hs7 (And.intro (H5.out.2.2.1.kept hg7 (.inr (by simp [Value.ownBlock]; omega))) (And.intro (H5.out.2.2.2.1.grown hg7 H5.out.2.2.2.1.size (fun b e => by cases e; exact hs1)) (Nat.lt_of_lt_of_le H5.out.2.2.2.2 hg7.size))))
          clear hs7 hg7
          generalize (FX k).getD (FN x t) 0 = fv at *
          go_wp2
          go_roundw
          case rel => exact ⟨k + 1, by go_num, by omega, HX.out.1, HX.out.2.1, HX.out.2.2.1, HX.out.2.2.2⟩
          case measure => simp [intOf] <;> omega
    · obtain rfl : k = M := by omega
      have hki : ¬ (k : Int) < (k : Int) := by omega
      have HI := hid (And.intro ho hb)
      clear ho hb hr
      go_wp2
      go_ret2
      exact ⟨⟨_, rfl, HI.out.1⟩, HI.out.2⟩
end Go.Proofs.Ytnbgnoimanpjnaa
