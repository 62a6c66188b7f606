/-
  The walk over parterreref1.FixedOf. Conditions: the lists can be read, permutations of n points, n <= 7.
-/
import Derived.Test.YtnbgnoimanpjnaaGfix
import Derived.Test.YtnbgnoimanpjnaaGcof
namespace Go.Proofs.Ytnbgnoimanpjnaa
set_option linter.unusedVariables false
open Go.RowKit

/-- The numbers of one of a list of moves. -/
theorem RL.mvCell {n : Nat} {w : World} {v : Value} {L : List (Nat → Nat)} (h : RL w v (L.map (elL n))) (hn : 0 < n) {i : Nat} (hi : i < L.length) : ∃ g off c b o c', v = .slice (some ⟨g, off, none⟩) L.length c ∧ w.cell? ⟨g, off + i, none⟩ = some (.slice (some ⟨b, o, none⟩) n c') ∧ ∀ q, q < n → w.cell? ⟨b, o + q, none⟩ = some (.int .i64 ((L.getD i id q : Nat) : Int)) := by
  obtain ⟨g, off, c, a, c', rfl, _, h3, h4⟩ := h.mvAt hi
  obtain ⟨a', k', e, _, h5⟩ := h4.out
  rw [elL_len] at e h5
  simp only [Value.slice.injEq] at e
  obtain ⟨rfl, _, rfl⟩ := e
  obtain ⟨b, o, rfl, _, h6⟩ := h5 hn
  refine ⟨g, off, c, b, o, c', rfl, h3, fun q hq => ?_⟩
  rw [h6 q hq, List.getD_eq_getElem?_getD, elL_get hq]

set_option maxHeartbeats 4000000 in
set_option maxRecDepth 100000 in
theorem fixedof_ok (n : Nat) (v : Value) (L : List (Nat → Nat)) (w : World) (hn : n ≤ 7) (hn1 : 1 ≤ n) (hv : RL w v (L.map (elL n))) (hlen : L.length ≤ 1000000) :
    Calls Try.prog 40 #[.int .i64 n, v] w fun e w' => (∃ r, e = .returned r ∧ OI w.heap.size w' r (fixL n L L.length)) ∧ Below w.heap.size w w' := by
  have HV := hid (fun w1 (hb : Below w.heap.size w w1) i (hi : i < L.length) => (hv.below hb).mvCell hn1 hi)
  obtain ⟨va, vc, rfl, hv1, _⟩ := hv
  rw [List.length_map] at hv1 ⊢
  have HFL := hid (fixL_len n L)
  have HF0 := hid (fixL_zero n L)
  have HFS := hid (fun k (h : k < L.length) => fixL_succ (n := n) (L := L) (k := k) h)
  have HFB := hid (fun k c (h : c < n + 1) => fixL_bd (n := n) (c := c) L k h)
  have HNS := hid (fun (x : Nat → Nat) k => fixN_succ x k)
  have HNL := hid (fun (x : Nat → Nat) k => fixN_le x k)
  have HN0 : Hid (∀ x, fixN x 0 = 0) := hid (fun x => rfl)
  generalize fixL n L = FX at *
  generalize fixN = FN at *
  obtain ⟨M, hM⟩ : ∃ M, L.length = M := ⟨_, rfl⟩
  rw [hM] at HV hlen HFS hv1 ⊢
  clear hM
  go_enter Try.func40, Try.ntmps40
  go_wp2_with (at_make; refine wpList_mk (w := w) _ _ 23 3 (.int .i64 0) 8 rfl rfl Try.underlying23 Try.info3 rfl (by decide) w.heap.size _ (n + 1) rfl rfl (by omega) (by omega) (Nat.le_refl _) ?_; intro w6 hs6 hgr6 hz6)
  have hoi : OI w.heap.size w6 (.slice (some ⟨w.heap.size, 0, none⟩) (n + 1) (n + 1)) (FX 0) := by
    rw [HF0.out]
    unfold OI
    rw [List.map_replicate]
    exact hs6
  have hb6 : Below w.heap.size w w6 := (Below.refl _ _).grown hgr6 (Nat.le_refl _) (fun k h => by cases h)
  have H6 := hid (And.intro hoi hb6)
  clear hs6 hgr6 hoi hb6
  go_loopw [6, 7, 8] (fun i _ _ wr => ∃ k : Nat, i = .int .i64 k ∧ k ≤ M ∧ OI w.heap.size wr (.slice (some ⟨w.heap.size, 0, none⟩) (n + 1) (n + 1)) (FX k) ∧ Below w.heap.size w wr ∧ w.heap.size < wr.heap.size) (fun i _ _ _ => M - (intOf i).toNat)
  case atStart => exact ⟨0, rfl, Nat.zero_le _, H6.out.1, H6.out.2, hz6⟩
  case round =>
    clear H6 hz6
    obtain ⟨k, rfl, hk, ho, hb, hsz⟩ := hrel
    obtain ⟨W0, hW0⟩ : ∃ W0, W0 = wr := ⟨_, rfl⟩
    subst hW0
    by_cases hlt : k < M
    · have hki : (k : Int) < (M : Int) := by omega
      obtain ⟨x, hx⟩ : ∃ x, L.getD k id = x := ⟨_, rfl⟩
      obtain ⟨g1, o1, c1, b1, p1, d1, e1, hc1, hc2⟩ := HV.out W0 hb k hlt
      simp only [Value.slice.injEq] at e1
      obtain ⟨rfl, rfl⟩ : va = some ⟨g1, o1, none⟩ ∧ vc = c1 := ⟨e1.1, e1.2.2⟩
      have hfs := HFS.out k hlt
      rw [hx] at hc2 hfs
      have HFSk := hid hfs
      have HC2 := hid hc2
      have HI := hid (And.intro ho hb)
      clear ho hb hx hfs hc2 e1
      go_wp2_with fail
      go_loopw [7, 8] (fun cnt j wr => ∃ t : Nat, j = .int .i64 t ∧ t ≤ n ∧ cnt = .int .i64 (FN x t : Nat) ∧ wr = W0) (fun _ j _ => n - (intOf j).toNat)
      case atStart => exact ⟨0, rfl, Nat.zero_le _, by rw [HN0.out]; rfl, rfl⟩
      case round =>
        obtain ⟨t, rfl, ht, rfl, hw⟩ := hrel
        subst hw
        have hnl := HNL.out x t
        by_cases htl : t < n
        · have hti : (t : Int) < (n : Int) := by omega
          have hc5 := HC2.out t htl
          have hns := HNS.out x t
          by_cases he : x t = t
          · rw [he] at hc5
            have HNk : Hid (FN x (t + 1) = FN x t + 1) := hid (by rw [hns, if_pos he])
            clear hns he
            go_wp2
            go_roundw
            case rel => exact ⟨t + 1, by go_num, by omega, by rw [HNk.out]; go_num, trivial⟩
            case measure => simp [intOf] <;> omega
          · have HNk : Hid (FN x (t + 1) = FN x t) := hid (by rw [hns, if_neg he, Nat.add_zero])
            have hbe : (((x t : Nat) : Int) == ((t : Nat) : Int)) = false := beq_eq_false_iff_ne.2 (by omega)
            clear hns he
            generalize x t = xt at *
            go_wp2
            go_roundw
            case rel => exact ⟨t + 1, by go_num, by omega, by rw [HNk.out], trivial⟩
            case measure => simp [intOf] <;> omega
        · obtain rfl : t = n := by omega
          have hti : ¬ (t : Int) < (t : Int) := by omega
          have hfb2 := HFB.out k (FN x t) (by omega)
          have hcell := HI.out.1.cell (FN x t) (by rw [HFL.out]; omega)
          have hfz := HI.out.1.frozen (FN x t)
          have hci : ((FN x t : Nat) : Int) < ((t : Nat) : Int) + 1 := by omega
          obtain ⟨hs7, hg7⟩ := HI.out.1.stored (FN x t) ((FX k).getD (FN x t) 0 + 1)
          rw [← HFSk.out] at hs7
          have HX := hid (And.intro hs7 (And.intro (HI.out.2.grown hg7 HI.out.2.size (fun b e => by cases e; exact Nat.le_refl _)) (Nat.lt_of_lt_of_le hsz hg7.size)))
          clear hs7 hg7
          generalize (FX k).getD (FN x t) 0 = fv at *
          go_wp2
          go_roundw
          case rel => exact ⟨k + 1, by go_num, by omega, HX.out.1, HX.out.2.1, HX.out.2.2⟩
          case measure => simp [intOf] <;> omega
    · obtain rfl : k = M := by omega
      have hki : ¬ (k : Int) < (k : Int) := by omega
      have HI := hid (And.intro ho hb)
      clear ho hb
      go_wp2
      go_ret
      exact ⟨⟨_, rfl, HI.out.1⟩, HI.out.2⟩
end Go.Proofs.Ytnbgnoimanpjnaa
