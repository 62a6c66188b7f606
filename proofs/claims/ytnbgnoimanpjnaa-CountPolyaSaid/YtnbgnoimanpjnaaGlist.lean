/-
  The walk over parterreref1.ListOf. Conditions: the slice of what is in can be read; n <= 7.
-/
import Derived.Test.YtnbgnoimanpjnaaGmem
namespace Go.Proofs.Ytnbgnoimanpjnaa
set_option linter.unusedVariables false
open Go.RowKit

/-- Those of the first k ranks that are in. -/
def selL (n : Nat) (bs : List Bool) (k : Nat) : List (List Int) := ((List.range k).filter fun i => bs.getD i false).map fun i => elL n (unF n i)
theorem sel_yes {n : Nat} {bs : List Bool} {k : Nat} (h : bs.getD k false = true) : selL n bs (k + 1) = selL n bs k ++ [elL n (unF n k)] := by
  unfold selL
  rw [List.range_succ, List.filter_append, List.map_append]
  simp only [List.filter_cons, h, if_true, List.filter_nil, List.map_cons, List.map_nil]
theorem sel_no {n : Nat} {bs : List Bool} {k : Nat} (h : bs.getD k false = false) : selL n bs (k + 1) = selL n bs k := by
  unfold selL
  rw [List.range_succ, List.filter_append, List.map_append]
  simp only [List.filter_cons, h, List.filter_nil, List.map_nil, Bool.false_eq_true, if_false, List.append_nil]
theorem sel_len (n : Nat) (bs : List Bool) (k : Nat) : (selL n bs k).length ≤ k := by
  unfold selL
  rw [List.length_map]
  exact Nat.le_trans (List.length_filter_le _ _) (by simp)
open Classical in
theorem sel_GL (n : Nat) (ms : List (Nat → Nat)) : selL n (memB n ms) (fac n) = (GL n ms).map (elL n) := by
  unfold selL GL
  rw [List.map_map]
  congr 1
  refine List.filter_congr fun k hk => ?_
  have := List.mem_range.1 hk
  simp [memB, this]
theorem elL_un {n k : Nat} (hk : k < fac n) : intsL (outL n k n) = elL n (unF n k) := by
  rw [out_un hk n (Nat.le_refl _)]
  unfold intsL elL
  rw [List.map_map]
  rfl

theorem ofrank_in (n k : Nat) (w : World) (hn : n ≤ 7) (hk : k < fac n) :
    Calls Try.prog 56 #[.int .i64 n, .int .i64 k] w fun e w' => (∃ u, e = .returned (.tuple #[u, .int .i64 0]) ∧ OI w.heap.size w' u (elL n (unF n k))) ∧ Below w.heap.size w w' := by
  refine (OfRank_ok n (k : Int) w (by omega)).mono ?_
  rintro e w' ⟨h | h, hb⟩
  · exfalso
    have := h.1
    omega
  · obtain ⟨_, u, rfl, hu⟩ := h
    rw [Int.toNat_natCast, elL_un hk] at hu
    exact ⟨⟨u, rfl, hu⟩, hb⟩

set_option maxHeartbeats 1000000 in
set_option maxRecDepth 10000 in
theorem listof_ok (n : Nat) (v : Value) (bs : List Bool) (w : World) (hv : Rd w v (bs.map Value.bool)) (hn : n ≤ 7) (hlen : bs.length = fac n) :
    Calls Try.prog 20 #[.int .i64 n, v] w fun e w' => (∃ r, e = .returned r ∧ OL w.heap.size w'.heap.size w' r (selL n bs (fac n))) ∧ Below w.heap.size w w' := by
  have HOF := hid (fun (k : Nat) (hk : k < fac n) (w1 : World) => ofrank_in n k w1 hn hk)
  have HRD := hid (fun w1 (hb : Below w.heap.size w w1) => hv.below hb)
  obtain ⟨a, c, rfl, hc1, hc2⟩ := hv
  have hfb := fac_bd n (by omega)
  have HY := hid (fun k (h : bs.getD k false = true) => sel_yes (n := n) (bs := bs) (k := k) h)
  have HNO := hid (fun k (h : bs.getD k false = false) => sel_no (n := n) (bs := bs) (k := k) h)
  have HSL := hid (sel_len n bs)
  have HS0 : Hid (selL n bs 0 = []) := hid rfl
  have hc2' := hc2
  rw [List.length_map, hlen] at hc2 hc1 ⊢
  have HC2 : Hid (0 < fac n → ∃ b off, a = some ⟨b, off, none⟩ ∧ b < w.heap.size ∧ ∀ i, i < fac n → w.cell? ⟨b, off + i, none⟩ = some (.bool (bs.getD i false))) := hid (fun h => by
    obtain ⟨b, off, e, hlt, hc⟩ := hc2 h
    refine ⟨b, off, e, hlt, fun i hi => ?_⟩
    rw [hc i hi]
    simp [show i < bs.length by omega])
  have HEL := hid (fun k => elL_len n (unF n k))
  clear hc2 hlen hc2' HRD
  obtain ⟨F, hF⟩ : ∃ F, fac n = F := ⟨_, rfl⟩
  rw [hF] at HOF HC2 hfb hc1 ⊢
  clear hF
  generalize selL n bs = S at *
  go_enter Try.func20, Try.ntmps20
  go_wp2_with fail
  go_loopw [5, 6, 7, 8] (fun v5 v6 _ _ wr => ∃ k : Nat, k ≤ F ∧ v6 = .int .i64 k ∧ OL w.heap.size wr.heap.size wr v5 (S k) ∧ Below w.heap.size w wr) (fun _ v6 _ _ _ => F - (intOf v6).toNat)
  case atStart => exact ⟨0, Nat.zero_le _, rfl, by rw [HS0.out]; exact OL.nil _ _ _, Below.refl _ _⟩
  case round =>
    obtain ⟨k, hk, rfl, ho, hb⟩ := hrel
    by_cases hlt : k < F
    · have hki : (k : Int) < (F : Int) := by omega
      obtain ⟨b, off, rfl, hblt, hc⟩ := HC2.out (by omega)
      have hcell := (hb.cell (p := ⟨b, off + k, none⟩) hblt).trans (hc k hlt)
      cases hbk : bs.getD k false with
      | false =>
        rw [hbk] at hcell
        have HS := hid (HNO.out k hbk)
        have HI := hid (And.intro ho hb)
        clear ho hb hbk
        go_wp2
        go_roundw
        case rel => exact ⟨k + 1, by omega, by go_num, by rw [HS.out]; exact HI.out.1, HI.out.2⟩
        case measure => simp [intOf] <;> omega
      | true =>
        rw [hbk] at hcell
        have HS := hid (HY.out k hbk)
        have HO := hid (HOF.out k hlt wr)
        have HLN := hid (HEL.out k)
        have hkl := HSL.out k
        have HI := hid (And.intro ho hb)
        clear ho hb hbk
        generalize elL n (unF n k) = el at *
        go_wp2_with fail
        refine HO.out.mono ?_
        rintro e w2 ⟨⟨u, rfl, hu⟩, hb2⟩
        have hol := HI.out.1.below hb2
        have hB2 := HI.out.2.trans (hb2.mono HI.out.2.size)
        obtain ⟨ua, uc, eu⟩ := hu.len
        rw [HLN.out] at eu
        subst eu
        obtain ⟨vs, o1, o2, o3, o4⟩ := hol
        have hvs : vs.length ≤ 1000000000000 := by omega
        have hs2 := hb2.size
        have hs3 : w.heap.size ≤ w2.heap.size := hB2.size
        have HO2 := hid (fun k h => Nat.lt_of_lt_of_le (o2 k h) hs2)
        have HO3 := hid o3
        have HO4 := hid (fun i hi => And.intro (o4 i hi).1 (fun k h => Nat.lt_of_lt_of_le ((o4 i hi).2 k h) hs2))
        have HX := hid (And.intro hu hB2)
        have hs4 := HI.out.2.size
        clear hu hb2 hB2 o2 o3 o4
        go_wp2_with (at_builtin; refine wpList_app w2 _ _ 22 23 (.slice none 0 0) 24 rfl rfl Try.underlying22 Try.info23 rfl (by decide) w.heap.size _ vs rfl o1 rfl rfl hvs hs3 ?_; intro g9 c9 w9 hown1 hg1 hg2 hg3)
        go_roundw
        case rel =>
          have hol2 := OL.snoc o1 HO2.out HO3.out HO4.out HX.out.1 hs4 hown1 hg1
          exact ⟨k + 1, by omega, by go_num, by rw [HS.out]; exact hol2, HX.out.2.grown hg1 HX.out.2.size (fun b e => by have := (o1.lt b e).1; omega)⟩
        case measure => simp [intOf] <;> omega
    · obtain rfl : k = F := by omega
      have hki : ¬ (k : Int) < (k : Int) := by omega
      have HI := hid (And.intro ho hb)
      clear ho hb
      go_wp2
      go_ret
      exact ⟨⟨_, rfl, HI.out.1⟩, HI.out.2⟩
end Go.Proofs.Ytnbgnoimanpjnaa
