/-
  The walks over round.Circle and parterreref4.CircleOf. No condition.
-/
import Derived.Test.YtlcndccjlbahpaaRarnd
import Derived.Test.YtlcndccjlbahpaaRperf
namespace Go.Proofs.Ytlcndccjlbahpaa
set_option linter.unusedVariables false
open Go.RowKit

/-- The pairs of a circle of n. -/
def ciP (n k : Nat) : List (Nat × Nat) := (List.range k).map fun i => (i + 1, n - 1 - (i + 1))
def ciL (n : Nat) : List (List Int) := arR (n - 1) (ciP n (n / 2 - 1)) (n - 1)
theorem ciP_succ (n k : Nat) : ciP n (k + 1) = ciP n k ++ [(k + 1, n - 1 - (k + 1))] := by simp [ciP, List.range_succ]
theorem ciP_len (n k : Nat) : (ciP n k).length = k := by simp [ciP]
theorem ciP_lt {n k : Nat} (h : k + 1 ≤ n / 2) : ∀ p ∈ ciP n k, p.1 < n - 1 ∧ p.2 < n - 1 := by
  intro p hp
  simp only [ciP, List.mem_map, List.mem_range] at hp
  obtain ⟨i, hi, rfl⟩ := hp
  simp only
  omega

set_option maxHeartbeats 1000000 in
set_option maxRecDepth 100000 in
theorem Circle_bad (n : Int) (w : World) (h : tmB n = false) :
    Calls Try.prog 8 #[.int .i64 n] w fun e w' => e = .returned (.tuple #[.slice none 0 0, .int .i64 1]) ∧ w = w' := by
  have HT := hid (teams_any n w)
  rw [h] at HT
  clear h
  go_enter Try.func8, Try.ntmps8
  go_wp2_with fail
  refine HT.out.mono ?_
  rintro e w1 ⟨rfl, rfl⟩
  go_wp2
  go_ret2
  exact ⟨rfl, rfl⟩

set_option maxHeartbeats 1000000 in
set_option maxRecDepth 100000 in
theorem Circle_ok (n : Nat) (w : World) (h : tmB n = true) :
    Calls Try.prog 8 #[.int .i64 n] w fun e w' => (∃ u, e = .returned (.tuple #[u, .int .i64 0]) ∧ OL w.heap.size w'.heap.size w' u (ciL n)) ∧ Below w.heap.size w w' := by
  have HT := hid (teams_any n w)
  rw [h] at HT
  obtain ⟨m, hm, h2, h16, hev⟩ := tm_of h
  obtain rfl : n = m := by omega
  clear h hm
  have hdv : (n : Int).tdiv 2 = ((n / 2 : Nat) : Int) := (Int.ofNat_tdiv n 2).symm
  have HS := hid (ciP_succ n)
  have HLN := hid (ciP_len n)
  have HRO := hid (fun (u : Value) (w1 : World) (hl : PR w1 u (ciP n (n / 2 - 1))) => rounds_ok (n - 1) u (ciP n (n / 2 - 1)) w1 (by omega) (by omega) hl (ciP_lt (by omega)))
  have HCI : Hid (arR (n - 1) (ciP n (n / 2 - 1)) (n - 1) = ciL n) := hid rfl
  obtain ⟨h, hh⟩ : ∃ h, h = n / 2 := ⟨_, rfl⟩
  have hn2 : n = 2 * h := by omega
  have HN2 := hid hn2
  have hh1 : 1 ≤ h := by omega
  have hh8 : h ≤ 8 := by omega
  have hcs : ((n - 1 : Nat) : Int) = (n : Int) - 1 := by omega
  have HCS := hid hcs
  rw [← hh] at hdv HRO HCI
  clear hh hcs hn2
  generalize ciL n = CL at *
  go_enter Try.func8, Try.ntmps8
  go_wp2_with fail
  refine HT.out.mono ?_
  rintro e w1 ⟨rfl, rfl⟩
  go_wp2
  go_loopw [4, 5] (fun s i wr => ∃ k : Nat, k + 1 ≤ h ∧ i = .int .i64 ((k : Int) + 1) ∧ OP w.heap.size wr s (ciP n k) ∧ Below w.heap.size w wr) (fun _ i _ => h - (intOf i).toNat)
  case atStart => exact ⟨0, by omega, rfl, OP.nil _ _, Below.refl _ _⟩
  case round =>
    obtain ⟨k, hk, rfl, ho, hb⟩ := hrel
    by_cases hlt : k + 1 < h
    · have hci : (k : Int) + 1 < (h : Int) := by omega
      have hln : (ciP n k).length ≤ 1000000000000 := by rw [HLN.out]; omega
      have hB : w.heap.size ≤ wr.heap.size := hb.size
      have HB := hid hb
      have hc2 : ((n - 1 - (k + 1) : Nat) : Int) = (n : Int) - 1 - ((k : Int) + 1) := by have := HN2.out; omega
      have HC2 := hid hc2
      clear hb hc2
      go_wp2_with (at_builtin; refine wpList_appp (k + 1, n - 1 - (k + 1)) wr _ _ 39 rfl rfl Try.underlying39 Try.info40 w.heap.size _ _ rfl ho rfl hln hB ?_ (hc1 := by rw [HC2.out]; exact pl1 _ _ _ _) (hc0 := pl0 _ _ _ _); intro g3 c3 w4 hown1 hg1 hg2 hg3)
      have HX := hid (And.intro hown1 (HB.out.grown hg1 hB (fun b e => (ho.lt b e).1)))
      clear hown1 hg1 hg2 hg3 ho
      go_roundw
      case rel => exact ⟨k + 1, by omega, by go_num, by rw [HS.out]; exact HX.out.1, HX.out.2⟩
      case measure => simp [intOf] <;> omega
    · obtain rfl : h = k + 1 := by omega
      have hci : ¬ ((k : Int) + 1 < ((k + 1 : Nat) : Int)) := by omega
      have HC := hid (HRO.out u4 wr (ho.pr (by rw [HLN.out]; omega)))
      rw [HCS.out] at HC
      have HB := hid hb
      clear ho hb
      go_wp2_with fail
      refine HC.out.mono ?_
      rintro e w2 ⟨⟨u2, rfl, hu2⟩, hb2⟩
      rw [HCI.out] at hu2
      have HX := hid (And.intro (hu2.mono HB.out.size (Nat.le_refl _)) (HB.out.trans (hb2.mono HB.out.size)))
      clear hu2 hb2
      go_wp2
      go_ret2
      exact ⟨⟨_, rfl, HX.out.1⟩, HX.out.2⟩

def cfE (v r a : Nat) : Nat := if (2 * r + 2 * v - a) % v = a then v else (2 * r + 2 * v - a) % v
def cfL (v r k : Nat) : List Int := (List.range k).map fun a => (cfE v r a : Int)
def cfA (v k : Nat) : List (List Int) := (List.range k).map fun r => cfL v r v ++ [(r : Int)]
theorem cfL_succ (v r k : Nat) : cfL v r (k + 1) = cfL v r k ++ [(cfE v r k : Int)] := by simp [cfL, List.range_succ]
theorem cfA_succ (v k : Nat) : cfA v (k + 1) = cfA v k ++ [cfL v k v ++ [(k : Int)]] := by simp [cfA, List.range_succ]
theorem cf_mod {v r a : Nat} (h : a < v) : (2 * (r : Int) - (a : Int) + 2 * (v : Int)).tmod (v : Int) = (((2 * r + 2 * v - a) % v : Nat) : Int) := by
  rw [show (2 * (r : Int) - (a : Int) + 2 * (v : Int)) = ((2 * r + 2 * v - a : Nat) : Int) by omega, Int.ofNat_tmod]

set_option maxHeartbeats 1000000 in
set_option maxRecDepth 100000 in
theorem CircleOf_bad (n : Int) (hn : I64 n) (w : World) (h : tmB n = false) :
    Calls Try.prog 9 #[.int .i64 n] w fun e w' => e = .returned (.tuple #[.slice none 0 0, .int .i64 1]) ∧ w = w' := by
  have hq : ¬ (2 ≤ n ∧ n ≤ 16 ∧ n.tmod 2 = 0) := by
    intro ⟨h1, h2, h3⟩
    unfold tmB at h
    rw [decide_eq_false_iff_not] at h
    rw [Int.tmod_eq_emod_of_nonneg (by omega)] at h3
    omega
  clear h
  unfold I64 at hn
  by_cases h1 : n < 2
  · clear hq
    go_enter Try.func9, Try.ntmps9
    go_wp2
    go_ret2
    exact ⟨rfl, rfl⟩
  · by_cases h2 : 16 < n
    · clear hq
      go_enter Try.func9, Try.ntmps9
      go_wp2
      go_ret2
      exact ⟨rfl, rfl⟩
    · have h3 : n.tmod 2 = 1 := by
        rw [Int.tmod_eq_emod_of_nonneg (by omega)] at hq ⊢
        omega
      clear hq
      go_enter Try.func9, Try.ntmps9
      go_wp2
      go_ret2
      exact ⟨rfl, rfl⟩

set_option maxHeartbeats 1000000 in
set_option maxRecDepth 100000 in
theorem CircleOf_ok (n : Nat) (w : World) (h : tmB n = true) :
    Calls Try.prog 9 #[.int .i64 n] w fun e w' => (∃ u, e = .returned (.tuple #[u, .int .i64 0]) ∧ OL w.heap.size w'.heap.size w' u (cfA (n - 1) (n - 1))) ∧ Below w.heap.size w w' := by
  obtain ⟨m, hm, h2, h16, hev⟩ := tm_of h
  obtain rfl : n = m := by omega
  clear h hm
  have hmd : (n : Int).tmod 2 = 0 := by rw [Int.tmod_eq_emod_of_nonneg (by omega)]; omega
  obtain ⟨v, hv⟩ : ∃ v, v = n - 1 := ⟨_, rfl⟩
  have hnv : (n : Int) - 1 = (v : Int) := by omega
  have hv0 : 0 < v := by omega
  have hv16 : v ≤ 15 := by omega
  rw [← hv]
  have HS := hid (cfA_succ v)
  have HLS := hid (cfL_succ v)
  have HMOD := hid (fun r a h => cf_mod (v := v) (r := r) (a := a) h)
  have HE : Hid (∀ r a, cfE v r a = if (2 * r + 2 * v - a) % v = a then v else (2 * r + 2 * v - a) % v) := hid fun r a => rfl
  have HLL : Hid (∀ r k, (cfL v r k).length = k) := hid (fun r k => by simp [cfL])
  have HLA : Hid (∀ k, (cfA v k).length = k) := hid (fun k => by simp [cfA])
  have HL0 : Hid (∀ r, cfL v r 0 = []) := hid (fun r => rfl)
  have HA0 : Hid (cfA v 0 = []) := hid rfl
  clear hv hev
  go_enter Try.func9, Try.ntmps9
  go_wp2
  go_loopw [5, 6, 7, 8, 9] (fun s i _ _ _ wr => ∃ r : Nat, r ≤ v ∧ i = .int .i64 r ∧ OL w.heap.size wr.heap.size wr s (cfA v r) ∧ Below w.heap.size w wr) (fun _ i _ _ _ _ => v - (intOf i).toNat)
  case atStart => exact ⟨0, Nat.zero_le _, rfl, by rw [HA0.out]; exact OL.nil _ _ _, Below.refl _ _⟩
  case round =>
    obtain ⟨r, hr, rfl, ho, hb⟩ := hrel
    by_cases hrv : r < v
    · have HO := hid (And.intro ho hb)
      have hsz := hb.size
      clear ho hb
      go_wp2
      go_loopw [7, 8, 9] (fun s i _ wq => ∃ a : Nat, a ≤ v ∧ i = .int .i64 a ∧ OI wr.heap.size wq s (cfL v r a) ∧ Below wr.heap.size wr wq) (fun _ i _ _ => v - (intOf i).toNat)
      case atStart => exact ⟨0, Nat.zero_le _, rfl, by rw [HL0.out]; exact Ow.nil _ _ _, Below.refl _ _⟩
      case round =>
        obtain ⟨a, ha, rfl, hoi, hbi⟩ := hrel
        by_cases hav : a < v
        · have hmo := HMOD.out r a hav
          have hlen : (cfL v r a).length ≤ 1000000000000 := by rw [HLL.out]; omega
          have hEE := HE.out r a
          have hb2 : (2 * r + 2 * v - a) % v < v := Nat.mod_lt _ hv0
          have hszi := hbi.size
          have HBI := hid hbi
          clear hbi
          by_cases he : (2 * r + 2 * v - a) % v = a
          · rw [if_pos he] at hEE
            rw [he] at hmo
            have HNX := hid (HLS.out r a)
            rw [hEE] at HNX
            clear he hEE hb2
            go_wp2_with (at_builtin; refine wpList_appi wr _ _ 38 rfl rfl Try.underlying38 Try.info3 _ _ _ rfl hoi rfl hlen hszi ?_; intro g3 c3 w4 hown1 hgr1 hgr2 hgr3)
            have HX := hid (And.intro (hown1.cast HNX.out.symm) (hoi.grown HBI.out hgr1 hszi))
            clear hown1 hgr1 hgr2 hgr3 hoi
            go_roundw
            case rel => exact ⟨a + 1, by omega, by go_num, HX.out.1, HX.out.2⟩
            case measure => simp [intOf] <;> omega
          · rw [if_neg he] at hEE
            have HNX := hid (HLS.out r a)
            rw [hEE] at HNX
            clear hEE
            generalize (2 * r + 2 * v - a) % v = b at *
            have hq : ((b : Int) == (a : Int)) = false := by rw [beq_eq_false_iff_ne]; omega
            clear he
            go_wp2_with (at_builtin; refine wpList_appi wr _ _ 38 rfl rfl Try.underlying38 Try.info3 _ _ _ rfl hoi rfl hlen hszi ?_; intro g3 c3 w4 hown1 hgr1 hgr2 hgr3)
            have HX := hid (And.intro (hown1.cast HNX.out.symm) (hoi.grown HBI.out hgr1 hszi))
            clear hown1 hgr1 hgr2 hgr3 hoi
            go_roundw
            case rel => exact ⟨a + 1, by omega, by go_num, HX.out.1, HX.out.2⟩
            case measure => simp [intOf] <;> omega
        · obtain rfl : a = v := by omega
          have hszi := hbi.size
          have hlen : (cfL a r a).length ≤ 1000000000000 := by rw [HLL.out]; omega
          have ho2 := HO.out.1.below hbi
          have HB2 := hid (HO.out.2.trans (hbi.mono hsz))
          have HBI := hid hbi
          have HNX := hid (HS.out r)
          have HW1 := hid hsz
          have HLEN2 := hid (HLA.out r)
          clear hbi HO
          generalize cfA a r = LA at *
          generalize cfL a r a = LL at *
          have HO2 := hid ho2
          clear ho2
          go_wp2_with (first | ((at_builtin; refine wpList_appi wr _ _ 38 rfl rfl Try.underlying38 Try.info3 _ _ _ rfl hoi rfl hlen hszi ?_; intro g3 c3 w4 hown1 hgr1 hgr2 hgr3; have hol3 := HO2.out.kept hgr1 (fun k hk => .inr (hoi.lt k hk).1); have HQ := hid hown1; have hbz : w.heap.size ≤ wr.heap.size := HB2.out.size; have HB4 := hid (HB2.out.grown hgr1 HB2.out.size (fun k hk => Nat.le_trans HW1.out (hoi.lt k hk).1)); have hB : w.heap.size ≤ w4.heap.size := Nat.le_trans hbz hgr1.size; clear hown1 hgr2 hoi hgr1; obtain ⟨vs, o1, o2, o3, o4⟩ := hol3; have hvs : vs.length ≤ 1000000000000 := (by rw [o3, HLEN2.out]; omega); have HP2 := hid o2; have HP3 := hid o3; have HP4 := hid o4; clear o2 o3 o4)) | ((at_builtin; refine wpList_app w4 _ _ 22 38 (.slice none 0 0) 24 rfl rfl Try.underlying22 Try.info38 rfl (by decide) w.heap.size _ vs rfl o1 rfl rfl hvs hB ?_; intro g4 c4 w5 hown1 hg1 hg2 hg3)))
          have hol2 := OL.snoc o1 HP2.out HP3.out HP4.out HQ.out HW1.out hown1 hg1
          have HEND := hid (And.intro hol2 (HB4.out.grown hg1 hB (fun b e => (o1.lt b e).1)))
          clear hol2 hown1 hg1 hg2 hg3 o1
          go_roundw
          case rel => exact ⟨r + 1, by omega, by go_num, by rw [HNX.out]; exact HEND.out.1, HEND.out.2⟩
          case measure => simp [intOf] <;> omega
    · obtain rfl : r = v := by omega
      have HX := hid (And.intro ho hb)
      clear ho hb
      go_wp2
      go_ret2
      exact ⟨⟨_, rfl, HX.out.1⟩, HX.out.2⟩
end Go.Proofs.Ytlcndccjlbahpaa
