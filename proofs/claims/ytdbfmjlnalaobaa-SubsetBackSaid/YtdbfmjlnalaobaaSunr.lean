/-
  The walks over subset.Unrank and parterreref4.UnrankOf. No condition.
-/
import Derived.Test.YtdbfmjlnalaobaaSrank
namespace Go.Proofs.Ytdbfmjlnalaobaa
set_option linter.unusedVariables false
open Go.RowKit

def UB (k r : Int) : Prop := k < 0 ∨ 30 < k ∨ r < 0 ∨ (bin 61 k.toNat : Int) ≤ r
/-- A rank out of bounds; the list. -/
def unbEnd (k r : Int) (w : World) (e : Ending) (w' : World) : Prop :=
  (UB k r ∧ e = .returned (.tuple #[.slice none 0 0, .int .i64 1]) ∨ ¬ UB k r ∧ ∃ u, e = .returned (.tuple #[u, .int .i64 0]) ∧ OI w.heap.size w' u (unbL k.toNat r.toNat k.toNat)) ∧ Below w.heap.size w w'
/-- Where the other one begins to look. -/
def tpS (k r : Nat) : Nat → Int
  | 0 => 60
  | t + 1 => (tpN k r t : Int) - 1
/-- One step. -/
structure StepU (k r t i T : Nat) : Prop where
  lo : bin T i ≤ rrN k r t
  hi : rrN k r t < bin (T + 1) i
  ge : i ≤ T + 1
  le : T ≤ 60
  next : rrN k r (t + 1) = rrN k r t - bin T i
  top : (T : Int) ≤ tpS k r t
  b60 : tpS k r t ≤ 60
theorem step_u {k r t i : Nat} (hr : r < bin 61 k) (hi : i + t = k) (h1 : 1 ≤ i) : StepU k r t i (tpN k r t) := by
  obtain ⟨a, b, c, d, e, f⟩ := rr_lt hr t (by omega)
  have hit : k - t = i := by omega
  rw [hit] at b d e
  refine ⟨b, e, d, c, ?_, ?_, ?_⟩
  · show rrN k r t - bin (tpN k r t) (k - t) = _
    rw [hit]
  · cases t with
    | zero => show (tpN k r 0 : Int) ≤ 60; omega
    | succ t =>
      have := tp_lt hr (t := t) (by omega)
      show (tpN k r (t + 1) : Int) ≤ (tpN k r t : Int) - 1
      omega
  · cases t with
    | zero => show (60 : Int) ≤ 60; omega
    | succ t =>
      have := (rr_lt hr t (by omega)).2.2.1
      show (tpN k r t : Int) - 1 ≤ 60
      omega
theorem ways_all (n k : Nat) (w : World) (hn : n ≤ 61) : Calls Try.prog 35 #[.int .i64 n, .int .i64 k] w fun e w' => e = .returned (.int .i64 (bin n k : Nat)) ∧ Below w.heap.size w w' := by
  by_cases h : k ≤ n
  · exact Ways_ok n k w hn h
  · rw [bin_none n k (by omega)]
    exact Ways_none n k w (.inr (by omega))
theorem unb_made {B K : Nat} {w : World} {g : Nat} (h : Ow 3 B w (.slice (some ⟨g, 0, none⟩) K K) (List.replicate K (.int .i64 0))) : OI B w (.slice (some ⟨g, 0, none⟩) K K) (List.replicate K 0) := by
  unfold OI
  rw [List.map_replicate]
  exact h

set_option maxHeartbeats 2000000 in
set_option maxRecDepth 100000 in
theorem Unrank_any (k r : Int) (w : World) (ik : I64 k) (ir : I64 r) :
    Calls Try.prog 23 #[.int .i64 k, .int .i64 r] w (unbEnd k r w) := by
  have HG1 : Hid (∀ e w', UB k r → e = .returned (.tuple #[.slice none 0 0, .int .i64 1]) → Below w.heap.size w w' → unbEnd k r w e w') := hid (fun e w' h1 h2 h3 => ⟨.inl ⟨h1, h2⟩, h3⟩)
  have HG2 : Hid (∀ u w', ¬ UB k r → OI w.heap.size w' u (unbL k.toNat r.toNat k.toNat) → Below w.heap.size w w' → unbEnd k r w (.returned (.tuple #[u, .int .i64 0])) w') := hid (fun u w' h1 h2 h3 => ⟨.inr ⟨h1, u, rfl, h2⟩, h3⟩)
  have HUB : Hid (UB k r ↔ (k < 0 ∨ 30 < k ∨ r < 0 ∨ (bin 61 k.toNat : Int) ≤ r)) := hid Iff.rfl
  have HST := hid (fun (h : ¬ UB k r) (t i : Nat) (hi : i + t = k.toNat) (h1 : 1 ≤ i) => step_u (k := k.toNat) (r := r.toNat) (show r.toNat < bin 61 k.toNat by unfold UB at h; omega) hi h1)
  have HW := hid (fun (n k : Nat) (w : World) (hn : n ≤ 61) (hk : k ≤ 30) => ways_ok n k w hn hk)
  have HMO := hid (fun (a b k : Nat) (h : a ≤ b) => bin_mono h k)
  have HBB := hid (fun (n k : Nat) (h : n ≤ 61) => bin61 n k h)
  have HR0 : Hid (rrN k.toNat r.toNat 0 = r.toNat) := hid rfl
  have HUZ := hid (unb_zero k.toNat r.toNat)
  have HUS := hid (fun t h => unb_succ (k := k.toNat) (r := r.toNat) (t := t) h)
  have HUL := hid (unb_len k.toNat r.toNat)
  generalize unbEnd k r w = G at *
  generalize UB k r = PP at *
  by_cases hk0 : k < 0
  · have HE := hid (HUB.out.2 (.inl hk0))
    go_enter Try.func23, Try.ntmps23
    go_wp2
    exact HG1.out _ _ HE.out rfl (Below.refl _ _)
  by_cases hk1 : 30 < k
  · have HE := hid (HUB.out.2 (.inr (.inl hk1)))
    go_enter Try.func23, Try.ntmps23
    go_wp2
    exact HG1.out _ _ HE.out rfl (Below.refl _ _)
  by_cases hr0 : r < 0
  · have HE := hid (HUB.out.2 (.inr (.inr (.inl hr0))))
    go_enter Try.func23, Try.ntmps23
    go_wp2
    exact HG1.out _ _ HE.out rfl (Below.refl _ _)
  obtain ⟨K, rfl⟩ : ∃ K : Nat, k = (K : Int) := ⟨k.toNat, by omega⟩
  obtain ⟨rn, rfl⟩ : ∃ rn : Nat, r = (rn : Int) := ⟨r.toNat, by omega⟩
  rw [Int.toNat_natCast] at HG2 HUB HST HR0 HUZ HUS HUL
  rw [Int.toNat_natCast] at HG2 HST HR0 HUZ HUS HUL
  have H61 := hid (HW.out 61 K w (by omega) (by omega))
  have hb61 := HBB.out 61 K (by omega)
  by_cases hr1 : (bin 61 K : Int) ≤ (rn : Int)
  · have HE := hid (HUB.out.2 (.inr (.inr (.inr hr1))))
    generalize bin 61 K = b61 at *
    go_enter Try.func23, Try.ntmps23
    go_wp2_with fail
    refine H61.out.mono ?_
    rintro e w1 ⟨rfl, n, rfl⟩
    go_wp2
    exact HG1.out _ _ HE.out rfl (below_drewN (Below.refl _ _) _)
  · have HE : Hid (¬ PP) := hid (fun h => by have := HUB.out.1 h; omega)
    have HST' := hid (HST.out HE.out)
    clear HST HUB HG1
    generalize bin 61 K = b61 at *
    go_enter Try.func23, Try.ntmps23
    go_wp2_with fail
    refine H61.out.mono ?_
    rintro e w1 ⟨rfl, n, rfl⟩
    go_wp2_with (at_make; refine wpList_mk (w := w.drewN n) _ _ 22 3 (.int .i64 0) 8 rfl rfl Try.underlying22 Try.info3 rfl (by decide) w.heap.size _ K rfl rfl rfl (by omega) (Nat.le_refl _) ?_; intro w3 hs3 hgr3 hz3)
    have ho3 : OI w.heap.size w3 _ _ := unb_made hs3
    rw [← HUZ.out] at ho3
    have HO3 := hid ho3
    have HB3 := hid ((below_drewN (Below.refl w.heap.size w) n).grown hgr3 (Nat.le_refl _) (fun k h => by cases h))
    clear ho3 hs3 hgr3 hz3
    go_loopw [1, 7] (fun rr i wr => ∃ t i' : Nat, i' + t = K ∧ i = .int .i64 i' ∧ rr = .int .i64 (rrN K rn t : Nat) ∧ OI w.heap.size wr (.slice (some ⟨w.heap.size, 0, none⟩) K K) (unbL K rn t) ∧ Below w.heap.size w wr) (fun _ i _ => (intOf i).toNat)
    case atStart => exact ⟨0, K, by omega, rfl, by rw [HR0.out], HO3.out, HB3.out⟩
    case round =>
      obtain ⟨t, i, hit, rfl, rfl, ho, hb⟩ := hrel
      clear HO3 HB3
      by_cases hi : 0 < i
      · obtain ⟨s1, s2, s3, s4, s5, s6, s7⟩ := HST'.out t i hit hi
        have hbr := HBB.out (tpN K rn t + 1) i (by omega)
        have HN : Hid (unbL K rn (t + 1) = (unbL K rn t).set (i - 1) (tpN K rn t : Int)) := hid (by rw [HUS.out t (by omega), show K - t - 1 = i - 1 by omega])
        have HNX := hid s5
        have hln := HUL.out t
        have hcell := ho.cell (i - 1) (by rw [HUL.out]; omega)
        have hfz := ho.frozen (i - 1)
        have HX := hid (And.intro ho hb)
        have hci : (i : Int) - 1 = ((i - 1 : Nat) : Int) := by omega
        have HCI := hid hci
        clear s5 s6 s7 hln
        generalize rrN K rn t = rt at *
        generalize tpN K rn t = T at *
        generalize (unbL K rn t).getD (i - 1) 0 = old at *
        have hlo := s1
        clear ho hb hci
        obtain ⟨w0, rfl⟩ : ∃ w0, w0 = wr := ⟨wr, rfl⟩
        go_wp2
        go_loopw [8] (fun n wq => ∃ m q : Nat, i ≤ m + 1 ∧ m ≤ T ∧ n = .int .i64 m ∧ wq = w0.drewN q) (fun n _ => T - (intOf n).toNat)
        case atStart => exact ⟨i - 1, 0, by omega, by omega, by rw [HCI.out], rfl⟩
        case round =>
          obtain ⟨m, q, hm1, hm2, rfl, rfl⟩ := hrel
          by_cases hmT : m < T
          · have hmo := HMO.out (m + 1) T i (by omega)
            have HWM := HW.out (m + 1) i (w0.drewN q) (by omega) (by omega)
            rw [show ((m + 1 : Nat) : Int) = (m : Int) + 1 by omega] at HWM
            have HWM' := hid HWM
            have hbm := HBB.out (m + 1) i (by omega)
            clear HWM hfz hcell
            generalize bin (m + 1) i = bm at *
            go_wp2_with fail
            refine HWM'.out.mono ?_
            rintro e w1 ⟨rfl, q2, rfl⟩
            go_wp2
            go_roundw
            case rel => exact ⟨m + 1, q + q2, by omega, by omega, by go_num, rfl⟩
            case measure => simp [intOf] <;> omega
          · obtain rfl : m = T := by omega
            have HWM := HW.out (m + 1) i (w0.drewN q) (by omega) (by omega)
            rw [show ((m + 1 : Nat) : Int) = (m : Int) + 1 by omega] at HWM
            have HWM' := hid HWM
            have HWN := hid (fun q => HW.out m i ((w0.drewN q).setCell ⟨w.heap.size, i - 1, none⟩ (.int .i64 m)) (by omega) (by omega))
            have HY := hid (fun q => (show Below w.heap.size w ((w0.drewN q).setCell ⟨w.heap.size, i - 1, none⟩ (.int .i64 m)) from (below_drewN HX.out.2 q).grown ((HX.out.1.drewN q).stored (i - 1) (m : Int)).2 (below_drewN HX.out.2 q).size (fun b e => by cases e; exact Nat.le_refl _)))
            have HZ := hid (fun q => (show OI w.heap.size ((w0.drewN q).setCell ⟨w.heap.size, i - 1, none⟩ (.int .i64 m)) (.slice (some ⟨w.heap.size, 0, none⟩) K K) (unbL K rn (t + 1)) from by rw [HN.out]; exact ((HX.out.1.drewN q).stored (i - 1) (m : Int)).1))
            clear HWM
            have hbm : bin m i ≤ 232714176627630544 := HBB.out m i (by omega)
            generalize bin (m + 1) i = bm at *
            generalize bin m i = bi at *
            go_wp2_with fail
            refine HWM'.out.mono ?_
            rintro e w1 ⟨rfl, q2, rfl⟩
            go_wp2_with fail
            refine (HWN.out (q + q2)).mono ?_
            rintro e w1 ⟨rfl, q3, rfl⟩
            go_wp2
            go_roundw
            case rel => exact ⟨t + 1, i - 1, by omega, by rw [← HCI.out], by rw [HNX.out]; congr 1; omega, (HZ.out (q + q2)).drewN q3, below_drewN (HY.out (q + q2)) q3⟩
            case measure => simp [intOf] <;> omega
      · obtain rfl : i = 0 := by omega
        obtain rfl : t = K := by omega
        have HX := hid (And.intro ho hb)
        clear ho hb
        go_wp2
        exact HG2.out _ _ HE.out HX.out.1 HX.out.2

set_option maxHeartbeats 2000000 in
set_option maxRecDepth 100000 in
theorem UnrankOf_any (k r : Int) (w : World) (ik : I64 k) (ir : I64 r) :
    Calls Try.prog 24 #[.int .i64 k, .int .i64 r] w (unbEnd k r w) := by
  have HG1 : Hid (∀ e w', UB k r → e = .returned (.tuple #[.slice none 0 0, .int .i64 1]) → Below w.heap.size w w' → unbEnd k r w e w') := hid (fun e w' h1 h2 h3 => ⟨.inl ⟨h1, h2⟩, h3⟩)
  have HG2 : Hid (∀ u w', ¬ UB k r → OI w.heap.size w' u (unbL k.toNat r.toNat k.toNat) → Below w.heap.size w w' → unbEnd k r w (.returned (.tuple #[u, .int .i64 0])) w') := hid (fun u w' h1 h2 h3 => ⟨.inr ⟨h1, u, rfl, h2⟩, h3⟩)
  have HUB : Hid (UB k r ↔ (k < 0 ∨ 30 < k ∨ r < 0 ∨ (bin 61 k.toNat : Int) ≤ r)) := hid Iff.rfl
  have HST := hid (fun (h : ¬ UB k r) (t i : Nat) (hi : i + t = k.toNat) (h1 : 1 ≤ i) => step_u (k := k.toNat) (r := r.toNat) (show r.toNat < bin 61 k.toNat by unfold UB at h; omega) hi h1)
  have HW := hid (fun (n k : Nat) (w : World) (hn : n ≤ 61) => ways_all n k w hn)
  have HMO := hid (fun (a b k : Nat) (h : a ≤ b) => bin_mono h k)
  have HBB := hid (fun (n k : Nat) (h : n ≤ 61) => bin61 n k h)
  have HR0 : Hid (rrN k.toNat r.toNat 0 = r.toNat) := hid rfl
  have HT0 : Hid (tpS k.toNat r.toNat 0 = 60) := hid rfl
  have HT1 : Hid (∀ t, tpS k.toNat r.toNat (t + 1) = (tpN k.toNat r.toNat t : Int) - 1) := hid (fun t => rfl)
  have HUZ := hid (unb_zero k.toNat r.toNat)
  have HUS := hid (fun t h => unb_succ (k := k.toNat) (r := r.toNat) (t := t) h)
  have HUL := hid (unb_len k.toNat r.toNat)
  generalize unbEnd k r w = G at *
  generalize UB k r = PP at *
  by_cases hk0 : k < 0
  · have HE := hid (HUB.out.2 (.inl hk0))
    go_enter Try.func24, Try.ntmps24
    go_wp2
    exact HG1.out _ _ HE.out rfl (Below.refl _ _)
  by_cases hk1 : 30 < k
  · have HE := hid (HUB.out.2 (.inr (.inl hk1)))
    go_enter Try.func24, Try.ntmps24
    go_wp2
    exact HG1.out _ _ HE.out rfl (Below.refl _ _)
  by_cases hr0 : r < 0
  · have HE := hid (HUB.out.2 (.inr (.inr (.inl hr0))))
    go_enter Try.func24, Try.ntmps24
    go_wp2
    exact HG1.out _ _ HE.out rfl (Below.refl _ _)
  obtain ⟨K, rfl⟩ : ∃ K : Nat, k = (K : Int) := ⟨k.toNat, by omega⟩
  obtain ⟨rn, rfl⟩ : ∃ rn : Nat, r = (rn : Int) := ⟨r.toNat, by omega⟩
  rw [Int.toNat_natCast] at HG2 HUB HST HR0 HUZ HUS HUL HT0 HT1
  rw [Int.toNat_natCast] at HG2 HST HR0 HUZ HUS HUL HT0 HT1
  have H61 := hid (HW.out 61 K w (by omega))
  have hb61 := HBB.out 61 K (by omega)
  by_cases hr1 : (bin 61 K : Int) ≤ (rn : Int)
  · have HE := hid (HUB.out.2 (.inr (.inr (.inr hr1))))
    generalize bin 61 K = b61 at *
    go_enter Try.func24, Try.ntmps24
    go_wp2_with fail
    refine H61.out.mono ?_
    rintro e w1 ⟨rfl, hb1⟩
    have HB1 := hid hb1
    clear hb1
    go_wp2
    exact HG1.out _ _ HE.out rfl HB1.out
  · have HE : Hid (¬ PP) := hid (fun h => by have := HUB.out.1 h; omega)
    have HST' := hid (HST.out HE.out)
    clear HST HUB HG1
    generalize bin 61 K = b61 at *
    go_enter Try.func24, Try.ntmps24
    go_wp2_with fail
    refine H61.out.mono ?_
    rintro e w1 ⟨rfl, hb1⟩
    have HB1 := hid hb1
    have hs1 := hb1.size
    clear hb1
    go_wp2_with (at_make; refine wpList_mk (w := w1) _ _ 22 3 (.int .i64 0) 8 rfl rfl Try.underlying22 Try.info3 rfl (by decide) w.heap.size _ K rfl rfl rfl (by omega) hs1 ?_; intro w3 hs3 hgr3 hz3)
    have ho3 : OI w.heap.size w3 _ _ := unb_made hs3
    rw [← HUZ.out] at ho3
    have HO3 := hid ho3
    have HB3 := hid (HB1.out.grown hgr3 hs1 (fun k h => by cases h))
    clear ho3 hs3 hgr3 hz3
    go_loopw [1, 8, 9] (fun rr tp i wr => ∃ t i' : Nat, i' + t = K ∧ i = .int .i64 i' ∧ rr = .int .i64 (rrN K rn t : Nat) ∧ tp = .int .i64 (tpS K rn t) ∧ OI w.heap.size wr (.slice (some ⟨w1.heap.size, 0, none⟩) K K) (unbL K rn t) ∧ Below w.heap.size w wr) (fun _ _ i _ => (intOf i).toNat)
    case atStart => exact ⟨0, K, by omega, rfl, by rw [HR0.out], by rw [HT0.out], HO3.out, HB3.out⟩
    case round =>
      obtain ⟨t, i, hit, rfl, rfl, rfl, ho, hb⟩ := hrel
      clear HO3 HB3
      by_cases hi : 0 < i
      · obtain ⟨s1, s2, s3, s4, s5, s6, s7⟩ := HST'.out t i hit hi
        have hbr := HBB.out (tpN K rn t + 1) i (by omega)
        have HN : Hid (unbL K rn (t + 1) = (unbL K rn t).set (i - 1) (tpN K rn t : Int)) := hid (by rw [HUS.out t (by omega), show K - t - 1 = i - 1 by omega])
        have HNX := hid s5
        have HTX := hid (HT1.out t)
        have HX := hid (And.intro ho hb)
        have hci : (i : Int) - 1 = ((i - 1 : Nat) : Int) := by omega
        have HCI := hid hci
        clear s5
        generalize rrN K rn t = rt at *
        generalize tpN K rn t = T at *
        generalize tpS K rn t = Tp at *
        have hlo := s1
        clear ho hb hci
        obtain ⟨w0, rfl⟩ : ∃ w0, w0 = wr := ⟨wr, rfl⟩
        go_wp2
        go_loopw [1, 8] (fun rr n wq => ∃ m : Nat, T ≤ m ∧ (m : Int) ≤ Tp ∧ n = .int .i64 m ∧ rr = .int .i64 rt ∧ OI w.heap.size wq (.slice (some ⟨w1.heap.size, 0, none⟩) K K) (unbL K rn t) ∧ Below w.heap.size w wq) (fun _ n _ => (intOf n).toNat - T)
        case atStart => exact ⟨Tp.toNat, by omega, by omega, by rw [show ((Tp.toNat : Nat) : Int) = Tp by omega], rfl, HX.out.1, HX.out.2⟩
        case round =>
          obtain ⟨m, hm1, hm2, rfl, rfl, ho, hb⟩ := hrel
          clear HX
          by_cases hmT : T < m
          · have hmo := HMO.out (T + 1) m i (by omega)
            have HWM := hid (HW.out m i wr (by omega))
            have hbm := HBB.out m i (by omega)
            have HX := hid (And.intro ho hb)
            clear ho hb
            generalize bin m i = bm at *
            go_wp2_with fail
            refine HWM.out.mono ?_
            rintro e w2 ⟨rfl, hb2⟩
            have HY := hid (And.intro (HX.out.1.below hb2) (HX.out.2.trans (hb2.mono HX.out.2.size)))
            clear hb2
            go_wp2
            go_roundw
            case rel => exact ⟨m - 1, by omega, by omega, by congr 1; omega, by simp, HY.out.1, HY.out.2⟩
            case measure => simp [intOf] <;> omega
          · obtain rfl : m = T := by omega
            have HWM := hid (HW.out m i wr (by omega))
            have hbm : bin m i ≤ 232714176627630544 := HBB.out m i (by omega)
            have HX := hid (And.intro ho hb)
            clear ho hb
            generalize bin m i = bi at *
            go_wp2_with fail
            refine HWM.out.mono ?_
            rintro e w2 ⟨rfl, hb2⟩
            have ho2 := HX.out.1.below hb2
            have hb2' := HX.out.2.trans (hb2.mono HX.out.2.size)
            have hcell := ho2.cell (i - 1) (by rw [HUL.out]; omega)
            have hfz := ho2.frozen (i - 1)
            obtain ⟨hs, hg⟩ := ho2.stored (i - 1) (m : Int)
            rw [← HN.out] at hs
            have HY := hid (And.intro hs (hb2'.grown hg hb2'.size (fun b e => by cases e; exact hs1)))
            clear hb2 ho2 hb2' hs hg
            generalize (unbL K rn t).getD (i - 1) 0 = old at *
            go_wp2
            go_roundw
            case rel => exact ⟨t + 1, i - 1, by omega, by rw [← HCI.out], by rw [HNX.out]; congr 1; omega, by rw [HTX.out], HY.out.1, HY.out.2⟩
            case measure => simp [intOf] <;> omega
      · obtain rfl : i = 0 := by omega
        obtain rfl : t = K := by omega
        have HX := hid (And.intro ho hb)
        clear ho hb
        go_wp2
        exact HG2.out _ _ HE.out HX.out.1 HX.out.2
end Go.Proofs.Ytdbfmjlnalaobaa
