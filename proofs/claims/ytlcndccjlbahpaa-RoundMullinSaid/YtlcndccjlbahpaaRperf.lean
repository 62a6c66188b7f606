/-
  The walks over round.Perfect and parterreref4.PerfectOf. Condition: the slices can be read.
-/
import Derived.Test.YtlcndccjlbahpaaRing2
import Derived.Test.YtlcndccjlbahpaaRfault
import Derived.Deep.RegionHeld3
namespace Go.Proofs.Ytlcndccjlbahpaa
set_option linter.unusedVariables false
open Go.RowKit Go.Maps

/-- Is the ring of rounds i and j whole? -/
def whB (n : Nat) (ll : List (List Int)) (i j : Nat) : Bool := 2 * per (sg (pr ll i) (pr ll j)) n 0 == n
def whAll (n : Nat) (ll : List (List Int)) (k : Nat) : Bool := (List.range k).all fun i => (List.range i).all fun j => whB n ll i j
def pfB (n : Nat) (ll : List (List Int)) : Bool := whAll n ll ll.length && (ll.length == n - 1)
theorem wh_no {n : Nat} {ll : List (List Int)} {k i j : Nat} (hi : i < k) (hj : j < i) (h : whB n ll i j = false) : whAll n ll k = false := by
  rw [Bool.eq_false_iff]
  intro h2
  have := List.all_eq_true.1 (List.all_eq_true.1 h2 i (List.mem_range.2 hi)) j (List.mem_range.2 hj)
  rw [h] at this
  cases this
theorem wh_yes {n : Nat} {ll : List (List Int)} {k : Nat} (h : ∀ i, i < k → ∀ j, j < i → whB n ll i j = true) : whAll n ll k = true :=
  List.all_eq_true.2 fun i hi => List.all_eq_true.2 fun j hj => h i (List.mem_range.1 hi) j (List.mem_range.1 hj)
theorem chk_zero {n : Int} {ll : List (List Int)} (h : chkE n ll = 0) : ∃ m : Nat, n = (m : Int) ∧ 2 ≤ m ∧ m ≤ 16 ∧ m % 2 = 0 ∧ ll.length ≤ m - 1 ∧ (∀ j, j < ll.length → rdE m (ll.getD j []) = 0) ∧ twB m ll = false := by
  unfold chkE at h
  by_cases h1 : tmB n = true
  · rw [if_pos h1] at h
    obtain ⟨m, rfl, h2, h3, h4⟩ := tm_of h1
    rw [Int.toNat_natCast] at h
    by_cases h5 : m - 1 < ll.length
    · rw [if_pos h5] at h; exact absurd h (by decide)
    rw [if_neg h5] at h
    by_cases h6 : frE m ll = 0
    · rw [if_pos h6] at h
      by_cases h7 : twB m ll = true
      · rw [if_pos h7] at h; exact absurd h (by decide)
      · exact ⟨m, rfl, h2, h3, h4, by omega, fr_zero h6, by simpa using h7⟩
    · rw [if_neg h6] at h; exact absurd h h6
  · rw [if_neg h1] at h; exact absurd h (by decide)

set_option maxHeartbeats 1000000 in
set_option maxRecDepth 100000 in
theorem PerfectOf_ok (n : Nat) (v : Value) (ll : List (List Int)) (w : World) (hl : RL w v ll) (hz : chkE n ll = 0) :
    Calls Try.prog 20 #[.int .i64 n, v] w fun e w' => e = .returned (.bool (pfB n ll)) ∧ Below w.heap.size w w' := by
  obtain ⟨m, hmn, h2, h3, h4, h5, h6, _⟩ := chk_zero hz
  obtain rfl : n = m := by omega
  have HRN := hid (fun j hj => rnd_of (n := n) (ll := ll) (j := j) (h6 j hj))
  have HSP := hid (fun j hj => rd_spec (n := n) (l := ll.getD j []) (h6 j hj))
  have HNO := hid (fun i j hi hj h => wh_no (n := n) (ll := ll) (k := ll.length) (i := i) (j := j) hi hj h)
  have HYE := hid (fun h => wh_yes (n := n) (ll := ll) (k := ll.length) h)
  have HWB : Hid (∀ i j, whB n ll i j = (2 * per (sg (pr ll i) (pr ll j)) n 0 == n)) := hid fun i j => rfl
  have HPF : Hid (pfB n ll = (whAll n ll ll.length && (ll.length == n - 1))) := hid rfl
  have HRI := hid (fun (v u : Value) (l m : List Int) (p q : Nat → Nat) (w1 : World) => ringOf_ok n v u l m p q w1)
  obtain ⟨a, c, N, rfl, hN, hl1, hl2⟩ := hl.open
  rw [hN.out] at HRN HSP HNO HYE HPF h5
  rw [HPF.out]
  clear hl hz h6 h4 hmn
  by_cases hln : N = n - 1
  · have hq : ((N : Int) != (n : Int) - 1) = false := by clear hl2; rw [bne_eq_false_iff_eq]; omega
    have hq2 : (N == n - 1) = true := by simpa using hln
    rw [hq2, Bool.and_true]
    have HLN := hid hln
    clear hln hq2
    generalize whAll n ll N = W at *
    go_enter Try.func20, Try.ntmps20
    go_wp2
    go_loopw [5, 6, 7] (fun x _ _ wr => ∃ i : Nat, i ≤ N ∧ x = .int .i64 i ∧ Hid (∀ i', i' < i → ∀ j, j < i' → whB n ll i' j = true) ∧ Below w.heap.size w wr) (fun x _ _ _ => N - (intOf x).toNat)
    case atStart => exact ⟨0, Nat.zero_le _, rfl, hid (fun i' hi' => by omega), Below.refl _ _⟩
    case round =>
      obtain ⟨i, hi, rfl, hwh, hb⟩ := hrel
      by_cases hiN : i < N
      · have HB0 := hid hb
        clear hb
        go_wp2
        go_loopw [6, 7] (fun x _ wr => ∃ j : Nat, j ≤ i ∧ x = .int .i64 j ∧ Hid (∀ j', j' < j → whB n ll i j' = true) ∧ Below w.heap.size w wr) (fun x _ _ => i - (intOf x).toNat)
        case atStart => exact ⟨0, Nat.zero_le _, rfl, hid (fun i' hi' => by omega), HB0.out⟩
        case round =>
          clear HB0
          obtain ⟨j, hj, rfl, hwj, hb⟩ := hrel
          by_cases hji : j < i
          · obtain ⟨g, off, rfl, hg, hc⟩ := hl2 (by omega)
            obtain ⟨u1, c1, s1⟩ := hc i hiN
            obtain ⟨u2, c2, s2⟩ := hc j (by omega)
            have c1 := (hb.cell (p := ⟨g, off + i, none⟩) hg).trans c1
            have c2 := (hb.cell (p := ⟨g, off + j, none⟩) hg).trans c2
            have R1 := HRN.out i hiN
            have R2 := HRN.out j (by omega)
            have HCALL := hid (fun (w1 : World) (hw1 : Below wr.heap.size wr w1) => HRI.out u1 u2 _ _ (pr ll i) (pr ll j) w1 ((s1.below hb).below hw1) ((s2.below hb).below hw1) R1.1 R2.1 (by omega) (by omega) (HSP.out i hiN).1 (HSP.out j (by omega)).1 R1.2 R2.2)
            have hjN : (j : Int) < (N : Int) := by omega
            have hiN2 : (i : Int) < (N : Int) := by omega
            have hgw : g < wr.heap.size := Nat.lt_of_lt_of_le hg hb.size
            have HB := hid hb
            clear hc hl2 s1 s2 R1 R2 hb
            go_wp2
            go_region_held3 (fun w' => w'.cell? ⟨g, off + i, none⟩ = some u1 ∧ w'.cell? ⟨g, off + j, none⟩ = some u2 ) (go_keep) (first | ((go_at_call 32; refine (HCALL.out _ (Below.refl _ _).drew).mono ?_; rintro e w5 ⟨rfl, hb5⟩; have k1 := (hb5.cell (p := ⟨g, off + i, none⟩) hgw).trans c1; have k2 := (hb5.cell (p := ⟨g, off + j, none⟩) hgw).trans c2)))
            have HW := HWB.out i j
            have HHN := hid (HNO.out i j hiN hji)
            clear HCALL
            generalize per (sg (pr ll i) (pr ll j)) n 0 = P at HW ⊢
            by_cases hw : 2 * P = n
            · have hw1 : whB n ll i j = true := by rw [HW]; simpa using hw
              have hq5 : ((2 * (P : Int)) != (n : Int)) = false := by rw [bne_eq_false_iff_eq]; omega
              have HX := hid (And.intro (HB.out.trans ((Below.refl _ _).drew.trans hb5 |>.mono HB.out.size)) (And.intro hwj.out hw1))
              clear hb5 HB HW HHN hw hw1 hwj k1 k2 c1 c2
              go_wp2
              go_roundw
              case rel =>
                refine ⟨j + 1, by omega, by go_num, hid (fun j' hj' => ?_), HX.out.1⟩
                by_cases e : j' = j
                · rw [e]; exact HX.out.2.2
                · exact HX.out.2.1 j' (by omega)
              case measure => simp [intOf] <;> omega
            · have hw1 : whB n ll i j = false := by rw [HW]; simpa using hw
              have hq5 : ((2 * (P : Int)) != (n : Int)) = true := by simp; omega
              have HX := hid (And.intro (HB.out.trans ((Below.refl _ _).drew.trans hb5 |>.mono HB.out.size)) (HHN.out hw1))
              clear hb5 HB HW HHN hw hw1 hwj k1 k2 c1 c2
              go_wp2
              go_ret
              exact ⟨by rw [HX.out.2]; rfl, HX.out.1⟩
          · obtain rfl : j = i := by omega
            have HX := hid (And.intro hb (And.intro hwh.out hwj.out))
            clear hl2 hwj hb hwh
            go_wp2
            go_roundw
            case rel =>
              refine ⟨j + 1, by omega, by go_num, hid (fun i' hi' => ?_), HX.out.1⟩
              by_cases e : i' = j
              · rw [e]; exact HX.out.2.2
              · exact HX.out.2.1 i' (by omega)
            case measure => simp [intOf] <;> omega
      · obtain rfl : i = N := by omega
        have HX := hid (And.intro hb (HYE.out hwh.out))
        clear hl2 hwh hb
        go_wp2
        go_ret
        exact ⟨by rw [HX.out.2]; rfl, HX.out.1⟩
  · have hq : ((N : Int) != (n : Int) - 1) = true := by clear hl2; simp; omega
    have hq2 : (N == n - 1) = false := by simpa using hln
    rw [hq2, Bool.and_false]
    clear hl2 hln hq2
    go_enter Try.func20, Try.ntmps20
    go_wp2
    go_ret
    exact ⟨rfl, Below.refl _ _⟩

set_option maxHeartbeats 1000000 in
set_option maxRecDepth 100000 in
theorem Perfect_err (n : Int) (v : Value) (ll : List (List Int)) (w : World) (hl : RL w v ll) (hb : ∀ l ∈ ll, ∀ x ∈ l, I64 x) (hz : chkE n ll ≠ 0) :
    Calls Try.prog 19 #[.int .i64 n, v] w fun e w' => e = .returned (.tuple #[.bool false, .int .i64 (chkE n ll)]) ∧ Below w.heap.size w w' := by
  have HC := hid (Check_any n v ll w hl hb)
  have hq : (chkE n ll != 0) = true := by simpa using hz
  obtain ⟨a, c, rfl, hl1, _⟩ := hl
  generalize ll.length = N at *
  clear hz hb
  generalize chkE n ll = E at *
  go_enter Try.func19, Try.ntmps19
  go_wp2_with fail
  refine HC.out.mono ?_
  rintro e w1 ⟨rfl, hb1⟩
  have HB := hid hb1
  clear hb1
  go_wp2
  go_ret2
  exact ⟨rfl, HB.out⟩

set_option maxHeartbeats 1000000 in
set_option maxRecDepth 100000 in
theorem Perfect_ok (n : Nat) (v : Value) (ll : List (List Int)) (w : World) (hl : RL w v ll) (hb : ∀ l ∈ ll, ∀ x ∈ l, I64 x) (hz : chkE n ll = 0) :
    Calls Try.prog 19 #[.int .i64 n, v] w fun e w' => e = .returned (.tuple #[.bool (pfB n ll), .int .i64 0]) ∧ Below w.heap.size w w' := by
  have HC := hid (Check_any n v ll w hl hb)
  obtain ⟨m, hmn, h2, h3, h4, h5, h6, _⟩ := chk_zero hz
  obtain rfl : n = m := by omega
  rw [hz] at HC
  have HRN := hid (fun j hj => rnd_of (n := n) (ll := ll) (j := j) (h6 j hj))
  have HSP := hid (fun j hj => rd_spec (n := n) (l := ll.getD j []) (h6 j hj))
  have HNO := hid (fun i j hi hj h => wh_no (n := n) (ll := ll) (k := ll.length) (i := i) (j := j) hi hj h)
  have HYE := hid (fun h => wh_yes (n := n) (ll := ll) (k := ll.length) h)
  have HWB : Hid (∀ i j, whB n ll i j = (2 * per (sg (pr ll i) (pr ll j)) n 0 == n)) := hid fun i j => rfl
  have HPF : Hid (pfB n ll = (whAll n ll ll.length && (ll.length == n - 1))) := hid rfl
  have HRI := hid (fun (v u : Value) (l m : List Int) (p q : Nat → Nat) (w1 : World) => whole_ok n v u l m p q w1)
  obtain ⟨a, c, N, rfl, hN, hl1, hl2⟩ := hl.open
  rw [hN.out] at HRN HSP HNO HYE HPF h5
  rw [HPF.out]
  have hq : ((N : Int) == (n : Int) - 1) = (N == n - 1) := by
    clear hl2
    rw [Bool.eq_iff_iff, beq_iff_eq, beq_iff_eq]; omega
  have HQ := hid hq
  clear hl hz h6 h4 hmn hb hq
  generalize whAll n ll N = W at *
  go_enter Try.func19, Try.ntmps19
  go_wp2_with fail
  refine HC.out.mono ?_
  rintro e w1 ⟨rfl, hb1⟩
  have HB1 := hid hb1
  clear hb1 HC
  go_wp2
  go_loopw [19] (fun x wr => ∃ i : Nat, i ≤ N ∧ x = .int .i64 i ∧ Hid (∀ i', i' < i → ∀ j, j < i' → whB n ll i' j = true) ∧ w1 = wr) (fun x _ => N - (intOf x).toNat)
  case atStart => exact ⟨0, Nat.zero_le _, rfl, hid (fun i' hi' => by omega), rfl⟩
  case round =>
    obtain ⟨i, hi, rfl, hwh, rfl⟩ := hrel
    by_cases hiN : i < N
    · obtain ⟨g, off, rfl, hg, hc⟩ := hl2 (by omega)
      obtain ⟨u1, c1, s1⟩ := hc i hiN
      have c1 := (HB1.out.cell (p := ⟨g, off + i, none⟩) hg).trans c1
      have R1 := HRN.out i hiN
      have HI2 := hid (fun j (hj : j < i) (u2 : Value) (s2 : Sl w1 u2 (ll.getD j [])) => HRI.out u1 u2 _ _ (pr ll i) (pr ll j) w1 (s1.below HB1.out) s2 R1.1 (HRN.out j (by omega)).1 (by omega) (by omega) (HSP.out i hiN).1 (HSP.out j (by omega)).1 R1.2 (HRN.out j (by omega)).2)
      have HS2 := hid (fun j (hj : j < i) => hc j (by omega))
      clear R1 s1 hc hl2
      go_wp2
      go_loopw [28] (fun x wr => ∃ j : Nat, j ≤ i ∧ x = .int .i64 j ∧ Hid (∀ j', j' < j → whB n ll i j' = true) ∧ w1 = wr) (fun x _ => i - (intOf x).toNat)
      case atStart => exact ⟨0, Nat.zero_le _, rfl, hid (fun i' hi' => by omega), rfl⟩
      case round =>
        obtain ⟨j, hj, rfl, hwj, rfl⟩ := hrel
        by_cases hji : j < i
        · obtain ⟨u2, c2, s2⟩ := HS2.out j hji
          have c2 := (HB1.out.cell (p := ⟨g, off + j, none⟩) hg).trans c2
          have HCALL := hid (HI2.out j hji u2 (s2.below HB1.out))
          have HW := HWB.out i j
          have HHN := hid (HNO.out i j hiN hji)
          rw [← HW] at HCALL
          clear HW s2
          cases hw : whB n ll i j with
          | true =>
            rw [hw] at HCALL
            have HX := hid (And.intro hwj.out hw)
            clear hw hwj
            go_wp2_with fail
            refine HCALL.out.mono ?_
            rintro e w2 ⟨rfl, rfl⟩
            go_wp2
            go_roundw
            case rel =>
              refine ⟨j + 1, by omega, by go_num, hid (fun j' hj' => ?_), by trivial⟩
              by_cases e : j' = j
              · rw [e]; exact HX.out.2
              · exact HX.out.1 j' (by omega)
            case measure => simp [intOf] <;> omega
          | false =>
            rw [hw] at HCALL
            have HX := hid (HHN.out hw)
            clear hw hwj
            go_wp2_with fail
            refine HCALL.out.mono ?_
            rintro e w2 ⟨rfl, rfl⟩
            go_wp2
            go_ret2
            exact ⟨by rw [HX.out]; rfl, HB1.out⟩
        · obtain rfl : j = i := by omega
          have HX := hid (And.intro hwh.out hwj.out)
          clear hwj hwh
          go_wp2
          go_roundw
          case rel =>
            refine ⟨j + 1, by omega, by go_num, hid (fun i' hi' => ?_), by trivial⟩
            by_cases e : i' = j
            · rw [e]; exact HX.out.2
            · exact HX.out.1 i' (by omega)
          case measure => simp [intOf] <;> omega
    · obtain rfl : i = N := by omega
      have HX := hid (HYE.out hwh.out)
      clear hl2 hwh
      go_wp2
      go_ret2
      exact ⟨by rw [HX.out, ← HQ.out]; rfl, HB1.out⟩

theorem Perfect_any (n : Int) (v : Value) (ll : List (List Int)) (w : World) (hl : RL w v ll) (hb : ∀ l ∈ ll, ∀ x ∈ l, I64 x) :
    Calls Try.prog 19 #[.int .i64 n, v] w fun e w' => e = .returned (.tuple #[.bool (chkE n ll == 0 && pfB n.toNat ll), .int .i64 (chkE n ll)]) ∧ Below w.heap.size w w' := by
  by_cases h : chkE n ll = 0
  · obtain ⟨m, rfl, _⟩ := chk_zero h
    have := Perfect_ok m v ll w hl hb h
    rw [h]
    simpa using this
  · have := Perfect_err n v ll w hl hb h
    have h2 : (chkE n ll == 0) = false := by simpa using h
    rw [h2, Bool.false_and]
    exact this
end Go.Proofs.Ytlcndccjlbahpaa
