/-
  Do the sets of a family lie apart, do they cross? The walks over slices.Contains (the kit's contract, laid by hand), subset.Apart and Cross, parterreref4.ApartOf and CrossOf. Conditions: the slice can be read; a family where it is said.
-/
import Derived.Test.YtdbfmjlnalaobaaSpair
import Derived.Shelf.Slices.Turned
namespace Go.Proofs.Ytdbfmjlnalaobaa
set_option linter.unusedVariables false
open Go.RowKit Go.Shelf

def conLaysRen : Ren := ⟨fun x => match x with | 107 => 41 | 108 => 52 | n => n, fun x => match x with | 28 => 22 | 3 => 3 | 4 => 4 | 0 => 0 | n => n, fun n => n⟩
theorem conLays : Lays.n107 Try.prog conLaysRen where
  mixed := by kernel_rfl
  f107 := Try.func41.trans (congrArg some (by kernel_rfl))
  f108 := Try.func52.trans (congrArg some (by kernel_rfl))
  t0 := Try.underlying0
  a0 := Try.isAgg0
  z0 := Try.sizeOf0
  v0 := Try.zeroValue0
  t3 := Try.underlying3
  a3 := Try.isAgg3
  z3 := Try.sizeOf3
  v3 := Try.zeroValue3
  t4 := Try.underlying4
  a4 := Try.isAgg4
  z4 := Try.sizeOf4
  v4 := Try.zeroValue4
  t28 := Try.underlying22
  a28 := Try.isAgg22
  z28 := Try.sizeOf22
  v28 := Try.zeroValue22

theorem contains_any (v : Value) (l : List Int) (x : Int) (w : World) (hl : Sl w v l) :
    Calls Try.prog 41 #[v, .int .i64 x] w fun e w' => e = .returned (.bool (l.contains x)) ∧ w = w' := by
  obtain ⟨a, c, N, rfl, hN, hl1, hl2⟩ := hl.open
  by_cases h0 : 0 < N
  · obtain ⟨b, off, rfl, hb, hc⟩ := hl2 h0
    refine (show Calls Try.prog 41 #[.slice (some ⟨b, off, none⟩) N c, .int .i64 x] w _ from Any.slices_Contains_int conLays b off N c l x w (by rw [hN.out]; omega) (by omega) (fun j hj => by rw [hN.out] at hj; rw [hc j hj, List.getD_eq_getElem?_getD])).mono ?_
    rintro e w' ⟨rfl, rfl⟩
    rw [List.take_of_length_le (by rw [hN.out]; omega)]
    exact ⟨rfl, rfl⟩
  · obtain rfl : N = 0 := by omega
    have : l = [] := List.eq_nil_of_length_eq_zero hN.out
    subst this
    refine (show Calls Try.prog 41 #[.slice a 0 c, .int .i64 x] w _ from Any.slices_Contains_int_empty conLays a c x w).mono ?_
    rintro e w' ⟨rfl, rfl⟩
    exact ⟨rfl, rfl⟩

/-- A family that is one. -/
structure Fam (n : Nat) (l : List Int) (F : Nat → Nat) (N : Nat) : Prop where
  n12 : n ≤ 12
  le : N ≤ 4096
  fam : FamL l F N
  lt : ∀ k, k < N → F k < 2 ^ n
  up : ∀ k, k + 1 < N → F k < F (k + 1)
theorem rise_at {l : List Int} {k : Nat} : ∀ {m : Nat}, riseTo l m = true → k + 1 < m → l[k]?.getD 0 < l[k + 1]?.getD 0
  | 0, h, hk => by omega
  | m + 1, h, hk => by
    simp only [riseTo, Bool.and_eq_true] at h
    by_cases e : k + 1 = m
    · subst e
      have := h.2
      simpa using this
    · exact rise_at h.1 (by omega)
theorem fam_of {n : Int} {l : List Int} (h : famE n l = 0) : ∃ m : Nat, n = (m : Int) ∧ Fam m l (fun k => (l[k]?.getD 0).toNat) l.length := by
  unfold famE at h
  by_cases h1 : n < 0 ∨ 12 < n
  · rw [if_pos h1] at h; exact absurd h (by decide)
  rw [if_neg h1] at h
  by_cases h2 : 4096 < l.length
  · rw [if_pos h2] at h; exact absurd h (by decide)
  rw [if_neg h2] at h
  by_cases h3 : l.any (badSet n.toNat) = true
  · rw [if_pos h3] at h; exact absurd h (by decide)
  rw [if_neg h3] at h
  by_cases h4 : riseB l = true
  · have hb : ∀ k, k < l.length → 0 ≤ l[k]?.getD 0 ∧ l[k]?.getD 0 < ((2 ^ n.toNat : Nat) : Int) := fun k hk => by
      have hb : badSet n.toNat (l[k]?.getD 0) = false := by
        cases hb : badSet n.toNat (l[k]?.getD 0) with
        | true => exact absurd (any_true hk hb) h3
        | false => rfl
      unfold badSet at hb
      rw [Bool.or_eq_false_iff, decide_eq_false_iff_not, decide_eq_false_iff_not] at hb
      omega
    have hp := pow12 (n := n.toNat) (by omega)
    refine ⟨n.toNat, by omega, by omega, by omega, ⟨rfl, fun k hk => ?_, fun k hk => ?_⟩, fun k hk => ?_, fun k hk => ?_⟩
    · have := (hb k hk).1; omega
    · have := hb k hk; omega
    · have := hb k hk; omega
    · have h5 := rise_at h4 hk
      have := hb k (by omega)
      have := hb (k + 1) hk
      omega
  · rw [if_neg h4] at h; exact absurd h (by decide)

theorem Apart_bad (n : Int) (v : Value) (l : List Int) (w : World) (hl : Sl w v l) (hb : ∀ x ∈ l, I64 x) (h : famE n l ≠ 0) :
    Calls Try.prog 14 #[.int .i64 n, v] w fun e w' => e = .returned (.tuple #[.bool false, .int .i64 (famE n l)]) ∧ Below w.heap.size w w' := by
  have H := hid (check_fam n v l w hl hb)
  have hq : (famE n l != 0) = true := by simpa using h
  clear h hl hb
  generalize famE n l = z at *
  go_enter Try.func14, Try.ntmps14
  go_wp2_with fail
  refine H.out.mono ?_
  rintro e w1 ⟨rfl, hb1⟩
  have HB := hid hb1
  clear hb1
  go_wp2
  go_ret2
  exact ⟨rfl, HB.out⟩
theorem Apart_ok (n : Int) (v : Value) (l : List Int) (F : Nat → Nat) (N : Nat) (w : World) (hl : Sl w v l) (hb : ∀ x ∈ l, I64 x) (h : famE n l = 0) (hF : FamL l F N) :
    Calls Try.prog 14 #[.int .i64 n, v] w fun e w' => e = .returned (.tuple #[.bool (pairB F apartB N), .int .i64 0]) ∧ Below w.heap.size w w' := by
  have H := hid (check_fam n v l w hl hb)
  rw [h] at H
  have HP := hid (fun w1 (hb : Below w.heap.size w w1) => pairs_any _ _ v l F N w1 (hl.below hb) hF apart1_tests)
  clear h hl hb hF
  generalize pairB F apartB N = z at *
  go_enter Try.func14, Try.ntmps14
  go_wp2_with fail
  refine H.out.mono ?_
  rintro e w1 ⟨rfl, hb1⟩
  have HB := hid hb1
  clear hb1
  go_wp2_with fail
  refine (HP.out _ HB.out).mono ?_
  rintro e w1 ⟨rfl, rfl⟩
  go_wp2
  go_ret2
  exact ⟨rfl, HB.out⟩
theorem Cross_bad (n : Int) (v : Value) (l : List Int) (w : World) (hl : Sl w v l) (hb : ∀ x ∈ l, I64 x) (h : famE n l ≠ 0) :
    Calls Try.prog 15 #[.int .i64 n, v] w fun e w' => e = .returned (.tuple #[.bool false, .int .i64 (famE n l)]) ∧ Below w.heap.size w w' := by
  have H := hid (check_fam n v l w hl hb)
  have hq : (famE n l != 0) = true := by simpa using h
  clear h hl hb
  generalize famE n l = z at *
  go_enter Try.func15, Try.ntmps15
  go_wp2_with fail
  refine H.out.mono ?_
  rintro e w1 ⟨rfl, hb1⟩
  have HB := hid hb1
  clear hb1
  go_wp2
  go_ret2
  exact ⟨rfl, HB.out⟩
/-- Has each two a thing in common? -/
def crB (l : List Int) (F : Nat → Nat) (N : Nat) : Bool := !(l.contains 0) && pairB F crossB N
theorem Cross_ok (n : Int) (v : Value) (l : List Int) (F : Nat → Nat) (N : Nat) (w : World) (hl : Sl w v l) (hb : ∀ x ∈ l, I64 x) (h : famE n l = 0) (hF : FamL l F N) :
    Calls Try.prog 15 #[.int .i64 n, v] w fun e w' => e = .returned (.tuple #[.bool (crB l F N), .int .i64 0]) ∧ Below w.heap.size w w' := by
  have H := hid (check_fam n v l w hl hb)
  rw [h] at H
  have HP := hid (fun w1 (hb : Below w.heap.size w w1) => pairs_any _ _ v l F N w1 (hl.below hb) hF cross1_tests)
  have HC := hid (fun w1 (hb : Below w.heap.size w w1) => contains_any v l 0 w1 (hl.below hb))
  have HR : Hid (crB l F N = (!(l.contains 0) && pairB F crossB N)) := hid rfl
  rw [HR.out]
  clear h hl hb hF HR
  generalize pairB F crossB N = z at *
  generalize l.contains 0 = y at *
  go_enter Try.func15, Try.ntmps15
  go_wp2_with fail
  refine H.out.mono ?_
  rintro e w1 ⟨rfl, hb1⟩
  have HB := hid hb1
  clear hb1
  go_wp2_with fail
  refine (HC.out _ HB.out).mono ?_
  rintro e w1 ⟨rfl, rfl⟩
  cases y with
  | true =>
    go_wp2
    go_ret2
    exact ⟨rfl, HB.out⟩
  | false =>
    go_wp2_with fail
    refine (HP.out _ HB.out).mono ?_
    rintro e w1 ⟨rfl, rfl⟩
    go_wp2
    go_ret2
    exact ⟨rfl, HB.out⟩

theorem ApartOf_any (v : Value) (l : List Int) (F : Nat → Nat) (N : Nat) (w : World) (hl : Sl w v l) (hF : FamL l F N) :
    Calls Try.prog 18 #[v] w fun e w' => e = .returned (.bool (pairB F apartB N)) ∧ ∃ q, w' = w.drewN q := by
  obtain ⟨a, cp, N', rfl, hN, hl1, hl2⟩ := hl.open
  obtain rfl : N' = N := by rw [← hN.out, hF.len]
  have HA := hid hF.at'
  have HB := hid hF.bd
  have HNO := hid (fun i j (hi : i < N') (hj : j < i) (h : apartB (F i) (F j) = false) => pair_no hi hj h)
  have HYES := hid (fun h => pair_yes (F := F) (p := apartB) (N := N') h)
  clear hl hF
  generalize pairB F apartB N' = R at *
  go_enter Try.func18, Try.ntmps18
  go_wp2
  go_loopw [3] (fun i wr => ∃ k q : Nat, k ≤ N' ∧ i = .int .i64 k ∧ Hid (∀ i, i < k → ∀ j, j < i → apartB (F i) (F j) = true) ∧ wr = w.drewN q) (fun i _ => N' - (intOf i).toNat)
  case atStart => exact ⟨0, 0, Nat.zero_le _, rfl, hid (fun i hi => by omega), rfl⟩
  case round =>
    obtain ⟨k, q, hk, rfl, hno, rfl⟩ := hrel
    by_cases hlt : k < N'
    · obtain ⟨b, off, rfl, hb, hc⟩ := hl2 (by omega)
      have c1 := hc k hlt
      rw [HA.out k hlt] at c1
      have HC := hid (fun j (hj : j < N') => (hc j hj).trans (by rw [HA.out j hj]))
      have hbk := HB.out k hlt
      clear hc hl2
      obtain ⟨w0, hw0⟩ : ∃ w0, w0 = w.drewN q := ⟨_, rfl⟩
      go_wp2
      go_loopw [4] (fun i wr => ∃ j q : Nat, j ≤ k ∧ i = .int .i64 j ∧ Hid (∀ t, t < j → apartB (F k) (F t) = true) ∧ wr = w.drewN q) (fun i _ => k - (intOf i).toNat)
      case atStart => exact ⟨0, q, Nat.zero_le _, rfl, hid (fun i hi => by omega), rfl⟩
      case round =>
        obtain ⟨j, q, hj, rfl, hnj, rfl⟩ := hrel
        by_cases hjk : j < k
        · have c2 := HC.out j (by omega)
          have hbj := HB.out j (by omega)
          have h1 := and_i64 (F k) (F j) (by omega) (by omega)
          have n1 := eq_cast (F k &&& F j) (F k)
          have n2 := eq_cast (F k &&& F j) (F j)
          have hjN : j < N' := by omega
          have HBB : Hid (apartB (F k) (F j) = (!(F k &&& F j == F k) && !(F k &&& F j == F j))) := hid rfl
          have HX1 : Hid (apartB (F k) (F j) = false → R = false) := hid (HNO.out k j hlt hjk)
          have HX2 : Hid (apartB (F k) (F j) = true → ∀ t, t < j + 1 → apartB (F k) (F t) = true) := hid (fun h t ht => by
            by_cases e : t = j
            · rw [e]; exact h
            · exact hnj.out t (by omega))
          clear hnj
          generalize F k &&& F j = z at *
          generalize apartB (F k) (F j) = pp at *
          cases e1 : (z == F k) with
          | true =>
            rw [e1] at n1 HBB
            have HP := hid (HX1.out (by rw [HBB.out]; rfl))
            generalize F k = x at *
            generalize F j = y at *
            go_wp2
            go_quiet (fail)
            go_wp2
            go_ret
            exact ⟨by rw [HP.out]; rfl, q + nq, by simp⟩
          | false =>
            rw [e1] at n1 HBB
            cases e2 : (z == F j) with
            | true =>
              rw [e2] at n2 HBB
              have HP := hid (HX1.out (by rw [HBB.out]; rfl))
              generalize F k = x at *
              generalize F j = y at *
              go_wp2
              go_quiet (fail)
              go_wp2
              go_ret
              exact ⟨by rw [HP.out]; rfl, q + nq, by simp⟩
            | false =>
              rw [e2] at n2 HBB
              have HP := hid (HX2.out (by rw [HBB.out]; rfl))
              obtain ⟨x, hx⟩ : ∃ x, x = F k := ⟨_, rfl⟩
              obtain ⟨y, hy⟩ : ∃ y, y = F j := ⟨_, rfl⟩
              rw [← hx] at c1 n1 h1 hbk
              rw [← hy] at c2 n2 h1 hbj
              have HXY := hid (And.intro hx hy)
              clear hx hy
              go_wp2
              go_quiet (fail)
              go_wp2
              go_roundw
              case rel => exact ⟨j + 1, q + nq, by omega, by go_num, hid HP.out, rfl⟩
              case measure => simp [intOf] <;> omega
        · obtain rfl : j = k := by omega
          go_wp2
          go_roundw
          case rel => exact ⟨j + 1, q, by omega, by go_num, hid (fun t ht => by
            by_cases e : t = j
            · rw [e]; exact hnj.out
            · exact hno.out t (by omega)), rfl⟩
          case measure => simp [intOf] <;> omega
    · obtain rfl : k = N' := by omega
      have HP := hid (HYES.out hno.out)
      go_wp2
      go_ret
      exact ⟨by rw [HP.out]; rfl, q, rfl⟩

theorem cr_no {l : List Int} {F : Nat → Nat} {N i j : Nat} (hF : FamL l F N) (hi : i < N) (hj : j ≤ i) (h : F i &&& F j = 0) : crB l F N = false := by
  unfold crB
  by_cases e : j = i
  · subst e
    rw [Nat.and_self] at h
    have hm : (0 : Int) ∈ l := by
      have h1 := hF.at' j hi
      rw [h] at h1
      have h2 : j < l.length := by rw [hF.len]; exact hi
      rw [List.getElem?_eq_getElem h2] at h1
      have h3 : l[j] = 0 := h1
      rw [← h3]
      exact List.getElem_mem h2
    rw [List.contains_iff_mem.2 hm]
    rfl
  · rw [pair_no hi (show j < i by omega) (show crossB (F i) (F j) = false by simp [crossB, h])]
    simp
theorem cr_yes {l : List Int} {F : Nat → Nat} {N : Nat} (hF : FamL l F N) (h : ∀ i, i < N → ∀ j, j ≤ i → ¬ F i &&& F j = 0) : crB l F N = true := by
  unfold crB
  rw [pair_yes (fun i hi j hj => by simpa [crossB] using h i hi j (by omega))]
  have hm : l.contains 0 = false := by
    rw [Bool.eq_false_iff]
    intro hc
    obtain ⟨i, hi, e⟩ := List.mem_iff_getElem.1 (List.contains_iff_mem.1 hc)
    have hi' : i < N := by rw [← hF.len]; exact hi
    have h1 := hF.at' i hi'
    rw [List.getElem?_eq_getElem hi, e] at h1
    have h2 : F i = 0 := by
      have : (0 : Int) = (F i : Int) := h1
      omega
    exact h i hi' i (Nat.le_refl _) (by rw [h2]; rfl)
  rw [hm]
  rfl

theorem CrossOf_any (v : Value) (l : List Int) (F : Nat → Nat) (N : Nat) (w : World) (hl : Sl w v l) (hF : FamL l F N) :
    Calls Try.prog 19 #[v] w fun e w' => e = .returned (.bool (crB l F N)) ∧ ∃ q, w' = w.drewN q := by
  obtain ⟨a, cp, N', rfl, hN, hl1, hl2⟩ := hl.open
  obtain rfl : N' = N := by rw [← hN.out, hF.len]
  have HA := hid hF.at'
  have HB := hid hF.bd
  have HNO := hid (fun i j (hi : i < N') (hj : j ≤ i) (h : F i &&& F j = 0) => cr_no hF hi hj h)
  have HYES := hid (fun h => cr_yes hF h)
  clear hl hF
  generalize crB l F N' = R at *
  go_enter Try.func19, Try.ntmps19
  go_wp2
  go_loopw [3] (fun i wr => ∃ k q : Nat, k ≤ N' ∧ i = .int .i64 k ∧ Hid (∀ i, i < k → ∀ j, j ≤ i → ¬ F i &&& F j = 0) ∧ wr = w.drewN q) (fun i _ => N' - (intOf i).toNat)
  case atStart => exact ⟨0, 0, Nat.zero_le _, rfl, hid (fun i hi => by omega), rfl⟩
  case round =>
    obtain ⟨k, q, hk, rfl, hno, rfl⟩ := hrel
    by_cases hlt : k < N'
    · obtain ⟨b, off, rfl, hb, hc⟩ := hl2 (by omega)
      have c1 := hc k hlt
      rw [HA.out k hlt] at c1
      have HC := hid (fun j (hj : j < N') => (hc j hj).trans (by rw [HA.out j hj]))
      have hbk := HB.out k hlt
      clear hc hl2
      go_wp2
      go_loopw [4] (fun i wr => ∃ j q : Nat, j ≤ k + 1 ∧ i = .int .i64 j ∧ Hid (∀ t, t < j → ¬ F k &&& F t = 0) ∧ wr = w.drewN q) (fun i _ => k + 1 - (intOf i).toNat)
      case atStart => exact ⟨0, q, Nat.zero_le _, rfl, hid (fun i hi => by omega), rfl⟩
      case round =>
        obtain ⟨j, q, hj, rfl, hnj, rfl⟩ := hrel
        by_cases hjk : j ≤ k
        · have c2 := HC.out j (by omega)
          have hbj := HB.out j (by omega)
          have h1 := and_i64 (F k) (F j) (by omega) (by omega)
          have n1 := eq_cast (F k &&& F j) 0
          have hjN : j < N' := by omega
          have HX1 : Hid (F k &&& F j = 0 → R = false) := hid (HNO.out k j hlt hjk)
          have HX2 : Hid (¬ F k &&& F j = 0 → ∀ t, t < j + 1 → ¬ F k &&& F t = 0) := hid (fun h t ht => by
            by_cases e : t = j
            · rw [e]; exact h
            · exact hnj.out t (by omega))
          clear hnj
          generalize F k &&& F j = z at *
          obtain ⟨x, hx⟩ : ∃ x, x = F k := ⟨_, rfl⟩
          obtain ⟨y, hy⟩ : ∃ y, y = F j := ⟨_, rfl⟩
          rw [← hx] at c1 h1 hbk
          rw [← hy] at c2 h1 hbj
          have HXY := hid (And.intro hx hy)
          clear hx hy
          by_cases e1 : z = 0
          · have HP := hid (HX1.out e1)
            subst e1
            have n2 : (((0 : Nat) : Int) == 0) = true := by rfl
            clear n1
            go_wp2
            go_quiet (fail)
            go_wp2
            go_ret
            exact ⟨by rw [HP.out]; rfl, q + nq, by simp⟩
          · have n2 : ((z : Int) == 0) = false := by simpa using e1
            have HP := hid (HX2.out e1)
            clear n1
            go_wp2
            go_quiet (fail)
            go_wp2
            go_roundw
            case rel => exact ⟨j + 1, q + nq, by omega, by go_num, hid HP.out, rfl⟩
            case measure => simp [intOf] <;> omega
        · obtain rfl : j = k + 1 := by omega
          go_wp2
          go_roundw
          case rel => exact ⟨k + 1, q, by omega, by go_num, hid (fun t ht => by
            by_cases e : t = k
            · rw [e]; exact fun j hj => hnj.out j (by omega)
            · exact hno.out t (by omega)), rfl⟩
          case measure => simp [intOf] <;> omega
    · obtain rfl : k = N' := by omega
      have HP := hid (HYES.out hno.out)
      go_wp2
      go_ret
      exact ⟨by rw [HP.out]; rfl, q, rfl⟩
end Go.Proofs.Ytdbfmjlnalaobaa
