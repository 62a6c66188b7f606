/-
  The walks over perm.Power and parterreref1.PermPower. Conditions: the slice can be read; a permutation where it is said.
-/
import Derived.Test.YtgfdddknajeknaaPpow
namespace Go.Proofs.Ytgfdddknajeknaa
set_option linter.unusedVariables false
open Go.RowKit

/-- How often it goes. -/
def powT (n : Int) (m : Nat) : Nat := ((n.tmod (m : Int) + m) % (m : Int)).toNat
theorem powT_spec {n : Int} {m : Nat} (hm : 0 < m) : -(m : Int) < n.tmod (m : Int) ∧ n.tmod (m : Int) < m ∧ (n.tmod (m : Int) + m).tmod (m : Int) = (powT n m : Int) ∧ powT n m < m := by
  have h1 : -(m : Int) < n.tmod (m : Int) := by
    rcases Int.le_total 0 n with h | h
    · have := Int.tmod_nonneg (m : Int) h; omega
    · have h2 := Int.tmod_lt_of_pos (-n) (show (0 : Int) < m by omega)
      rw [Int.neg_tmod] at h2
      omega
  have h2 : n.tmod (m : Int) < m := Int.tmod_lt_of_pos n (by omega)
  have h3 : 0 ≤ (n.tmod (m : Int) + m) % (m : Int) := Int.emod_nonneg _ (by omega)
  have h4 : (n.tmod (m : Int) + m) % (m : Int) < m := Int.emod_lt_of_pos _ (by omega)
  refine ⟨h1, h2, ?_, ?_⟩
  · rw [Int.tmod_eq_emod_of_nonneg (by omega)]
    unfold powT
    omega
  · unfold powT
    omega

theorem Power_bad (v : Value) (l : List Int) (n : Int) (w : World) (hl : Sl w v l) (h : permE l ≠ 0) :
    Calls Try.prog 25 #[v, .int .i64 n] w fun e w' => e = .returned (.tuple #[.slice none 0 0, .int .i64 (permE l)]) ∧ Below w.heap.size w w' := by
  have H1 := hid (check_any v l w hl)
  have hq : (permE l != 0) = true := by simpa using h
  clear h hl
  generalize permE l = z at *
  go_enter Try.func25, Try.ntmps25
  go_wp2_with fail
  refine H1.out.mono ?_
  rintro e w1 ⟨rfl, hb1⟩
  go_wp2
  go_ret2
  exact ⟨rfl, hb1⟩
theorem Power_far (v : Value) (l : List Int) (n : Int) (w : World) (hl : Sl w v l) (h : permE l = 0) (hn : n < -4611686018427387904 ∨ 4611686018427387904 < n) :
    Calls Try.prog 25 #[v, .int .i64 n] w fun e w' => e = .returned (.tuple #[.slice none 0 0, .int .i64 1]) ∧ Below w.heap.size w w' := by
  have H1 := hid (check_any v l w hl)
  rw [h] at H1
  clear h hl
  rcases hn with hn | hn
  all_goals
    go_enter Try.func25, Try.ntmps25
    go_wp2_with fail
    refine H1.out.mono ?_
    rintro e w1 ⟨rfl, hb1⟩
    go_wp2
    go_ret2
    exact ⟨rfl, hb1⟩

set_option maxHeartbeats 1000000 in
theorem Power_ok (v : Value) (l : List Int) (N : Nat) (f : Nat → Nat) (n : Int) (w : World) (hl : Sl w v l) (P : PmL l N f) (h : permE l = 0) (hn : ¬ (n < -4611686018427387904 ∨ 4611686018427387904 < n)) :
    Calls Try.prog 25 #[v, .int .i64 n] w fun e w' => (∃ u, e = .returned (.tuple #[u, .int .i64 0]) ∧ OI w.heap.size w' u (powL f N (powT n (ordN f N)))) ∧ Below w.heap.size w w' := by
  have H1 := hid (check_any v l w hl)
  rw [h] at H1
  have h12 := P.n12
  have hob := P.pm.ord_le h12 N
  rw [List.take_of_length_le (cycLen_len f N)] at hob
  have hord : 0 < ordN f N ∧ ordN f N ≤ 8916100448256 := hob
  have HO := hid (fun w1 (hb : Below w.heap.size w w1) => order_ok v l N f w1 (hl.below hb) P)
  have HT := hid (fun (t : Nat) (w1 : World) (u : Value) (hb : Below w.heap.size w w1) (hu : Sl w1 u (powL f N t)) => compose_ok u v (powL f N t) l w1 hu (hl.below hb) (by rw [P.len]; exact pow_mem P.pm t) (by rw [pow_len]; omega))
  have HTH := hid (fun t => pow_then P t)
  have HPL := hid (pow_len f N)
  have HP0 := hid (pow_still f N)
  have HS := hid still_succ
  have HL := hid still_len
  have H0 : Hid (stillL 0 = []) := hid rfl
  obtain ⟨t1, t2, t3, t4⟩ := powT_spec (n := n) hord.1
  obtain ⟨a, cp, N', rfl, hN, hl1, hl2⟩ := hl.open
  obtain rfl : N' = N := by rw [← hN.out, P.len]
  clear P hob hl hl1 hl2 h
  generalize powT n (ordN f N') = T at *
  generalize ordN f N' = od at *
  generalize stillL = D at *
  have hod0 : ¬ (od : Int) = 0 := by omega
  go_enter Try.func25, Try.ntmps25
  go_wp2_with fail
  refine H1.out.mono ?_
  rintro e w1 ⟨rfl, hb1⟩
  have B1 := hid hb1
  clear hb1
  go_wp2_with fail
  refine (HO.out _ B1.out).mono ?_
  rintro e w2 ⟨rfl, hb2⟩
  have B2 := hid (B1.out.trans (hb2.mono B1.out.size))
  clear hb2
  have hsz2 := B2.out.size
  go_wp2
  go_loopw [9, 33] (fun o i wr => ∃ k : Nat, k ≤ N' ∧ i = .int .i64 k ∧ OI w.heap.size wr o (D k) ∧ Below w.heap.size w wr) (fun _ i _ => N' - (intOf i).toNat)
  case atStart => exact ⟨0, Nat.zero_le _, rfl, by rw [H0.out]; exact OI.nil _ _, B2.out⟩
  case round =>
    obtain ⟨k, hk, rfl, hown, hb⟩ := hrel
    by_cases hlt : k < N'
    · have hB := hb.size
      have hl2 : (D k).length ≤ 1000000000000 := by rw [HL.out]; omega
      have HSK := hid (HS.out k)
      go_wp2_with (at_builtin; refine wpList_appi wr _ _ 22 rfl rfl Try.underlying22 Try.info3 w.heap.size _ _ rfl hown rfl hl2 hB ?_; intro g c w1 hown1 hg1 hg2 hg3)
      go_roundw
      case rel => exact ⟨k + 1, by omega, by go_num, hown1.cast (by rw [HSK.out]), hown.grown hb hg1 hB⟩
      case measure => simp [intOf] <;> omega
    · obtain rfl : N' = k := by omega
      rw [← HP0.out] at hown
      have HW := hid (And.intro hown hb)
      clear hown hb
      go_wp2
      go_loopw [9, 42] (fun o i wq => ∃ k : Nat, k ≤ T ∧ i = .int .i64 k ∧ OI w.heap.size wq o (powL f N' k) ∧ Below w.heap.size w wq) (fun _ i _ => T - (intOf i).toNat)
      case atStart => exact ⟨0, Nat.zero_le _, rfl, HW.out.1, HW.out.2⟩
      case round =>
        obtain ⟨k, hk, rfl, hown, hb⟩ := hrel
        by_cases hkT : k < T
        · have HTK := hid (HT.out k _ _ hb (hown.sl (by rw [HPL.out]; omega)))
          have HTHK := hid (HTH.out k)
          have HB := hid hb
          clear hown hb
          go_wp2_with fail
          refine HTK.out.mono ?_
          rintro e w4 ⟨⟨r, rfl, hr⟩, hb4⟩
          have HX := hid (And.intro ((hr.cast HTHK.out).mono (B' := w.heap.size) HB.out.size) (HB.out.trans (hb4.mono HB.out.size)))
          clear hr hb4
          go_wp2
          go_roundw
          case rel => exact ⟨k + 1, by omega, by go_num, HX.out.1, HX.out.2⟩
          case measure => simp [intOf] <;> omega
        · obtain rfl : T = k := by omega
          have HX := hid (And.intro hown hb)
          clear hown hb
          go_wp2
          go_ret2
          exact ⟨⟨_, rfl, HX.out.1⟩, HX.out.2⟩

set_option maxHeartbeats 1000000 in
theorem permpower_ok (v : Value) (l : List Int) (N : Nat) (f : Nat → Nat) (n : Int) (w : World) (hl : Sl w v l) (P : PmL l N f) (hn : ¬ (n < -4611686018427387904 ∨ 4611686018427387904 < n)) :
    Calls Try.prog 26 #[v, .int .i64 n] w fun e w' => (∃ u, e = .returned u ∧ OI w.heap.size w' u (powL f N (powT n (ordN f N)))) ∧ Below w.heap.size w w' := by
  have h12 := P.n12
  have hob := P.pm.ord_le h12 N
  rw [List.take_of_length_le (cycLen_len f N)] at hob
  have hord : 0 < ordN f N ∧ ordN f N ≤ 8916100448256 := hob
  have HO := hid (permorder_ok v l N f w hl P)
  have HST := hid (fun w1 => still_ok N w1 (by omega))
  have HT := hid (fun (t : Nat) (w1 : World) (u : Value) (hb : Below w.heap.size w w1) (hu : Sl w1 u (powL f N t)) => then_ok u v (powL f N t) l w1 hu (hl.below hb) (by rw [P.len]; exact pow_mem P.pm t) (by rw [pow_len]; omega))
  have HTH := hid (fun t => pow_then P t)
  have HPL := hid (pow_len f N)
  have HP0 := hid (pow_still f N)
  rw [← HP0.out] at HST
  obtain ⟨t1, t2, t3, t4⟩ := powT_spec (n := n) hord.1
  obtain ⟨a, cp, N', rfl, hN, hl1, hl2⟩ := hl.open
  obtain rfl : N' = N := by rw [← hN.out, P.len]
  clear P hob hl hl1 hl2
  generalize powT n (ordN f N') = T at *
  generalize ordN f N' = od at *
  have hod0 : ¬ (od : Int) = 0 := by omega
  go_enter Try.func26, Try.ntmps26
  go_wp2_with fail
  refine HO.out.mono ?_
  rintro e w1 ⟨rfl, hb1⟩
  have B1 := hid hb1
  clear hb1
  go_wp2_with fail
  refine (HST.out _).mono ?_
  rintro e w2 ⟨⟨s, rfl, hs⟩, hb2⟩
  have hsz1 := B1.out.size
  have HW := hid (And.intro (hs.mono hsz1) (B1.out.trans (hb2.mono hsz1)))
  clear hs hb2
  go_wp2
  go_loopw [6, 7] (fun o i wq => ∃ k : Nat, k ≤ T ∧ i = .int .i64 k ∧ OI w.heap.size wq o (powL f N' k) ∧ Below w.heap.size w wq) (fun _ i _ => T - (intOf i).toNat)
  case atStart => exact ⟨0, Nat.zero_le _, rfl, HW.out.1, HW.out.2⟩
  case round =>
    obtain ⟨k, hk, rfl, hown, hb⟩ := hrel
    by_cases hkT : k < T
    · have HTK := hid (HT.out k _ _ hb (hown.sl (by rw [HPL.out]; omega)))
      have HTHK := hid (HTH.out k)
      have HB := hid hb
      clear hown hb
      go_wp2_with fail
      refine HTK.out.mono ?_
      rintro e w4 ⟨⟨r, rfl, hr⟩, hb4⟩
      have HX := hid (And.intro ((hr.cast HTHK.out).mono (B' := w.heap.size) HB.out.size) (HB.out.trans (hb4.mono HB.out.size)))
      clear hr hb4
      go_wp2
      go_roundw
      case rel => exact ⟨k + 1, by omega, by go_num, HX.out.1, HX.out.2⟩
      case measure => simp [intOf] <;> omega
    · obtain rfl : T = k := by omega
      have HX := hid (And.intro hown hb)
      clear hown hb
      go_wp2
      go_ret
      exact ⟨⟨_, rfl, HX.out.1⟩, HX.out.2⟩
end Go.Proofs.Ytgfdddknajeknaa
