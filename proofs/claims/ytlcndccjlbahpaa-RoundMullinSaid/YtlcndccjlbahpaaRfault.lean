/-
  The walk over parterreref4.RoundsFault. Condition: the slices can be read.
-/
import Derived.Test.YtlcndccjlbahpaaRchk
namespace Go.Proofs.Ytlcndccjlbahpaa
set_option linter.unusedVariables false
open Go.RowKit Go.Maps

theorem off_no {n : Nat} {l : List Int} (h : l.length = n) (h2 : ∀ t : Nat, t < n → ¬ (l[t]?.getD 0 < 0) ∧ ¬ ((n : Int) ≤ l[t]?.getD 0)) : l.any (offR n) = false :=
  any_false fun k hk => by
    have := h2 k (by omega)
    rw [offR_false]
    omega
theorem tw_yes {n : Nat} {ll : List (List Int)} {i j a : Nat} (hi : i < ll.length) (hj : j < i) (ha : a < n) (h : (ll.getD i [])[a]?.getD 0 = (ll.getD j [])[a]?.getD 0) : twB n ll = true := by
  unfold twB
  simp only [List.any_eq_true, List.mem_range, beq_iff_eq]
  exact ⟨i, hi, j, hj, a, ha, h⟩
theorem tw_no {n : Nat} {ll : List (List Int)} (h : ∀ i, i < ll.length → ∀ j, j < i → ∀ a, a < n → (ll.getD i [])[a]?.getD 0 ≠ (ll.getD j [])[a]?.getD 0) : twB n ll = false := by
  unfold twB
  rw [List.any_eq_false]
  intro i hi
  rw [Bool.not_eq_true, List.any_eq_false]
  intro j hj
  rw [Bool.not_eq_true, List.any_eq_false]
  intro a ha
  rw [beq_iff_eq]
  exact h i (List.mem_range.1 hi) j (List.mem_range.1 hj) a (List.mem_range.1 ha)

set_option maxHeartbeats 1000000 in
set_option maxRecDepth 100000 in
theorem RoundsFault_any (n : Int) (v : Value) (ll : List (List Int)) (w : World) (hl : RL w v ll) :
    Calls Try.prog 17 #[.int .i64 n, v] w fun e w' => e = .returned (.int .i64 (chkE n ll)) ∧ ∃ q, w' = w.drewN q := by
  by_cases hn1 : n < 2
  · have HE := hid (chk_bad (n := n) (ll := ll) (by simp [tmB]; omega))
    go_enter Try.func17, Try.ntmps17
    go_wp2
    go_ret
    exact ⟨by rw [HE.out]; rfl, 0, rfl⟩
  by_cases hn2 : 16 < n
  · have HE := hid (chk_bad (n := n) (ll := ll) (by simp [tmB]; omega))
    go_enter Try.func17, Try.ntmps17
    go_wp2
    go_ret
    exact ⟨by rw [HE.out]; rfl, 0, rfl⟩
  obtain ⟨m, rfl⟩ : ∃ m : Nat, n = (m : Int) := ⟨n.toNat, by omega⟩
  have hmt : (m : Int).tmod 2 = ((m % 2 : Nat) : Int) := (Int.ofNat_tmod m 2).symm
  by_cases hme : m % 2 = 1
  · have HE := hid (chk_bad (n := (m : Int)) (ll := ll) (by simp [tmB]; omega))
    rw [hme] at hmt
    go_enter Try.func17, Try.ntmps17
    go_wp2
    go_ret
    exact ⟨by rw [HE.out]; rfl, 0, rfl⟩
  have hme0 : m % 2 = 0 := by omega
  rw [hme0] at hmt
  have htm : tmB (m : Int) = true := by simp [tmB]; omega
  have HFU := hid (fun h2 => chk_full (ll := ll) htm h2)
  have HER := hid (fun h2 k h3 hk h4 => chk_err (ll := ll) htm h2 (k := k) h3 hk h4)
  have HEN := hid (fun h2 h3 => chk_end (ll := ll) htm h2 h3)
  rw [Int.toNat_natCast] at HFU HER HEN
  obtain ⟨a, c, N, rfl, hN, hl1, hl2⟩ := hl.open
  rw [hN.out] at HFU HER HEN
  by_cases hfull : m - 1 < N
  · have HE := hid (HFU.out hfull)
    have hci : ((m : Int) - 1 < (N : Int)) := by omega
    rw [HE.out]
    clear hl2 hl
    go_enter Try.func17, Try.ntmps17
    go_wp2
    go_ret
    exact ⟨rfl, 0, rfl⟩
  have hN15 : N ≤ 15 := by omega
  have hci : ¬ ((m : Int) - 1 < (N : Int)) := by omega
  have HER2 := hid (HER.out hfull)
  have HEN2 := hid (HEN.out hfull)
  have HAT := hid (fun j h1 h2 => off_at (n := m) (l := ll.getD j []) h1 h2)
  have HNO := hid (fun j h1 h2 => off_no (n := m) (l := ll.getD j []) h1 h2)
  have HLE := hid (fun j h1 => rdE_len (n := m) (l := ll.getD j []) h1)
  have HOE := hid (fun j h1 h2 => rdE_off (n := m) (l := ll.getD j []) h1 h2)
  have HNE := hid (fun j h1 h2 t ht h3 => rdE_not (n := m) (l := ll.getD j []) h1 h2 (t := t) ht h3)
  have HOKE := hid (fun j h1 h2 h3 => rdE_ok (n := m) (l := ll.getD j []) h1 h2 h3)
  have HSP := hid (fun j h => rd_spec (n := m) (l := ll.getD j []) h)
  have HTY := hid (fun i j a h1 h2 h3 h4 => tw_yes (n := m) (ll := ll) (i := i) (j := j) (a := a) h1 h2 h3 h4)
  have HTN := hid (fun h => tw_no (n := m) (ll := ll) h)
  rw [hN.out] at HTY HTN
  have HM : Hid (∀ j t, meets (ll.getD j []) t = (!((ll.getD j [])[t]?.getD 0 == (t : Int)) && ((ll.getD j [])[((ll.getD j [])[t]?.getD 0).toNat]?.getD 0 == (t : Int)))) := hid fun j t => rfl
  clear HFU HER HEN hl hfull htm
  generalize chkE (m : Int) ll = E at *
  go_enter Try.func17, Try.ntmps17
  go_wp2
  go_loopw [5, 6, 7, 8] (fun i _ _ _ wr => ∃ k : Nat, k ≤ N ∧ i = .int .i64 k ∧ Hid (∀ j, j < k → rdE m (ll.getD j []) = 0) ∧ w = wr) (fun i _ _ _ _ => N - (intOf i).toNat)
  case atStart => exact ⟨0, Nat.zero_le _, rfl, hid (fun j hj => by omega), rfl⟩
  case round =>
    obtain ⟨k, hk, rfl, hok, rfl⟩ := hrel
    by_cases hlt : k < N
    · obtain ⟨g, off, rfl, hg, hc⟩ := hl2 (by omega)
      obtain ⟨u1, c1, s1⟩ := hc k hlt
      obtain ⟨a1, cp1, N1, rfl, hN1, hl1', hl2'⟩ := s1.open
      have HC := hid hc
      clear hc hl2 s1
      by_cases hlen : N1 = m
      · subst hlen
        have HATK := hid (HAT.out k hN1.out)
        have HNOK := hid (HNO.out k hN1.out)
        have HOEK := hid (HOE.out k hN1.out)
        have HNEK := hid (HNE.out k hN1.out)
        have HOKK := hid (HOKE.out k hN1.out)
        have HMK := hid (HM.out k)
        have HE4 : Hid (∀ z, rdE N1 (ll.getD k []) = z → z ≠ 0 → E = z) := hid (fun z h1 h2 => by rw [← h1]; exact HER2.out k hok.out hlt (by rw [h1]; exact h2))
        have HN0 : Hid (rdE N1 (ll.getD k []) = 0 → ∀ j, j < k + 1 → rdE N1 (ll.getD j []) = 0) := hid (fun h j hj => by
          by_cases e : j = k
          · rw [e]; exact h
          · exact hok.out j (by omega))
        generalize hL1 : ll.getD k [] = l1 at *
        clear hL1
        go_wp2
        go_loopw [7] (fun i wr => ∃ t : Nat, t ≤ N1 ∧ i = .int .i64 t ∧ Hid (∀ s : Nat, s < t → ¬ (l1[s]?.getD 0 < 0) ∧ ¬ ((N1 : Int) ≤ l1[s]?.getD 0)) ∧ w = wr) (fun i _ => N1 - (intOf i).toNat)
        case atStart => exact ⟨0, Nat.zero_le _, rfl, hid (fun j hj => by omega), rfl⟩
        case round =>
          obtain ⟨t, ht, rfl, hno, rfl⟩ := hrel
          by_cases htN : t < N1
          · obtain ⟨b, off2, rfl, hb2, hc2⟩ := hl2' (by omega)
            have c2 := hc2 t htN
            clear hc2 hl2'
            by_cases h1 : l1[t]?.getD 0 < 0
            · have HE := hid (HE4.out 1 (HOEK.out (any_true (by rw [hN1.out]; exact htN) (by simp [offR, h1]))) (by decide))
              clear hno
              generalize l1[t]?.getD 0 = x at *
              go_wp2
              go_ret
              exact ⟨by rw [HE.out]; rfl, 0, rfl⟩
            by_cases h2 : (N1 : Int) ≤ l1[t]?.getD 0
            · have HE := hid (HE4.out 1 (HOEK.out (any_true (by rw [hN1.out]; exact htN) (by simp [offR, h2]))) (by decide))
              clear hno
              generalize l1[t]?.getD 0 = x at *
              go_wp2
              go_ret
              exact ⟨by rw [HE.out]; rfl, 0, rfl⟩
            · have HS : Hid (∀ s : Nat, s < t + 1 → ¬ (l1[s]?.getD 0 < 0) ∧ ¬ ((N1 : Int) ≤ l1[s]?.getD 0)) := hid (fun s hs => by
                by_cases e : s = t
                · rw [e]; exact ⟨h1, h2⟩
                · exact hno.out s (by omega))
              clear hno
              generalize l1[t]?.getD 0 = x at *
              go_wp2
              go_roundw
              case rel => exact ⟨t + 1, by omega, by go_num, HS, by trivial⟩
              case measure => simp [intOf] <;> omega
          · obtain rfl : t = N1 := by omega
            have HAN := hid (HNOK.out (fun s hs => by have := hno.out s hs; constructor <;> omega))
            have HX := hid (HATK.out HAN.out)
            have HNT := hid (HNEK.out HAN.out)
            have HOT := hid (HOKK.out HAN.out)
            clear hno
            go_wp2
            go_loopw [8] (fun i wr => ∃ s : Nat, s ≤ t ∧ i = .int .i64 s ∧ Hid (∀ r : Nat, r < s → meets l1 r = true) ∧ w = wr) (fun i _ => t - (intOf i).toNat)
            case atStart => exact ⟨0, Nat.zero_le _, rfl, hid (fun j hj => by omega), rfl⟩
            case round =>
              obtain ⟨s, hs, rfl, hmt2, rfl⟩ := hrel
              by_cases hst : s < t
              · obtain ⟨b, off2, rfl, hb2, hc2⟩ := hl2' (by omega)
                obtain ⟨x, hx, hxN⟩ := HX.out s hst
                obtain ⟨y, hy, hyN⟩ := HX.out x hxN
                have c2 := hc2 s hst
                have c3 := hc2 x hxN
                have hm := HMK.out s
                rw [hx, Int.toNat_natCast, hy] at hm
                rw [hx] at c2
                rw [hy] at c3
                clear hc2 hl2' hx hy
                have HALL := hmt2
                clear hmt2
                by_cases he1 : x = s
                · have hq1 : ((x : Int) == (s : Int)) = true := by rw [beq_iff_eq]; omega
                  rw [hq1] at hm
                  have HE := hid (HE4.out 4 (HNT.out s hst hm) (by decide))
                  clear hm he1 c3
                  go_wp2
                  go_ret
                  exact ⟨by rw [HE.out]; rfl, 0, rfl⟩
                · have hq1 : ((x : Int) == (s : Int)) = false := by rw [beq_eq_false_iff_ne]; omega
                  rw [hq1] at hm
                  by_cases he2 : y = s
                  · have hq2 : ((y : Int) == (s : Int)) = true := by rw [beq_iff_eq]; omega
                    have hq3 : ((y : Int) != (s : Int)) = false := by rw [bne, hq2]; rfl
                    rw [hq2] at hm
                    have HE : Hid (∀ r, r < s + 1 → meets l1 r = true) := hid (fun r hr => by
                      by_cases e : r = s
                      · rw [e]; exact hm
                      · exact HALL.out r (by omega))
                    clear hm he1 he2 hq2
                    go_wp2
                    go_roundw
                    case rel => exact ⟨s + 1, by omega, by go_num, HE, by trivial⟩
                    case measure => simp [intOf] <;> omega
                  · have hq2 : ((y : Int) == (s : Int)) = false := by rw [beq_eq_false_iff_ne]; omega
                    have hq3 : ((y : Int) != (s : Int)) = true := by rw [bne, hq2]; rfl
                    rw [hq2] at hm
                    have HE := hid (HE4.out 4 (HNT.out s hst hm) (by decide))
                    clear hm he1 he2 hq2
                    go_wp2
                    go_ret
                    exact ⟨by rw [HE.out]; rfl, 0, rfl⟩
              · obtain rfl : s = t := by omega
                have HE := hid (HN0.out (HOT.out hmt2.out))
                clear hmt2 hl2'
                go_wp2
                go_roundw
                case rel => exact ⟨k + 1, by omega, by go_num, HE, by trivial⟩
                case measure => simp [intOf] <;> omega
      · have HE := hid (HER2.out k hok.out hlt (by rw [HLE.out k (by rw [hN1.out]; exact hlen)]; decide))
        rw [HLE.out k (by rw [hN1.out]; exact hlen)] at HE
        have hq : ((N1 : Int) != (m : Int)) = true := by simp; omega
        clear hlen hl2'
        go_wp2
        go_ret
        exact ⟨by rw [HE.out]; rfl, 0, rfl⟩
    · obtain rfl : k = N := by omega
      have HEE := hid (HEN2.out hok.out)
      have HRD := hid (fun j hj => HSP.out j (hok.out j hj))
      have HYE : Hid (twB m ll = true → E = 6) := hid (fun h => by rw [HEE.out, if_pos h])
      have HNOE : Hid (twB m ll = false → E = 0) := hid (fun h => by rw [HEE.out, if_neg (by rw [h]; decide)])
      clear hok
      have HTNK := hid HTN.out
      have HTYK := hid HTY.out
      go_wp2
      go_loopw [9, 10, 11] (fun x _ _ wr => ∃ i : Nat, i ≤ k ∧ x = .int .i64 i ∧ Hid (∀ i', i' < i → ∀ j, j < i' → ∀ a, a < m → (ll.getD i' [])[a]?.getD 0 ≠ (ll.getD j [])[a]?.getD 0) ∧ ∃ q, wr = w.drewN q) (fun x _ _ _ => k - (intOf x).toNat)
      case atStart => exact ⟨0, Nat.zero_le _, rfl, hid (fun i' hi' => by omega), 0, rfl⟩
      case round =>
        obtain ⟨i, hi, rfl, hne, ⟨q, rfl⟩⟩ := hrel
        by_cases hik : i < k
        · go_wp2
          go_loopw [10, 11] (fun x _ wr => ∃ j : Nat, j ≤ i ∧ x = .int .i64 j ∧ Hid (∀ j', j' < j → ∀ a, a < m → (ll.getD i [])[a]?.getD 0 ≠ (ll.getD j' [])[a]?.getD 0) ∧ ∃ q, wr = w.drewN q) (fun x _ _ => i - (intOf x).toNat)
          case atStart => exact ⟨0, Nat.zero_le _, rfl, hid (fun i' hi' => by omega), q, rfl⟩
          case round =>
            obtain ⟨j, hj, rfl, hne2, ⟨q2, rfl⟩⟩ := hrel
            by_cases hji : j < i
            · obtain ⟨g, off, rfl, hg, hc⟩ := hl2 (by omega)
              obtain ⟨u1, c1, s1⟩ := hc i hik
              obtain ⟨u2, c2, s2⟩ := hc j (by omega)
              obtain ⟨a1, cp1, N1, rfl, hN1, hl1', hl2'⟩ := s1.open
              obtain ⟨a2, cp2, N2, rfl, hN2, hm1', hm2'⟩ := s2.open
              have hNm : N1 = m := by rw [← hN1.out]; exact (HRD.out i hik).1
              have hNm2 : N2 = m := by rw [← hN2.out]; exact (HRD.out j (by omega)).1
              subst hNm
              subst hNm2
              have HTY2 := hid (fun a ha h => HYE.out (HTYK.out i j a hik hji ha h))
              have HC := hid hc
              clear hc hl2 s1 s2
              have HL1 : Hid (∃ L1, ll.getD i [] = L1) := hid ⟨_, rfl⟩
              have HL2 : Hid (∃ L2, ll.getD j [] = L2) := hid ⟨_, rfl⟩
              obtain ⟨L1, hL1⟩ := HL1.out
              obtain ⟨L2, hL2⟩ := HL2.out
              rw [hL1] at hl2' HTY2
              rw [hL2] at hm2' HTY2
              have HLE1 := hid hL1
              have HLE2 := hid hL2
              clear hL1 hL2 HL1 HL2
              go_wp2
              go_loopw [11] (fun x wr => ∃ a : Nat, a ≤ N2 ∧ x = .int .i64 a ∧ Hid (∀ a', a' < a → L1[a']?.getD 0 ≠ L2[a']?.getD 0) ∧ ∃ q, wr = w.drewN q) (fun x _ => N2 - (intOf x).toNat)
              case atStart => exact ⟨0, Nat.zero_le _, rfl, hid (fun i' hi' => by omega), q2, rfl⟩
              case round =>
                obtain ⟨a, ha, rfl, hne3, ⟨q3, rfl⟩⟩ := hrel
                by_cases haN : a < N2
                · obtain ⟨b1, o1, rfl, hb1, hd1⟩ := hl2' (by omega)
                  obtain ⟨b2, o2, rfl, hb2, hd2⟩ := hm2' (by omega)
                  have e1 := hd1 a haN
                  have e2 := hd2 a haN
                  clear hd1 hd2 hl2' hm2'
                  by_cases hxe : L1[a]?.getD 0 = L2[a]?.getD 0
                  · have HE := hid (HTY2.out a haN hxe)
                    have hq : (L1[a]?.getD 0 == L2[a]?.getD 0) = true := by simpa using hxe
                    clear hxe hne3
                    generalize L1[a]?.getD 0 = x at *
                    generalize L2[a]?.getD 0 = y at *
                    go_wp2
                    go_quiet (fail)
                    go_wp2
                    go_ret
                    refine ⟨by rw [HE.out]; rfl, ?_⟩
                    first | exact ⟨_, rfl⟩ | (simp only [World.drewN_drewN]; exact ⟨_, rfl⟩)
                  · have hq : (L1[a]?.getD 0 == L2[a]?.getD 0) = false := by simpa using hxe
                    have HE : Hid (∀ a', a' < a + 1 → L1[a']?.getD 0 ≠ L2[a']?.getD 0) := hid (fun a' ha' => by
                      by_cases e : a' = a
                      · rw [e]; exact hxe
                      · exact hne3.out a' (by omega))
                    clear hxe hne3
                    generalize L1[a]?.getD 0 = x at *
                    generalize L2[a]?.getD 0 = y at *
                    go_wp2
                    go_quiet (fail)
                    go_wp2
                    go_roundw
                    case rel => exact ⟨a + 1, by omega, by go_num, HE, by first | exact ⟨_, rfl⟩ | (simp only [World.drewN_drewN]; exact ⟨_, rfl⟩)⟩
                    case measure => simp [intOf] <;> omega
                · obtain rfl : a = N2 := by omega
                  have HE : Hid (∀ j', j' < j + 1 → ∀ c, c < a → (ll.getD i [])[c]?.getD 0 ≠ (ll.getD j' [])[c]?.getD 0) := hid (fun j' hj' c hc => by
                    by_cases e : j' = j
                    · rw [e, HLE1.out, HLE2.out]; exact hne3.out c hc
                    · exact hne2.out j' (by omega) c hc)
                  clear hne3 hne2 hl2' hm2'
                  go_wp2
                  go_roundw
                  case rel => exact ⟨j + 1, by omega, by go_num, HE, by first | exact ⟨_, rfl⟩ | (simp only [World.drewN_drewN]; exact ⟨_, rfl⟩)⟩
                  case measure => simp [intOf] <;> omega
            · obtain rfl : j = i := by omega
              have HE : Hid (∀ i', i' < j + 1 → ∀ j', j' < i' → ∀ a, a < m → (ll.getD i' [])[a]?.getD 0 ≠ (ll.getD j' [])[a]?.getD 0) := hid (fun i' hi' j' hj' a ha => by
                by_cases e : i' = j
                · subst e; exact hne2.out j' hj' a ha
                · exact hne.out i' (by omega) j' hj' a ha)
              clear hne hne2 hl2
              go_wp2
              go_roundw
              case rel => exact ⟨j + 1, by omega, by go_num, HE, by first | exact ⟨_, rfl⟩ | (simp only [World.drewN_drewN]; exact ⟨_, rfl⟩)⟩
              case measure => simp [intOf] <;> omega
        · obtain rfl : i = k := by omega
          have HE := hid (HNOE.out (HTNK.out hne.out))
          clear hne hl2
          go_wp2
          go_ret
          refine ⟨by rw [HE.out]; rfl, ?_⟩
          first | exact ⟨_, rfl⟩ | (simp only [World.drewN_drewN]; exact ⟨_, rfl⟩)
end Go.Proofs.Ytlcndccjlbahpaa
