/-
  The walks over round.Rooms and parterreref4.RoomsOf. Condition: the slices can be read.
-/
import Derived.Test.YtlcndccjlbahpaaRperf
import Derived.BigQuiet
namespace Go.Proofs.Ytlcndccjlbahpaa
set_option linter.unusedVariables false
open Go.RowKit Go.Maps

/-- At how many of the first t places are two lists alike? -/
def smE (l m : List Int) : Nat → Nat
  | 0 => 0
  | t + 1 => smE l m t + (if l[t]?.getD 0 = m[t]?.getD 0 then 1 else 0)
def smB (n : Nat) (a b : List (List Int)) (i j : Nat) : Bool := decide (smE (a.getD i []) (b.getD j []) n ≤ 2)
def smAll (n : Nat) (a b : List (List Int)) : Bool := (List.range a.length).all fun i => (List.range b.length).all fun j => smB n a b i j
def rmB (n : Nat) (a b : List (List Int)) : Bool := (a.length == n - 1 && b.length == n - 1) && smAll n a b
theorem sm_no {n : Nat} {a b : List (List Int)} {i j : Nat} (hi : i < a.length) (hj : j < b.length) (h : smB n a b i j = false) : smAll n a b = false := by
  rw [Bool.eq_false_iff]
  intro h2
  have := List.all_eq_true.1 (List.all_eq_true.1 h2 i (List.mem_range.2 hi)) j (List.mem_range.2 hj)
  rw [h] at this
  cases this
theorem sm_yes {n : Nat} {a b : List (List Int)} (h : ∀ i, i < a.length → ∀ j, j < b.length → smB n a b i j = true) : smAll n a b = true :=
  List.all_eq_true.2 fun i hi => List.all_eq_true.2 fun j hj => h i (List.mem_range.1 hi) j (List.mem_range.1 hj)
theorem cell_dr {w wr : World} {q : Nat} {p : Addr} {v : Value} (h : wr = w.drewN q) (c : w.cell? p = some v) : wr.cell? p = some v := by
  rw [h]; exact c
theorem smE_le (l m : List Int) : ∀ t, smE l m t ≤ t
  | 0 => Nat.le_refl _
  | t + 1 => by
    have := smE_le l m t
    unfold smE
    split <;> omega

set_option maxHeartbeats 1000000 in
set_option maxRecDepth 100000 in
theorem RoomsOf_ok (n : Nat) (v u : Value) (la lb : List (List Int)) (w : World) (hl : RL w v la) (hm : RL w u lb) (hz : chkE n la = 0) (hz2 : chkE n lb = 0) :
    Calls Try.prog 22 #[.int .i64 n, v, u] w fun e w' => e = .returned (.bool (rmB n la lb)) ∧ ∃ q, w' = w.drewN q := by
  obtain ⟨m, hmn, h2, h3, h4, h5, h6, _⟩ := chk_zero hz
  obtain rfl : n = m := by omega
  obtain ⟨m, hmn2, _, _, _, h5', h6', _⟩ := chk_zero hz2
  obtain rfl : n = m := by omega
  have HL1 := hid (fun j hj => (rd_spec (n := n) (l := la.getD j []) (h6 j hj)).1)
  have HL2 := hid (fun j hj => (rd_spec (n := n) (l := lb.getD j []) (h6' j hj)).1)
  have HNO := hid (fun i j hi hj h => sm_no (n := n) (a := la) (b := lb) (i := i) (j := j) hi hj h)
  have HYE := hid (fun h => sm_yes (n := n) (a := la) (b := lb) h)
  have HSB : Hid (∀ i j, smB n la lb i j = decide (smE (la.getD i []) (lb.getD j []) n ≤ 2)) := hid fun i j => rfl
  have HPF : Hid (rmB n la lb = ((la.length == n - 1 && lb.length == n - 1) && smAll n la lb)) := hid rfl
  obtain ⟨a, c, N, rfl, hN, hl1, hl2⟩ := hl.open
  obtain ⟨a', c', M, rfl, hM, hm1, hm2⟩ := hm.open
  rw [hN.out] at HL1 HNO HYE HPF h5
  rw [hM.out] at HL2 HNO HYE HPF h5'
  rw [HPF.out]
  generalize smAll n la lb = W at *
  have HL := hid hl2
  have HM := hid hm2
  clear hl hm hz hz2 h6 h6' h4 hmn hmn2 hl2 hm2
  by_cases hln : N = n - 1
  · have hq1 : ((N : Int) != (n : Int) - 1) = false := by rw [bne_eq_false_iff_eq]; omega
    have hb1 : (N == n - 1) = true := by simpa using hln
    by_cases hlm : M = n - 1
    · have hq2 : ((M : Int) != (n : Int) - 1) = false := by rw [bne_eq_false_iff_eq]; omega
      have hb2 : (M == n - 1) = true := by simpa using hlm
      rw [hb1, hb2, Bool.and_self, Bool.true_and]
      have HLN := hid (And.intro hln hlm)
      clear hln hlm hb1 hb2 HPF
      go_enter Try.func22, Try.ntmps22
      go_wp2
      go_loopw [7, 8, 9, 10] (fun x _ _ _ wr => ∃ i : Nat, i ≤ N ∧ x = .int .i64 i ∧ Hid (∀ i', i' < i → ∀ j, j < M → smB n la lb i' j = true) ∧ ∃ q, wr = w.drewN q) (fun x _ _ _ _ => N - (intOf x).toNat)
      case atStart => exact ⟨0, Nat.zero_le _, rfl, hid (fun i' hi' => by omega), 0, rfl⟩
      case round =>
        obtain ⟨i, hi, rfl, hwh, q1, rfl⟩ := hrel
        by_cases hiN : i < N
        · go_wp2
          go_loopw [8, 9, 10] (fun x _ _ wr => ∃ j : Nat, j ≤ M ∧ x = .int .i64 j ∧ Hid (∀ j', j' < j → smB n la lb i j' = true) ∧ ∃ q, wr = w.drewN q) (fun x _ _ _ => M - (intOf x).toNat)
          case atStart => exact ⟨0, Nat.zero_le _, rfl, hid (fun i' hi' => by omega), q1, rfl⟩
          case round =>
            obtain ⟨j, hj, rfl, hwj, q2, rfl⟩ := hrel
            by_cases hji : j < M
            · obtain ⟨g, off, rfl, hg, hc⟩ := HL.out (by omega)
              obtain ⟨g', off', rfl, hg', hc'⟩ := HM.out (by omega)
              obtain ⟨u1, c1, s1⟩ := hc i hiN
              obtain ⟨u2, c2, s2⟩ := hc' j hji
              obtain ⟨a1, cp1, N1, rfl, hN1, hl1', hl2'⟩ := s1.open
              obtain ⟨a2, cp2, N2, rfl, hN2, hm1', hm2'⟩ := s2.open
              have q1 := HL1.out i hiN
              have q2 := HL2.out j hji
              obtain rfl : N1 = n := by rw [← hN1.out]; exact q1
              obtain rfl : N2 = N1 := by rw [← hN2.out]; exact q2
              have HHN := hid (HNO.out i j hiN hji)
              have HSI := hid (HSB.out i j)
              have hjN : (j : Int) < (M : Int) := by omega
              have hiN2 : (i : Int) < (N : Int) := by omega
              clear hc hc' s1 s2 q1 q2
              have HSM := hid (smE_le (la.getD i []) (lb.getD j []))
              have HS0 : Hid (smE (la.getD i []) (lb.getD j []) 0 = 0) := hid rfl
              have HSS : Hid (∀ t, smE (la.getD i []) (lb.getD j []) (t + 1) = smE (la.getD i []) (lb.getD j []) t + (if (la.getD i [])[t]?.getD 0 = (lb.getD j [])[t]?.getD 0 then 1 else 0)) := hid fun t => rfl
              generalize la.getD i [] = l1 at *
              generalize lb.getD j [] = l2 at *
              generalize smE l1 l2 = SM at *
              go_wp2
              go_loopw [9, 10] (fun s x wr => ∃ t : Nat, t ≤ N2 ∧ x = .int .i64 t ∧ s = .int .i64 (SM t : Nat) ∧ ∃ q, wr = w.drewN q) (fun _ x _ => N2 - (intOf x).toNat)
              case atStart => exact ⟨0, Nat.zero_le _, rfl, by rw [HS0.out]; rfl, _, rfl⟩
              case round =>
                obtain ⟨t, ht, rfl, rfl, q3, hwr⟩ := hrel
                have HWR := hid hwr
                have hle := HSM.out t
                by_cases htN : t < N2
                · obtain ⟨b1, o1, rfl, hb1, d1⟩ := hl2' (by omega)
                  obtain ⟨b2, o2, rfl, hb2, d2⟩ := hm2' (by omega)
                  have e1 := d1 t htN
                  have e2 := d2 t htN
                  have hss := HSS.out t
                  have c1 := cell_dr hwr c1
                  have c2 := cell_dr hwr c2
                  have e1 := cell_dr hwr e1
                  have e2 := cell_dr hwr e2
                  clear hwr d1 d2 hl2' hm2'
                  have HEQ : Hid (∀ q, wr.drewN q = w.drewN (q3 + q)) := hid (fun q => by rw [HWR.out]; simp only [World.drewN_drewN])
                  by_cases he : l1[t]?.getD 0 = l2[t]?.getD 0
                  · rw [if_pos he] at hss
                    rw [← he] at e2
                    have HSS' := hid hss
                    clear hss he
                    generalize l1[t]?.getD 0 = x at *
                    generalize SM t = y at *
                    go_wp2
                    go_quiet (fail)
                    go_wp2
                    go_roundw
                    case rel => exact ⟨t + 1, by omega, by go_num, by rw [HSS'.out]; go_num, _, HEQ.out _⟩
                    case measure => simp [intOf] <;> omega
                  · rw [if_neg he, Nat.add_zero] at hss
                    have hq : (l1[t]?.getD 0 == l2[t]?.getD 0) = false := by simpa using he
                    have HSS' := hid hss
                    clear hss he
                    generalize l1[t]?.getD 0 = x at *
                    generalize l2[t]?.getD 0 = x' at *
                    generalize SM t = y at *
                    go_wp2
                    go_quiet (fail)
                    go_wp2
                    go_roundw
                    case rel => exact ⟨t + 1, by omega, by go_num, by rw [HSS'.out]; rfl, _, HEQ.out _⟩
                    case measure => simp [intOf] <;> omega
                · obtain rfl : t = N2 := by omega
                  have HWH := hid (And.intro hwh.out hwj.out)
                  clear hl2' hm2' hwj
                  generalize SM t = y at *
                  subst hwr
                  by_cases hy : y ≤ 2
                  · have hci : ¬ (2 : Int) < (y : Int) := by omega
                    have HE : Hid (smB t la lb i j = true) := hid (by rw [HSI.out]; simpa using hy)
                    clear hy HSI
                    go_wp2
                    go_roundw
                    case rel =>
                      refine ⟨j + 1, by omega, by go_num, hid (fun j' hj' => ?_), _, rfl⟩
                      by_cases e : j' = j
                      · rw [e]; exact HE.out
                      · exact HWH.out.2 j' (by omega)
                    case measure => simp [intOf] <;> omega
                  · have hci : (2 : Int) < (y : Int) := by omega
                    have HE : Hid (W = false) := hid (HHN.out (by rw [HSI.out]; simpa using hy))
                    clear hy HSI
                    go_wp2
                    go_ret
                    exact ⟨by rw [HE.out]; rfl, _, rfl⟩
            · obtain rfl : j = M := by omega
              have HX := hid (And.intro hwh.out hwj.out)
              clear hwj hwh
              go_wp2
              go_roundw
              case rel =>
                refine ⟨i + 1, by omega, by go_num, hid (fun i' hi' => ?_), _, rfl⟩
                by_cases e : i' = i
                · rw [e]; exact HX.out.2
                · exact HX.out.1 i' (by omega)
              case measure => simp [intOf] <;> omega
        · obtain rfl : i = N := by omega
          have HX := hid (HYE.out hwh.out)
          clear hwh
          go_wp2
          go_ret
          exact ⟨by rw [HX.out]; rfl, _, rfl⟩
    · have hq2 : ((M : Int) != (n : Int) - 1) = true := by simp; omega
      have hb2 : (M == n - 1) = false := by simpa using hlm
      rw [hb2, Bool.and_false, Bool.false_and]
      clear hb1 hb2 hln hlm
      go_enter Try.func22, Try.ntmps22
      go_wp2
      go_ret
      exact ⟨rfl, 0, rfl⟩
  · have hq1 : ((N : Int) != (n : Int) - 1) = true := by simp; omega
    have hb1 : (N == n - 1) = false := by simpa using hln
    rw [hb1, Bool.false_and, Bool.false_and]
    clear hb1 hln
    go_enter Try.func22, Try.ntmps22
    go_wp2
    go_ret
    exact ⟨rfl, 0, rfl⟩

def rmE (n : Int) (la lb : List (List Int)) : Int := if chkE n la = 0 then chkE n lb else chkE n la

theorem lit2_0 (w : World) (x y : Value) (t : TypeId) : (w.alloc (.cells #[x, y] t)).cell? ⟨w.heap.size, 0, none⟩ = some x := by simp
theorem lit2_1 (w : World) (x y : Value) (t : TypeId) : (w.alloc (.cells #[x, y] t)).cell? ⟨w.heap.size, 1, none⟩ = some y := by simp
theorem lit2_lt (w : World) (x y : Value) (t : TypeId) : w.heap.size < (w.alloc (.cells #[x, y] t)).heap.size := by simp

theorem bel_dr {B : Nat} {w w' : World} (h : Below B w w') (q : Nat) : Below B w (w'.drewN q) := h.trans ⟨rfl, rfl, rfl, Nat.le_refl _, fun _ _ => rfl⟩
def rmZ (n : Int) (la lb : List (List Int)) : Bool := rmE n la lb == 0 && rmB n.toNat la lb
set_option maxHeartbeats 2000000 in
set_option maxRecDepth 100000 in
theorem Rooms_any (n : Int) (v u : Value) (la lb : List (List Int)) (w : World) (hl : RL w v la) (hm : RL w u lb) (hb : ∀ l ∈ la, ∀ x ∈ l, I64 x) (hb2 : ∀ l ∈ lb, ∀ x ∈ l, I64 x) :
    Calls Try.prog 21 #[.int .i64 n, v, u] w fun e w' => e = .returned (.tuple #[.bool (rmZ n la lb), .int .i64 (rmE n la lb)]) ∧ Below w.heap.size w w' := by
  have HC1 := hid (fun w1 (h : Below w.heap.size w w1) => Check_any n v la w1 (hl.below h) hb)
  have HC2 := hid (fun w1 (h : Below w.heap.size w w1) => Check_any n u lb w1 (hm.below h) hb2)
  have HE1 : Hid (chkE n la ≠ 0 → rmE n la lb = chkE n la ∧ rmZ n la lb = false) := hid (fun h => by
    have e : rmE n la lb = chkE n la := if_neg h
    refine ⟨e, ?_⟩
    unfold rmZ
    rw [e, show (chkE n la == 0) = false by simpa using h, Bool.false_and])
  have HE2 : Hid (chkE n la = 0 → chkE n lb ≠ 0 → rmE n la lb = chkE n lb ∧ rmZ n la lb = false) := hid (fun h h2 => by
    have e : rmE n la lb = chkE n lb := if_pos h
    refine ⟨e, ?_⟩
    unfold rmZ
    rw [e, show (chkE n lb == 0) = false by simpa using h2, Bool.false_and])
  have HE3 : Hid (chkE n la = 0 → chkE n lb = 0 → rmE n la lb = 0 ∧ rmZ n la lb = rmB n.toNat la lb) := hid (fun h h2 => by
    have e : rmE n la lb = 0 := (if_pos h).trans h2
    refine ⟨e, ?_⟩
    unfold rmZ
    rw [e, show ((0 : Int) == 0) = true from rfl, Bool.true_and])
  have HZ1 := hid (fun h => chk_zero (n := n) (ll := la) h)
  have HZ2 := hid (fun h => chk_zero (n := n) (ll := lb) h)
  clear hb hb2
  generalize rmZ n la lb = Z at *
  generalize rmE n la lb = E at *
  generalize chkE n la = E1 at *
  generalize chkE n lb = E2 at *
  obtain ⟨a, c, N, rfl, hN, hl1, hl2⟩ := hl.open
  obtain ⟨a', c', M, rfl, hM, hm1, hm2⟩ := hm.open
  have HL := hid hl2
  have HM := hid hm2
  clear hl hm hl2 hm2
  have k0 := lit2_0 w (.slice a N c) (.slice a' M c') 22
  have k1 := lit2_1 w (.slice a N c) (.slice a' M c') 22
  have hgw := lit2_lt w (.slice a N c) (.slice a' M c') 22
  have HB0 := hid ((Below.refl w.heap.size w).alloc (Nat.le_refl _) (.cells #[.slice a N c, .slice a' M c'] 22))
  go_enter Try.func21, Try.ntmps21
  go_wp2
  generalize w.alloc (.cells #[.slice a N c, .slice a' M c'] 22) = w0 at *
  go_loopw [21] (fun x wr => (x = .int .i64 0 ∨ (x = .int .i64 1 ∧ E1 = 0) ∨ (x = .int .i64 2 ∧ E1 = 0 ∧ E2 = 0)) ∧ Below w0.heap.size w0 wr) (fun x _ => 2 - (intOf x).toNat)
  case atStart => exact ⟨.inl rfl, Below.refl _ _⟩
  case round =>
    obtain ⟨hx, hb⟩ := hrel
    have c0 := (hb.cell (p := ⟨w.heap.size, 0, none⟩) hgw).trans k0
    have c1 := (hb.cell (p := ⟨w.heap.size, 1, none⟩) hgw).trans k1
    have HB := hid hb
    have HBW := hid (HB0.out.trans (hb.mono HB0.out.size))
    clear hb
    rcases hx with rfl | ⟨rfl, rfl⟩ | ⟨rfl, rfl, rfl⟩
    · have HC := hid (HC1.out wr HBW.out)
      by_cases hz : E1 = 0
      · subst hz
        go_wp2_with fail
        refine HC.out.mono ?_
        rintro e w2 ⟨rfl, hb2⟩
        have HX := hid (HB.out.trans (hb2.mono HB.out.size))
        clear hb2
        go_wp2
        go_roundw
        case rel => exact ⟨.inr (.inl ⟨by go_num, by trivial⟩), HX.out⟩
        case measure => simp [intOf] <;> omega
      · have hq : (E1 != 0) = true := by simpa using hz
        have HE := hid (HE1.out hz)
        clear hz
        go_wp2_with fail
        refine HC.out.mono ?_
        rintro e w2 ⟨rfl, hb2⟩
        have HX := hid (HBW.out.trans (hb2.mono HBW.out.size))
        clear hb2
        go_wp2
        go_ret2
        exact ⟨by rw [HE.out.1, HE.out.2]; rfl, HX.out⟩
    · have HC := hid (HC2.out wr HBW.out)
      by_cases hz : E2 = 0
      · subst hz
        go_wp2_with fail
        refine HC.out.mono ?_
        rintro e w2 ⟨rfl, hb2⟩
        have HX := hid (HB.out.trans (hb2.mono HB.out.size))
        clear hb2
        go_wp2
        go_roundw
        case rel => exact ⟨.inr (.inr ⟨by go_num, by trivial⟩), HX.out⟩
        case measure => simp [intOf] <;> omega
      · have hq : (E2 != 0) = true := by simpa using hz
        have HE := hid (HE2.out rfl hz)
        clear hz
        go_wp2_with fail
        refine HC.out.mono ?_
        rintro e w2 ⟨rfl, hb2⟩
        have HX := hid (HBW.out.trans (hb2.mono HBW.out.size))
        clear hb2
        go_wp2
        go_ret2
        exact ⟨by rw [HE.out.1, HE.out.2]; rfl, HX.out⟩
    · obtain ⟨hE, hZ⟩ := HE3.out rfl rfl
      obtain ⟨m, rfl, h2, h3, h4, h5, h6, _⟩ := HZ1.out rfl
      obtain ⟨m', hmn2, _, _, _, h5', h6', _⟩ := HZ2.out rfl
      obtain rfl : m = m' := by omega
      rw [Int.toNat_natCast] at hZ
      have HL1 := hid (fun j hj => (rd_spec (n := m) (l := la.getD j []) (h6 j hj)).1)
      have HL2 := hid (fun j hj => (rd_spec (n := m) (l := lb.getD j []) (h6' j hj)).1)
      have HNO := hid (fun i j hi hj h => sm_no (n := m) (a := la) (b := lb) (i := i) (j := j) hi hj h)
      have HYE := hid (fun h => sm_yes (n := m) (a := la) (b := lb) h)
      have HSB : Hid (∀ i j, smB m la lb i j = decide (smE (la.getD i []) (lb.getD j []) m ≤ 2)) := hid fun i j => rfl
      have HPF : Hid (rmB m la lb = ((la.length == m - 1 && lb.length == m - 1) && smAll m la lb)) := hid rfl
      rw [hN.out] at HL1 HNO HYE HPF h5
      rw [hM.out] at HL2 HNO HYE HPF h5'
      rw [HPF.out] at hZ
      generalize smAll m la lb = W at *
      clear HC1 HC2 HE1 HE2 HE3 HZ1 HZ2 h6 h6' h4 hmn2 c0 c1 k0 k1
      by_cases hln : N = m - 1
      · have hq1 : ((N : Int) != (m : Int) - 1) = false := by rw [bne_eq_false_iff_eq]; omega
        have hb1 : (N == m - 1) = true := by simpa using hln
        by_cases hlm : M = m - 1
        · have hq2 : ((M : Int) != (m : Int) - 1) = false := by rw [bne_eq_false_iff_eq]; omega
          have hb2 : (M == m - 1) = true := by simpa using hlm
          rw [hb1, hb2, Bool.and_self, Bool.true_and] at hZ
          have HEZ := hid (And.intro hE hZ)
          clear hE hZ
          have HLN := hid (And.intro hln hlm)
          clear hln hlm hb1 hb2 HPF HB HB0 hgw
          go_wp2
          go_loopw [46] (fun x wq => ∃ i : Nat, i ≤ N ∧ x = .int .i64 i ∧ Hid (∀ i', i' < i → ∀ j, j < M → smB m la lb i' j = true) ∧ Below w.heap.size w wq) (fun x _ => N - (intOf x).toNat)
          case atStart => exact ⟨0, Nat.zero_le _, rfl, hid (fun i' hi' => by omega), HBW.out⟩
          case round =>
            clear HBW
            obtain ⟨i, hi, rfl, hwh, hbi⟩ := hrel
            by_cases hiN : i < N
            · obtain ⟨g, off, rfl, hg, hc⟩ := HL.out (by omega)
              obtain ⟨u1, c1, s1⟩ := hc i hiN
              have c1 := (hbi.cell (p := ⟨g, off + i, none⟩) hg).trans c1
              have HBI := hid hbi
              obtain ⟨a1, cp1, N1, rfl, hN1, hl1', hl2'⟩ := s1.open
              have q1 := HL1.out i hiN
              obtain rfl : N1 = m := by rw [← hN1.out]; exact q1
              clear hc s1 hbi q1
              go_wp2
              go_loopw [52] (fun x wq => ∃ j : Nat, j ≤ M ∧ x = .int .i64 j ∧ Hid (∀ j', j' < j → smB N1 la lb i j' = true) ∧ Below w.heap.size w wq) (fun x _ => M - (intOf x).toNat)
              case atStart => exact ⟨0, Nat.zero_le _, rfl, hid (fun i' hi' => by omega), HBI.out⟩
              case round =>
                clear HBI c1
                obtain ⟨j, hj, rfl, hwj, hbj⟩ := hrel
                by_cases hji : j < M
                · obtain ⟨g', off', rfl, hg', hc'⟩ := HM.out (by omega)
                  obtain ⟨u2, c2, s2⟩ := hc' j hji
                  have c2 := (hbj.cell (p := ⟨g', off' + j, none⟩) hg').trans c2
                  have HBJ := hid hbj
                  obtain ⟨a2, cp2, N2, rfl, hN2, hm1', hm2'⟩ := s2.open
                  have q2 := HL2.out j hji
                  obtain rfl : N2 = N1 := by rw [← hN2.out]; exact q2
                  have HHN := hid (HNO.out i j hiN hji)
                  have HSI := hid (HSB.out i j)
                  clear hc' s2 q2 hbj
                  have HSM := hid (smE_le (la.getD i []) (lb.getD j []))
                  have HS0 : Hid (smE (la.getD i []) (lb.getD j []) 0 = 0) := hid rfl
                  have HSS : Hid (∀ t, smE (la.getD i []) (lb.getD j []) (t + 1) = smE (la.getD i []) (lb.getD j []) t + (if (la.getD i [])[t]?.getD 0 = (lb.getD j [])[t]?.getD 0 then 1 else 0)) := hid fun t => rfl
                  generalize hl1e : la.getD i [] = l1 at *
                  generalize lb.getD j [] = l2 at *
                  generalize smE l1 l2 = SM at *
                  clear hl1e
                  go_wp2
                  go_loopw [15, 57] (fun s x wq => ∃ t : Nat, t ≤ N2 ∧ x = .int .i64 t ∧ s = .int .i64 (SM t : Nat) ∧ Below w.heap.size w wq) (fun _ x _ => N2 - (intOf x).toNat)
                  case atStart => exact ⟨0, Nat.zero_le _, rfl, by rw [HS0.out]; rfl, HBJ.out⟩
                  case round =>
                    clear HBJ c2
                    obtain ⟨t, ht, rfl, rfl, hbt⟩ := hrel
                    have hle := HSM.out t
                    have HBT := hid hbt
                    by_cases htN : t < N2
                    · obtain ⟨b1, o1, rfl, hb1, d1⟩ := hl2' (by omega)
                      obtain ⟨b2, o2, rfl, hb2, d2⟩ := hm2' (by omega)
                      have e1 := (hbt.cell (p := ⟨b1, o1 + t, none⟩) hb1).trans (d1 t htN)
                      have e2 := (hbt.cell (p := ⟨b2, o2 + t, none⟩) hb2).trans (d2 t htN)
                      have hss := HSS.out t
                      clear hbt d1 d2 hl2' hm2'
                      by_cases he : l1[t]?.getD 0 = l2[t]?.getD 0
                      · rw [if_pos he] at hss
                        rw [← he] at e2
                        have HSS' := hid hss
                        clear hss he
                        generalize l1[t]?.getD 0 = x at *
                        generalize SM t = y at *
                        go_wp2
                        go_quiet (fail)
                        go_wp2
                        go_roundw
                        case rel => exact ⟨t + 1, by omega, by go_num, by rw [HSS'.out]; go_num, bel_dr HBT.out _⟩
                        case measure => simp [intOf] <;> omega
                      · rw [if_neg he, Nat.add_zero] at hss
                        have hq : (l1[t]?.getD 0 == l2[t]?.getD 0) = false := by simpa using he
                        have HSS' := hid hss
                        clear hss he
                        generalize l1[t]?.getD 0 = x at *
                        generalize l2[t]?.getD 0 = x' at *
                        generalize SM t = y at *
                        go_wp2
                        go_quiet (fail)
                        go_wp2
                        go_roundw
                        case rel => exact ⟨t + 1, by omega, by go_num, by rw [HSS'.out]; rfl, bel_dr HBT.out _⟩
                        case measure => simp [intOf] <;> omega
                    · obtain rfl : t = N2 := by omega
                      have HWH := hid (And.intro hwh.out hwj.out)
                      clear hl2' hm2' hwj hbt
                      generalize SM t = y at *
                      by_cases hy : y ≤ 2
                      · have hci : ¬ (2 : Int) < (y : Int) := by omega
                        have HE : Hid (smB t la lb i j = true) := hid (by rw [HSI.out]; simpa using hy)
                        clear hy HSI
                        go_wp2
                        go_roundw
                        case rel =>
                          refine ⟨j + 1, by omega, by go_num, hid (fun j' hj' => ?_), HBT.out⟩
                          by_cases e : j' = j
                          · rw [e]; exact HE.out
                          · exact HWH.out.2 j' (by omega)
                        case measure => simp [intOf] <;> omega
                      · have hci : (2 : Int) < (y : Int) := by omega
                        have HE : Hid (W = false) := hid (HHN.out (by rw [HSI.out]; simpa using hy))
                        clear hy HSI
                        go_wp2
                        go_ret2
                        exact ⟨by rw [HEZ.out.1, HEZ.out.2, HE.out]; rfl, HBT.out⟩
                · obtain rfl : j = M := by omega
                  have HX := hid (And.intro hwh.out (And.intro hwj.out hbj))
                  clear hwj hwh hbj
                  go_wp2
                  go_roundw
                  case rel =>
                    refine ⟨i + 1, by omega, by go_num, hid (fun i' hi' => ?_), HX.out.2.2⟩
                    by_cases e : i' = i
                    · rw [e]; exact HX.out.2.1
                    · exact HX.out.1 i' (by omega)
                  case measure => simp [intOf] <;> omega
            · obtain rfl : i = N := by omega
              have HX := hid (And.intro (HYE.out hwh.out) hbi)
              clear hwh hbi
              go_wp2
              go_ret2
              exact ⟨by rw [HEZ.out.1, HEZ.out.2, HX.out.1]; rfl, HX.out.2⟩
        · have hq2 : ((M : Int) != (m : Int) - 1) = true := by simp; omega
          have hb2 : (M == m - 1) = false := by simpa using hlm
          rw [hb2, Bool.and_false, Bool.false_and] at hZ
          have HEZ := hid (And.intro hE hZ)
          clear hE hZ
          clear hb1 hb2 hln hlm
          go_wp2
          go_ret2
          exact ⟨by rw [HEZ.out.1, HEZ.out.2]; rfl, HBW.out⟩
      · have hq1 : ((N : Int) != (m : Int) - 1) = true := by simp; omega
        have hb1 : (N == m - 1) = false := by simpa using hln
        rw [hb1, Bool.false_and, Bool.false_and] at hZ
        have HEZ := hid (And.intro hE hZ)
        clear hE hZ
        clear hb1 hln
        go_wp2
        go_ret2
        exact ⟨by rw [HEZ.out.1, HEZ.out.2]; rfl, HBW.out⟩
end Go.Proofs.Ytlcndccjlbahpaa
