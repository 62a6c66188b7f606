/-
  The walk over parterreref1.Fault. Conditions: the slice can be read, the numbers are of 64 bits.
-/
import Derived.Test.YthdlhfgeminoiaaDoorFrdiv
import Derived.BigQuiet
namespace Go.Proofs.YthdlhfgeminoiaaDoor
set_option linter.unusedVariables false
open Go.RowKit

def ofF (p x : Int) : Bool := decide (x < 0) || decide (p ≤ x)
def rdD (P k : Nat) (low : List Nat) (g : Nat) : Bool := (List.range (P ^ g)).all fun c => !(rdB P g k (dgL P c g) low)
def rdF (P k : Nat) (low : List Nat) : Bool := (List.range (k / 2)).all fun i => rdD P k low (i + 1)
def toN (low : List Int) : List Nat := low.map Int.toNat
/-- What is wrong with a field. -/
def faE (p k : Int) (low : List Int) : Int := if ordF p k = 0 then 1 else if low.length ≠ k.toNat then 2 else if low.any (ofF p) = true then 1 else if rdF p.toNat k.toNat (toN low) = true then 0 else 4
theorem fa_bad {p k : Int} {low : List Int} (h : ordF p k = 0) : faE p k low = 1 := if_pos h
theorem fa_len {p k : Int} {low : List Int} (h : ordF p k ≠ 0) (h2 : low.length ≠ k.toNat) : faE p k low = 2 := by rw [faE, if_neg h, if_pos h2]
theorem fa_off {p k : Int} {low : List Int} (h : ordF p k ≠ 0) (h2 : low.length = k.toNat) {i : Nat} (hi : i < low.length) (h3 : ofF p (low[i]?.getD 0) = true) : faE p k low = 1 := by
  rw [faE, if_neg h, if_neg (by omega), if_pos]
  exact List.any_eq_true.2 ⟨_, List.getElem_mem hi, by rw [List.getElem?_eq_getElem hi, Option.getD_some] at h3; exact h3⟩
theorem fa_in {p k : Int} {low : List Int} (h : ordF p k ≠ 0) (h2 : low.length = k.toNat) (h3 : ∀ i, i < low.length → ofF p (low[i]?.getD 0) = false) : faE p k low = if rdF p.toNat k.toNat (toN low) = true then 0 else 4 := by
  rw [faE, if_neg h, if_neg (by omega), if_neg]
  intro hc
  obtain ⟨x, hx, hx2⟩ := List.any_eq_true.1 hc
  obtain ⟨i, hi, rfl⟩ := List.mem_iff_getElem.1 hx
  have := h3 i hi
  rw [List.getElem?_eq_getElem hi, Option.getD_some, hx2] at this
  cases this
theorem toN_nZ {p : Int} {low : List Int} (h : ∀ i, i < low.length → ofF p (low[i]?.getD 0) = false) : nZ (toN low) = low := by
  apply List.ext_getElem
  · simp [nZ, toN]
  · intro i h1 h2
    have := h i h2
    rw [List.getElem?_eq_getElem h2, Option.getD_some] at this
    unfold ofF at this
    simp only [Bool.or_eq_false_iff, decide_eq_false_iff_not] at this
    simp [nZ, toN]
    omega
theorem toN_lt {P : Nat} {low : List Int} (hP : 0 < P) (h : ∀ i, i < low.length → ofF P (low[i]?.getD 0) = false) : ∀ j, (toN low).getD j 0 < P := by
  intro j
  by_cases hj : j < low.length
  · have := h j hj
    rw [List.getElem?_eq_getElem hj, Option.getD_some] at this
    unfold ofF at this
    simp only [Bool.or_eq_false_iff, decide_eq_false_iff_not] at this
    simp [toN, List.getD_eq_getElem?_getD, hj]
    omega
  · simp [toN, List.getD_eq_getElem?_getD, hj]
    omega
theorem rdD_no {P k g c : Nat} {low : List Nat} (hn : c < P ^ g) (h : rdB P g k (dgL P c g) low = true) : rdD P k low g = false := by
  rw [Bool.eq_false_iff]
  intro hc
  have := List.all_eq_true.1 hc c (List.mem_range.2 hn)
  rw [h] at this
  cases this
theorem rdD_yes {P k g : Nat} {low : List Nat} (h : ∀ c, c < P ^ g → rdB P g k (dgL P c g) low = false) : rdD P k low g = true :=
  List.all_eq_true.2 fun n hn => by rw [h n (List.mem_range.1 hn)]; rfl
theorem rdF_no {P k g : Nat} {low : List Nat} (h1 : 1 ≤ g) (h2 : 2 * g ≤ k) (h : rdD P k low g = false) : rdF P k low = false := by
  rw [Bool.eq_false_iff]
  intro hc
  have := List.all_eq_true.1 hc (g - 1) (List.mem_range.2 (by omega))
  rw [show g - 1 + 1 = g by omega, h] at this
  cases this
theorem rdF_yes {P k : Nat} {low : List Nat} (h : ∀ g, 1 ≤ g → 2 * g ≤ k → rdD P k low g = true) : rdF P k low = true :=
  List.all_eq_true.2 fun i hi => h (i + 1) (by omega) (by have := List.mem_range.1 hi; omega)

set_option maxHeartbeats 1000000 in
set_option maxRecDepth 100000 in
theorem Fault_bad (p k : Int) (u : Value) (low : List Int) (w : World) (ip : I64 p) (ik : I64 k) (hu : Sl w u low) (h : ordF p k = 0 ∨ low.length ≠ k.toNat) :
    Calls Tryd.prog 14 #[fldV p k u] w fun e w' => e = .returned (.int .i64 (faE p k low)) ∧ Below w.heap.size w w' := by
  have HO := hid (fun w1 => OrderOf_any p k w1 ip ik)
  obtain ⟨a, c, N, rfl, hN, hl1, hl2⟩ := hu.open
  have HB := hid ((Below.refl w.heap.size w).alloc (Nat.le_refl _) (.cells #[.int .i64 p, .int .i64 k, .slice a N c] 24))
  by_cases h0 : ordF p k = 0
  · have HE := hid (fa_bad (low := low) h0)
    rw [h0] at HO
    clear hu hl2 h h0
    unfold fldV
    go_enter Tryd.func14, Tryd.ntmps14
    go_wp2_with fail
    refine (HO.out _).mono ?_
    rintro e w1 ⟨rfl, rfl⟩
    go_wp2
    go_ret
    exact ⟨by rw [HE.out]; rfl, HB.out⟩
  · have hln : low.length ≠ k.toNat := h.resolve_left h0
    have HE := hid (fa_len h0 hln)
    obtain ⟨P, K, rfl, rfl, hpr, hp2, hp61, hk1, hk6, hq64, hord⟩ := ord_pos h0
    rw [Int.toNat_natCast, hN.out] at hln
    have hq : (((ordF (P : Int) (K : Int) : Nat) : Int) == 0) = false := by rw [beq_eq_false_iff_ne]; omega
    have hq2 : ((N : Int) != (K : Int)) = true := by simp; omega
    have hqs : ordF (P : Int) (K : Int) ≤ 64 := by omega
    clear hu hl2 h hln hpr hord
    generalize ordF (P : Int) (K : Int) = Q at *
    unfold fldV
    go_enter Tryd.func14, Tryd.ntmps14
    go_wp2_with fail
    refine (HO.out _).mono ?_
    rintro e w1 ⟨rfl, rfl⟩
    go_wp2
    go_ret
    exact ⟨by rw [HE.out]; rfl, HB.out⟩

set_option maxHeartbeats 2000000 in
set_option maxRecDepth 100000 in
theorem Fault_ok (P K : Nat) (u : Value) (low : List Int) (w : World) (hu : Sl w u low) (h0 : ordF P K ≠ 0) (hlen : low.length = K) (hi64 : ∀ x ∈ low, I64 x) :
    Calls Tryd.prog 14 #[fldV P K u] w fun e w' => e = .returned (.int .i64 (faE P K low)) ∧ Below w.heap.size w w' := by
  obtain ⟨P', K', e1, e2, hpr, hp2, hp61, hk1, hk6, hq64, hord⟩ := ord_pos h0
  obtain rfl : P = P' := by omega
  obtain rfl : K = K' := by omega
  have HO := hid (fun w1 => OrderOf_any P K w1 (by unfold I64; omega) (by unfold I64; omega))
  have HOFF := hid (fun i hi h => fa_off h0 (low := low) (by rw [Int.toNat_natCast]; exact hlen) (i := i) hi h)
  have HIN := hid (fun h => fa_in h0 (low := low) (by rw [Int.toNat_natCast]; exact hlen) h)
  rw [Int.toNat_natCast, Int.toNat_natCast] at HIN
  have HNZ := hid (fun h => toN_nZ (p := P) (low := low) h)
  have HLT := hid (fun h => toN_lt (P := P) (low := low) (by omega) h)
  have HTL : Hid ((toN low).length = K) := hid (by rw [toN, List.length_map]; exact hlen)
  have HI64 : Hid (∀ i, i < K → I64 (low[i]?.getD 0)) := hid (fun i hi => hi64 _ (by rw [List.getElem?_eq_getElem (by omega)]; exact List.getElem_mem _))
  have HSL := hid hu
  obtain ⟨a, cp, N, rfl, hN, hl1, hl2⟩ := hu.open
  obtain rfl : N = K := by rw [← hN.out]; exact hlen
  rw [hlen] at HOFF HIN HNZ HLT
  have hq : (((ordF (P : Int) (N : Int) : Nat) : Int) == 0) = false := by rw [beq_eq_false_iff_ne]; omega
  have hqs : ordF (P : Int) (N : Int) ≤ 64 := by omega
  have HDN := hid (fun g c h1 h => rdD_no (P := P) (k := N) (g := g) (c := c) (low := toN low) h1 h)
  have HDY := hid (fun g h => rdD_yes (P := P) (k := N) (g := g) (low := toN low) h)
  have HFN := hid (fun g h1 h2 h => rdF_no (P := P) (k := N) (g := g) (low := toN low) h1 h2 h)
  have HFY := hid (fun h => rdF_yes (P := P) (k := N) (low := toN low) h)
  have HDIG := hid (fun c g w1 (hc : c ≤ 64) (hg : g ≤ 6) => Digits_ok P c g w1 (by omega) (by omega) (by omega) (by omega))
  have HRDV := hid (fun g c (v : Value) (w1 : World) (hlt : ∀ j, (toN low).getD j 0 < P) (hnz : nZ (toN low) = low) (h1 : 1 ≤ g) (h2 : g ≤ N) (hv : Sl w1 v (nZ (dgL P c g))) (hu : Sl w1 (.slice a N cp) low) => rdivides_ok P g N (dgL P c g) (toN low) v (.slice a N cp) w1 hv (by rw [hnz]; exact hu) hp2 (by omega) (dgL_len P c g) HTL.out (dgL_lt hp2 g) hlt h1 h2 hk6)
  have HPS : Hid (∀ i, P ^ (i + 1) = P ^ i * P) := hid fun i => rfl
  have HP0 : Hid (P ^ 0 = 1) := hid rfl
  have HPK : Hid (∀ i, i ≤ N → P ^ i ≤ 64) := hid (fun i hi => Nat.le_trans (Nat.pow_le_pow_right (by omega) hi) hq64)
  have hA0 : Arr (w.alloc (.cells #[.int .i64 (P : Int), .int .i64 (N : Int), .slice a N cp] 24)) w.heap.size 24 [.int .i64 (P : Int), .int .i64 (N : Int), .slice a N cp] := Arr.new w _ _
  have HA0 := hid (And.intro hA0 ((Below.refl w.heap.size w).alloc (Nat.le_refl _) (.cells #[.int .i64 (P : Int), .int .i64 (N : Int), .slice a N cp] 24)))
  have hqn : ((N : Int) != (N : Int)) = false := by simp
  have HL2 := hid hl2
  generalize faE (P : Int) (N : Int) low = E at *
  generalize ordF (P : Int) (N : Int) = Q at *
  obtain ⟨f, hf⟩ : ∃ f : Nat → Nat, f = fun i => P ^ i := ⟨_, rfl⟩
  have HF : Hid (∀ i, P ^ i = f i) := hid (fun i => by rw [hf])
  clear hf hu hl2 hpr hord hq64 hlen hi64 hA0 h0
  unfold fldV
  go_enter Tryd.func14, Tryd.ntmps14
  go_wp2_with fail
  refine (HO.out _).mono ?_
  rintro e w1 ⟨rfl, rfl⟩
  go_wp2
  generalize w.alloc (.cells #[.int .i64 (P : Int), .int .i64 (N : Int), .slice a N cp] 24) = w0 at *
  go_loopw [4] (fun x wr => ∃ i : Nat, i ≤ N ∧ x = .int .i64 i ∧ Hid (∀ j, j < i → ofF P (low[j]?.getD 0) = false) ∧ Arr wr w.heap.size 24 [.int .i64 (P : Int), .int .i64 (N : Int), .slice a N cp] ∧ Below w.heap.size w wr) (fun x _ => N - (intOf x).toNat)
  case atStart => exact ⟨0, Nat.zero_le _, rfl, hid (fun j hj => by omega), HA0.out.1, HA0.out.2⟩
  case round =>
    clear HA0
    obtain ⟨i, hi, rfl, hH, hA, hb⟩ := hrel
    have k0 := hA.cell 0
    have k1 := hA.cell 1
    have k2 := hA.cell 2
    simp only [List.getElem?_cons_zero, List.getElem?_cons_succ] at k0 k1 k2
    have HA := hid (And.intro hA hb)
    by_cases hlt : i < N
    · obtain ⟨b, off, rfl, hbl, hc⟩ := HL2.out (by omega)
      have hca := (hb.cell (p := ⟨b, off + i, none⟩) hbl).trans (hc i hlt)
      have hii := HI64.out i hlt
      have HOFI := hid (HOFF.out i hlt)
      have HNX : Hid (ofF P (low[i]?.getD 0) = false → ∀ j, j < i + 1 → ofF P (low[j]?.getD 0) = false) := hid (fun h j hj => by
        by_cases e : j = i
        · rw [e]; exact h
        · exact hH.out j (by omega))
      have hNi : (i : Int) < (N : Int) := by omega
      clear hc hH hA hb
      generalize low[i]?.getD 0 = x at *
      unfold I64 at hii
      by_cases hx0 : x < 0
      · have hd : decide (x < 0) = true := decide_eq_true hx0
        have HE := hid (HOFI.out (by unfold ofF; rw [hd, Bool.true_or]))
        clear HOFI HNX hx0
        go_wp2
        go_quiet (fail)
        go_wp2
        go_ret
        exact ⟨by rw [HE.out]; rfl, below_drewN HA.out.2 _⟩
      · have hd : decide (x < 0) = false := decide_eq_false hx0
        by_cases hxp : (P : Int) ≤ x
        · have hd2 : decide ((P : Int) ≤ x) = true := decide_eq_true hxp
          have HE := hid (HOFI.out (by unfold ofF; rw [hd, hd2]; rfl))
          clear HOFI HNX hx0 hxp
          go_wp2
          go_quiet (fail)
          go_wp2
          go_ret
          exact ⟨by rw [HE.out]; rfl, below_drewN HA.out.2 _⟩
        · have hd2 : decide ((P : Int) ≤ x) = false := decide_eq_false hxp
          have HX := hid (HNX.out (by unfold ofF; rw [hd, hd2]; rfl))
          clear HOFI HNX hx0 hxp
          go_wp2
          go_quiet (fail)
          go_wp2
          go_roundw
          case rel => exact ⟨i + 1, by omega, by go_num, HX, HA.out.1, below_drewN HA.out.2 _⟩
          case measure => simp [intOf] <;> omega
    · obtain rfl : i = N := by omega
      have hEE := HIN.out hH.out
      have hnz := HNZ.out hH.out
      have hlt2 := HLT.out hH.out
      have HRD := hid (fun g c (v : Value) (w1 : World) h1 h2 hv hu => HRDV.out g c v w1 hlt2 hnz h1 h2 hv hu)
      have HEE := hid hEE
      clear hEE hnz hlt2 HRDV HOFF HIN HNZ HLT hH hA hb
      generalize rdF P i (toN low) = R at *
      go_wp2
      go_loopw [5, 6, 7, 8, 9] (fun m x _ _ _ wr => ∃ g : Nat, 1 ≤ g ∧ 2 * g ≤ i + 2 ∧ x = .int .i64 g ∧ m = .int .i64 (f (g - 1) : Nat) ∧ Hid (∀ g', 1 ≤ g' → g' < g → rdD P i (toN low) g' = true) ∧ Arr wr w.heap.size 24 [.int .i64 (P : Int), .int .i64 (i : Int), .slice a i cp] ∧ Below w.heap.size w wr) (fun _ x _ _ _ _ => i + 2 - (intOf x).toNat)
      case atStart => exact ⟨1, by omega, by omega, rfl, by rw [show (1 : Nat) - 1 = 0 from rfl, ← HF.out, HP0.out]; rfl, hid (fun g h1 h2 => by omega), HA.out.1, HA.out.2⟩
      case round =>
        clear HA k0 k1 k2
        obtain ⟨g, hg1, hg2, rfl, rfl, hH, hA, hb⟩ := hrel
        have k0 := hA.cell 0
        have k1 := hA.cell 1
        have k2 := hA.cell 2
        simp only [List.getElem?_cons_zero, List.getElem?_cons_succ] at k0 k1 k2
        have HA := hid (And.intro hA hb)
        by_cases hge : 2 * g ≤ i
        · have hgi : 2 * (g : Int) ≤ (i : Int) := by omega
          have hs := HPS.out (g - 1)
          rw [show g - 1 + 1 = g by omega, HF.out, HF.out] at hs
          have hle2 := HPK.out g (by omega)
          rw [HF.out] at hle2
          have hle1 := HPK.out (g - 1) (by omega)
          rw [HF.out] at hle1
          have n1 : (f (g - 1) : Int) * (P : Int) = ((f g : Nat) : Int) := by rw [hs]; simp
          have HHH := hid hH.out
          clear hs hA hb hH
          generalize f (g - 1) = xm at *
          go_wp2
          go_loopw [7, 8, 9] (fun x _ _ wq => ∃ c : Nat, c ≤ f g ∧ x = .int .i64 c ∧ Hid (∀ c', c' < c → rdB P g i (dgL P c' g) (toN low) = false) ∧ Arr wq w.heap.size 24 [.int .i64 (P : Int), .int .i64 (i : Int), .slice a i cp] ∧ Below w.heap.size w wq) (fun x _ _ _ => f g - (intOf x).toNat)
          case atStart => exact ⟨0, by omega, rfl, hid (fun n h => by omega), HA.out.1, HA.out.2⟩
          case round =>
            clear HA k0 k1 k2
            obtain ⟨c, hc, rfl, hN2, hA, hb⟩ := hrel
            by_cases hcl : c < f g
            · have hci : (c : Int) < (f g : Int) := by omega
              have k0 := hA.cell 0
              have k1 := hA.cell 1
              have k2 := hA.cell 2
              simp only [List.getElem?_cons_zero, List.getElem?_cons_succ] at k0 k1 k2
              have HDG := hid (HDIG.out c g wr (by omega) (by omega))
              have HRR := hid (fun (v : Value) (w1 : World) hv hu => HRD.out g c v w1 hg1 (by omega) hv hu)
              have HNN := hid (HDN.out g c (by rw [HF.out]; exact hcl))
              have HNX : Hid (rdB P g i (dgL P c g) (toN low) = false → ∀ c', c' < c + 1 → rdB P g i (dgL P c' g) (toN low) = false) := hid (fun h c' hc' => by
                by_cases e : c' = c
                · rw [e]; exact h
                · exact hN2.out c' (by omega))
              have HFNG := hid (HFN.out g hg1 hge)
              have HA := hid (And.intro hA hb)
              have HDLN : Hid ((nZ (dgL P c g)).length ≤ 17592186044416) := hid (by rw [nZ_len, dgL_len]; omega)
              clear hN2 hA hb
              generalize rdB P g i (dgL P c g) (toN low) = B at *
              go_wp2_with fail
              refine HDG.out.mono ?_
              rintro e w2 ⟨⟨u2, rfl, hu2⟩, hb2⟩
              have hA2 := HA.out.1.below hb2
              have k3 := hA2.cell 0
              have k4 := hA2.cell 2
              simp only [List.getElem?_cons_zero, List.getElem?_cons_succ] at k3 k4
              have hbb := HA.out.2.trans (hb2.mono HA.out.2.size)
              have HR2 := hid (HRR.out u2 w2 (OI.sl (l := nZ (dgL P c g)) hu2 HDLN.out) (HSL.out.below hbb))
              have H2 := hid (And.intro hA2 hbb)
              clear hu2 hb2 hA2 hbb k0 k1 k2
              go_wp2_with fail
              refine HR2.out.mono ?_
              rintro e w3 ⟨rfl, hb3⟩
              have H3 := hid (And.intro (H2.out.1.below hb3) (H2.out.2.trans (hb3.mono H2.out.2.size)))
              clear hb3 k3 k4
              cases B with
              | true =>
                have hE : E = 4 := by rw [HEE.out, HFNG.out (HNN.out rfl)]; rfl
                subst hE
                go_wp2
                go_ret
                exact ⟨rfl, H3.out.2⟩
              | false =>
                have HNX2 := hid (HNX.out rfl)
                go_wp2
                go_roundw
                case rel => exact ⟨c + 1, by omega, by go_num, HNX2, H3.out.1, H3.out.2⟩
                case measure => simp [intOf] <;> omega
            · obtain rfl : c = f g := by omega
              have HD := hid (HDY.out g (fun c' hc' => hN2.out c' (by rw [← HF.out]; exact hc')))
              have HX := hid (And.intro hA hb)
              clear hA hb hN2
              go_wp2
              go_roundw
              case rel =>
                refine ⟨g + 1, by omega, by omega, by go_num, by rw [show g + 1 - 1 = g from rfl], hid (fun g' h1 h2 => ?_), HX.out.1, HX.out.2⟩
                by_cases e : g' = g
                · rw [e]; exact HD.out
                · exact HHH.out g' h1 (by omega)
              case measure => simp [intOf] <;> omega
        · have hgi : ¬ 2 * (g : Int) ≤ (i : Int) := by omega
          have hE : E = 0 := by rw [HEE.out, HFY.out (fun g' h1 h2 => hH.out g' h1 (by omega))]; rfl
          subst hE
          clear hA hb hH
          go_wp2
          go_ret
          exact ⟨rfl, HA.out.2⟩
end Go.Proofs.YthdlhfgeminoiaaDoor
