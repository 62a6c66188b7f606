/-
  The walks over slices.insertionSortCmpFunc, pdqsortCmpFunc and SortFunc of few slices of ints. Conditions: the slice is the call's own, of 1 to 12; the function handed over compares, and only reads.
-/
import Derived.Test.YthbpdfkaacgpoaaSortO
import Derived.Test.YthbpdfkaacgpoaaSlib
namespace Go.Proofs.Ythbpdfkaacgpoaa
set_option linter.unusedVariables false
open Go.RowKit Go.Shelf

def ltC (cm : Value → Value → Int) (a b : Value) : Bool := decide (cm a b < 0)
def swpV (Y : List Value) (j : Nat) : List Value := (Y.set (j + 1) (Y.getD j undef)).set j (Y.getD (j + 1) undef)
theorem insC_yes {cm : Value → Value → Int} {Y : List Value} {j : Nat} (h : cm (Y.getD (j + 1) undef) (Y.getD j undef) < 0) : insJ (ltC cm) undef (j + 1) Y = insJ (ltC cm) undef j (swpV Y j) := by rw [insJ, if_pos (show ltC cm _ _ = true from decide_eq_true h)]; rfl
theorem insC_no {cm : Value → Value → Int} {Y : List Value} {j : Nat} (h : ¬ cm (Y.getD (j + 1) undef) (Y.getD j undef) < 0) : insJ (ltC cm) undef (j + 1) Y = Y := by rw [insJ, if_neg (by unfold ltC; rw [decide_eq_false h]; decide)]
theorem swpV_len (Y : List Value) (j : Nat) : (swpV Y j).length = Y.length := by simp [swpV]
theorem swpV_mem {Y : List Value} {j : Nat} (h : j + 1 < Y.length) : ∀ x ∈ swpV Y j, x ∈ Y := by
  intro x hx
  unfold swpV at hx
  have h1 : Y.getD j undef ∈ Y := by rw [List.getD_eq_getElem?_getD, List.getElem?_eq_getElem (by omega)]; exact List.getElem_mem _
  have h2 : Y.getD (j + 1) undef ∈ Y := by rw [List.getD_eq_getElem?_getD, List.getElem?_eq_getElem h]; exact List.getElem_mem _
  rcases List.mem_or_eq_of_mem_set hx with e | e
  · rcases List.mem_or_eq_of_mem_set e with e | e
    · exact e
    · rw [e]; exact h1
  · rw [e]; exact h2
/-- A comparing function: on these values, wherever the row alone has turned. -/
structure CmpV (c : FuncId) (cap : Array Value) (cm : Value → Value → Int) (vs : List Value) (g : Nat) (w : World) : Prop where
  enter : ∀ (args : Array Value) (w : World), (callFunc c args).run Try.prog w = .ok (.enter c args) w
  form : ∀ p ∈ vs, ∃ a n k, p = .slice a n k
  calls : ∀ (p q : Value) (W : World), p ∈ vs → q ∈ vs → w.grownBy W (some g) → Calls Try.prog c (#[p, q] ++ cap) W fun e W' => e = .returned (.int .i64 (cm p q)) ∧ ∃ n, W' = W.drewN n

set_option maxHeartbeats 2000000 in
set_option maxRecDepth 100000 in
theorem insortC_ok (c : FuncId) (cap : Array Value) (cm : Value → Value → Int) (B g N cc : Nat) (vs : List Value) (w : World) (hO : Ow 22 B w (.slice (some ⟨g, 0, none⟩) N cc) vs) (hl : vs.length = N) (hN1 : 1 ≤ N) (hN : N ≤ 12) (hcm : CmpV c cap cm vs g w) :
    Calls Try.prog 58 #[.slice (some ⟨g, 0, none⟩) N cc, .int .i64 0, .int .i64 N, .func (.func c) #[] cap] w fun e w' => e = .returned (.tuple #[]) ∧ Ow 22 B w' (.slice (some ⟨g, 0, none⟩) N cc) (insI (ltC cm) undef N vs) ∧ w.grownBy w' (some g) := by
  have HL := hid hcm.calls
  have HVF := hid hcm.form
  have he := hcm.enter
  have HI1 := hid (insI_one (ltC cm) undef vs)
  have HIL : Hid (∀ k, (insI (ltC cm) undef k vs).length = N) := hid (fun k => by rw [insI_len, hl])
  have HIS : Hid (∀ k, insI (ltC cm) undef (k + 1) vs = insJ (ltC cm) undef k (insI (ltC cm) undef k vs)) := hid (fun k => rfl)
  have HLN := hid hl
  have HO := hid hO
  have HMI : Hid (∀ k, k ≤ N → ∀ x ∈ insI (ltC cm) undef k vs, x ∈ vs) := hid (fun k hk => by
    have hperm : ∀ (j : Nat) (Y : List Value), j < Y.length → ∀ x ∈ insJ (ltC cm) undef j Y, x ∈ Y := fun j => by
      induction j with
      | zero => intro Y _ x hx; exact hx
      | succ j ih =>
        intro Y hj x hx
        rw [insJ] at hx
        split at hx
        · exact swpV_mem hj x (ih (swpV Y j) (by rw [swpV_len]; omega) x hx)
        · exact hx
    induction k with
    | zero => intro x hx; exact hx
    | succ k ih => intro x hx; exact ih (by omega) x (hperm k _ (by rw [insI_len, hl]; omega) x hx))
  generalize insI (ltC cm) undef = II at *
  clear hO hl hcm
  go_enter Try.func58, Try.ntmps58
  go_wp2
  go_loopw [8, 9] (fun x _ wr => ∃ i : Nat, x = .int .i64 i ∧ 1 ≤ i ∧ i ≤ N ∧ Ow 22 B wr (.slice (some ⟨g, 0, none⟩) N cc) (II i vs) ∧ w.grownBy wr (some g)) (fun x _ _ => N - (intOf x).toNat)
  case atStart => exact ⟨1, rfl, Nat.le_refl _, hN1, by rw [HI1.out]; exact HO.out, grown_refl _ _⟩
  case round =>
    obtain ⟨i, rfl, hi1, hiN, hO, hG⟩ := hrel
    by_cases hlt : i < N
    · have hlti : (i : Int) < (N : Int) := by omega
      have HX := hid (And.intro hO hG)
      have HISi := hid (HIS.out i)
      have HILi := hid (HIL.out i)
      have HMIi := hid (HMI.out i hiN)
      clear hO hG
      go_wp2_with fail
      go_loopw [9] (fun x wq => ∃ (j : Nat) (Y : List Value), x = .int .i64 j ∧ j ≤ i ∧ Hid (Y.length = N) ∧ Hid (∀ x ∈ Y, x ∈ vs) ∧ Hid (insJ (ltC cm) undef j Y = II (i + 1) vs) ∧ Ow 22 B wq (.slice (some ⟨g, 0, none⟩) N cc) Y ∧ w.grownBy wq (some g)) (fun x _ => (intOf x).toNat)
      case atStart => exact ⟨i, II i vs, rfl, Nat.le_refl _, HILi, HMIi, hid HISi.out.symm, HX.out.1, HX.out.2⟩
      case round =>
        clear HX
        obtain ⟨j, Y, rfl, hji, HYN, HYM, HYI, hO, hG⟩ := hrel
        cases j with
        | zero =>
          have h0 : decide ((0 : Int) < ((0 : Nat) : Int)) = false := by simp
          have HF : Hid (Y = II (i + 1) vs) := hid HYI.out
          have HX := hid (And.intro hO (grown_drewN hG))
          clear hO hG
          go_wp2
          go_quiet (fail)
          go_wp2
          go_roundw
          case rel => exact ⟨i + 1, by go_num, by omega, by omega, by rw [← HF.out]; exact HX.out.1.drewN _, HX.out.2 _⟩
          case measure => simp [intOf] <;> omega
        | succ j =>
          have hp : decide ((0 : Int) < ((j + 1 : Nat) : Int)) = true := by simp
          have hpp : (0 : Int) < ((j + 1 : Nat) : Int) := by omega
          have hjm : ((j + 1 : Nat) : Int) - 1 = (j : Int) := by omega
          have hj1 := hO.cell (j + 1) (by rw [HYN.out]; omega)
          have hj0 := hO.cell j (by rw [HYN.out]; omega)
          have hY1 : Y[j + 1]? = some (Y.getD (j + 1) undef) := by rw [List.getD_eq_getElem?_getD, List.getElem?_eq_getElem (by rw [HYN.out]; omega)]; rfl
          have hY0 : Y[j]? = some (Y.getD j undef) := by rw [List.getD_eq_getElem?_getD, List.getElem?_eq_getElem (by rw [HYN.out]; omega)]; rfl
          have hm1 : Y.getD (j + 1) undef ∈ vs := HYM.out _ (List.mem_of_getElem? hY1)
          have hm0 : Y.getD j undef ∈ vs := HYM.out _ (List.mem_of_getElem? hY0)
          rw [hY1] at hj1
          rw [hY0] at hj0
          clear hY1 hY0
          have HLL := hid (fun n => HL.out (Y.getD (j + 1) undef) (Y.getD j undef) (wr.drewN n) hm1 hm0 (grown_drewN hG n))
          have hF1 := HVF.out _ hm1
          have hF0 := HVF.out _ hm0
          clear hm1 hm0
          by_cases hyy : cm (Y.getD (j + 1) undef) (Y.getD j undef) < 0
          · have HN2 := hid ((insC_yes hyy).symm.trans HYI.out)
            have HX := hid (fun n => show Ow 22 B (((wr.drewN n).setCell ⟨g, j + 1, none⟩ (Y.getD j undef)).setCell ⟨g, j, none⟩ (Y.getD (j + 1) undef)) (.slice (some ⟨g, 0, none⟩) N cc) (swpV Y j) ∧ w.grownBy (((wr.drewN n).setCell ⟨g, j + 1, none⟩ (Y.getD j undef)).setCell ⟨g, j, none⟩ (Y.getD (j + 1) undef)) (some g) from by
              have hs1 := (hO.drewN n).stored (j + 1) (Y.getD j undef)
              have hs2 := hs1.1.stored j (Y.getD (j + 1) undef)
              exact ⟨hs2.1, grown_trans1 (grown_trans1 (grown_drewN hG n) hs1.2) hs2.2⟩)
            have hf1 := hO.frozen (j + 1)
            have hf0 := hO.frozen j
            have HYL2 : Hid ((swpV Y j).length = N) := hid (by rw [swpV_len, HYN.out])
            have HYM2 : Hid (∀ x ∈ swpV Y j, x ∈ vs) := hid (fun x hx => HYM.out x (swpV_mem (by rw [HYN.out]; omega) x hx))
            clear hO hG
            generalize swpV Y j = Y2 at *
            generalize Y.getD (j + 1) undef = y1 at *
            generalize Y.getD j undef = y0 at *
            obtain ⟨b1, n1, k1, rfl⟩ := hF1
            obtain ⟨b0, n0, k0, rfl⟩ := hF0
            generalize cm (.slice b1 n1 k1) (.slice b0 n0 k0) = z at *
            have hjn : (j : Int) < (N : Int) := by omega
            have hjn1 : ((j + 1 : Nat) : Int) < (N : Int) := by omega
            have hjj : j < j + 1 := by omega
            generalize hj1e : j + 1 = j1 at *
            have hpn : decide (0 < j1) = true := by simp; omega
            have hw := IntWalk.i64_in (j : Int) (by omega)
            go_wp2
            go_quiet ((exact Calls.quiet_of (HLL.out _)))
            go_wp2
            go_region
            go_wp2
            go_roundw
            case rel => exact ⟨j, Y2, by go_num, by omega, HYL2, HYM2, HN2, (HX.out _).1, (HX.out _).2⟩
            case measure => simp [intOf] <;> omega
          · have HN2 : Hid (Y = II (i + 1) vs) := hid ((insC_no hyy).symm.trans HYI.out)
            have HX := hid (And.intro hO (grown_drewN hG))
            clear hO hG
            generalize Y.getD (j + 1) undef = y1 at *
            generalize Y.getD j undef = y0 at *
            clear hF1 hF0
            generalize cm y1 y0 = z at *
            have hjn : (j : Int) < (N : Int) := by omega
            have hjn1 : ((j + 1 : Nat) : Int) < (N : Int) := by omega
            generalize hj1e : j + 1 = j1 at *
            have hpn : decide (0 < j1) = true := by simp; omega
            have hw := IntWalk.i64_in (j : Int) (by omega)
            go_wp2
            go_quiet ((exact Calls.quiet_of (HLL.out _)))
            go_wp2
            go_roundw
            case rel => exact ⟨i + 1, by go_num, by omega, by omega, by rw [← HN2.out]; exact HX.out.1.drewN _, HX.out.2 _⟩
            case measure => simp [intOf] <;> omega
    · obtain rfl : i = N := by omega
      have hlti : ¬ (i : Int) < (i : Int) := by omega
      have HX := hid (And.intro hO hG)
      clear hO hG
      go_wp2
      go_end0
      exact ⟨rfl, HX.out.1, HX.out.2⟩

set_option maxHeartbeats 1000000 in
set_option maxRecDepth 100000 in
theorem pdqC_ok (c : FuncId) (cap : Array Value) (cm : Value → Value → Int) (B g N cc n : Nat) (vs : List Value) (w : World) (hO : Ow 22 B w (.slice (some ⟨g, 0, none⟩) N cc) vs) (hl : vs.length = N) (hN1 : 1 ≤ N) (hN : N ≤ 12) (hcm : CmpV c cap cm vs g w) (hn : n ≤ 64) :
    Calls Try.prog 53 #[.slice (some ⟨g, 0, none⟩) N cc, .int .i64 0, .int .i64 N, .int .i64 n, .func (.func c) #[] cap] w fun e w' => e = .returned (.tuple #[]) ∧ Ow 22 B w' (.slice (some ⟨g, 0, none⟩) N cc) (insI (ltC cm) undef N vs) ∧ w.grownBy w' (some g) := by
  have HS := hid (insortC_ok c cap cm B g N cc vs w hO hl hN1 hN hcm)
  clear hO hl hcm
  have h12 : (N : Int) ≤ 12 := by omega
  go_enter Try.func53, Try.ntmps53
  go_wp2
  go_loopw [1, 2] (fun x y wr => x = .int .i64 0 ∧ y = .int .i64 N ∧ wr = w) (fun _ _ _ => 0)
  case atStart => exact ⟨rfl, rfl, rfl⟩
  case round =>
    obtain ⟨rfl, rfl, rfl⟩ := hrel
    go_wp2_with fail
    refine HS.out.mono ?_
    rintro e w2 ⟨rfl, h2⟩
    have HX := hid h2
    clear h2
    go_wp2
    first | go_end0 | refine bodyPost_ret (results_none rfl _ _ _) rfl ?_
    exact ⟨rfl, HX.out⟩
set_option maxHeartbeats 1000000 in
set_option maxRecDepth 100000 in
theorem sortFunc_ok (c : FuncId) (cap : Array Value) (cm : Value → Value → Int) (B g N cc : Nat) (vs : List Value) (w : World) (hO : Ow 22 B w (.slice (some ⟨g, 0, none⟩) N cc) vs) (hl : vs.length = N) (hN1 : 1 ≤ N) (hN : N ≤ 12) (hcm : CmpV c cap cm vs g w) :
    Calls Try.prog 45 #[.slice (some ⟨g, 0, none⟩) N cc, .func (.func c) #[] cap] w fun e w' => e = .returned (.tuple #[]) ∧ Ow 22 B w' (.slice (some ⟨g, 0, none⟩) N cc) (insI (ltC cm) undef N vs) ∧ w.grownBy w' (some g) := by
  have HB := hid (bitsLen_any N w (by omega))
  have HP := hid (fun n (hn : n ≤ 64) => pdqC_ok c cap cm B g N cc n vs w hO hl hN1 hN hcm hn)
  clear hO hl hcm
  have hmod : (N : Int) % 18446744073709551616 = (N : Int) := by omega
  go_enter Try.func45, Try.ntmps45
  go_wp2_with fail
  refine HB.out.mono ?_
  rintro e w1 ⟨⟨n, hn, rfl⟩, rfl⟩
  go_wp2_with fail
  refine (HP.out n hn).mono ?_
  rintro e w2 ⟨rfl, h2⟩
  have HX := hid h2
  clear h2
  go_wp2
  go_end0
  exact ⟨rfl, HX.out⟩
end Go.Proofs.Ythbpdfkaacgpoaa
