/-
  The walks over parterreref1.Inverse, Power, RootOf, LogOf and TraceOf. Conditions: the field is one; the slice can be read.
-/
import Derived.Test.YthdlhfgeminoiaaDoorFexp
namespace Go.Proofs.YthdlhfgeminoiaaDoor
set_option linter.unusedVariables false
open Go.RowKit

theorem size_ok {P K n Q : Nat} (hQ : Q = P ^ K) (h : FOk P K n) {u : Value} {w : World} (hu : Sl w u (nZ (dgL P n K))) :
    Calls Tryd.prog 44 #[fldV P K u] w fun e w' => e = .returned (.int .i64 Q) ∧ Below w.heap.size w w' := by
  have h1 := Size_any P K u (nZ (dgL P n K)) w h.i64.1 h.i64.2 hu
  rw [h.ord, ← hQ] at h1
  exact h1
theorem tim_ok {P K n Q x y : Nat} (hQ : Q = P ^ K) (h : FOk P K n) {u : Value} {w : World} (hu : Sl w u (nZ (dgL P n K))) (hx : x < Q) (hy : y < Q) :
    Calls Tryd.prog 19 #[fldV P K u, .int .i64 x, .int .i64 y] w fun e w' => e = .returned (.int .i64 (mulF P K (dgL P n K) x y)) ∧ Below w.heap.size w w' := by
  rw [hQ] at hx hy
  have hq := h.q64
  have h1 := Times_ok P K x y u (dgL P n K) w hu h.p2 (by have := h.p61; omega) h.k1 h.k6 h.q64 (dgL_len _ _ _) (dgL_lt h.p2 _) (by omega) (by omega)
  rw [h.fx.2 x y hx hy] at h1
  exact h1
set_option maxHeartbeats 1000000 in
set_option maxRecDepth 100000 in
theorem Inverse_ok {P K n a : Nat} (hF : FOk P K n) {u : Value} {w : World} {E L : Nat → Nat} (hu : Sl w u (nZ (dgL P n K))) (X : FX P K (dgL P n K) E L) (ha : a < P ^ K) (h0 : 1 ≤ a) :
    Calls Tryd.prog 33 #[fldV P K u, .int .i64 a] w fun e w' => e = .returned (.int .i64 (mpF P K (dgL P n K) a (P ^ K - 2) : Nat)) ∧ Below w.heap.size w w' := by
  obtain ⟨Q, hQ⟩ : ∃ Q : Nat, Q = P ^ K := ⟨_, rfl⟩
  have hQ64 : Q ≤ 64 := by have := hF.q64; omega
  have hQ2 : 2 ≤ Q := by have := hF.fb.q2; have := hF.p2; omega
  have HSZ := hid (fun w1 (hb : Below w.heap.size w w1) => size_ok hQ hF (hu.below hb))
  have HTM := hid (fun w1 (hb : Below w.heap.size w w1) (x y : Nat) (hx : x < Q) (hy : y < Q) => tim_ok hQ hF (hu.below hb) hx hy)
  obtain ⟨v, hv⟩ : ∃ v, v = mpF P K (dgL P n K) a (P ^ K - 2) := ⟨_, rfl⟩
  rw [← hv]
  have hvq : v < Q := by rw [hv, hQ]; exact mp_lt hF.fb _ _
  have haq : a < Q := by rw [hQ]; exact ha
  have HONE : Hid (mulF P K (dgL P n K) a v = 1) := hid (by rw [hv]; exact X.inv2 hF.fb h0 ha)
  have HNE := hid (fun b (hb : b < Q) (he : mulF P K (dgL P n K) a b = 1) => (X.inv_one hF.fb h0 ha (by rw [← hQ]; exact hb) he).trans hv.symm)
  have hv1 : 1 ≤ v := by
    rcases Nat.eq_zero_or_pos v with h | h
    · have := HONE.out
      rw [h, mul_z2 hF.fb] at this
      cases this
    · exact h
  clear hv
  have HQE := hid hQ
  clear hQ
  obtain ⟨ax, cx, e1⟩ := hu.len
  subst e1
  generalize (nZ (dgL P n K)).length = N at *
  have HW0 := hid (And.intro (Arr.new w 24 [.int .i64 (P : Int), .int .i64 (K : Int), .slice ax N cx]) ((Below.refl w.heap.size w).alloc (Nat.le_refl _) (.cells #[.int .i64 (P : Int), .int .i64 (K : Int), .slice ax N cx] 24)))
  have r0 := HW0.out.1.range
  have i3 : (Tryd.prog.info? 24).map (·.size) = some 3 := by kernel_rfl
  clear hu hF X
  unfold fldV at HSZ HTM
  unfold fldV
  go_enter Tryd.func33, Tryd.ntmps33
  go_wp2_with (refine wpList_load_mid rfl 24 _ rfl w.heap.size 0 rfl [.int .i64 (P : Int), .int .i64 (K : Int), .slice ax N cx] _ r0 Tryd.underlying24 rfl i3 ?_)
  refine (HSZ.out _ HW0.out.2).mono ?_
  rintro e w1 ⟨rfl, hb1⟩
  have HW1 := hid (And.intro (HW0.out.1.below hb1) (HW0.out.2.trans (hb1.mono HW0.out.2.size)))
  clear hb1 r0 HW0
  go_wp2_with fail
  go_loopw [6, 7] (fun x _ wq => ∃ b : Nat, x = .int .i64 b ∧ 1 ≤ b ∧ b ≤ v ∧ Arr wq w.heap.size 24 [.int .i64 (P : Int), .int .i64 (K : Int), .slice ax N cx] ∧ Below w.heap.size w wq) (fun x _ _ => v - (intOf x).toNat)
  case atStart => exact ⟨1, rfl, Nat.le_refl _, hv1, HW1.out.1, HW1.out.2⟩
  case round =>
    clear HW1
    obtain ⟨b, rfl, hb1, hbv, hA, hB⟩ := hrel
    have HW2 := hid (And.intro hA hB)
    have r2 := hA.range
    have hbq : b < Q := by omega
    have hlt : (b : Int) < (Q : Int) := by omega
    have HC := hid (HTM.out _ HW2.out.2 a b haq hbq)
    clear hA hB
    by_cases he : b = v
    · subst he
      rw [HONE.out] at HC
      go_wp2_with (refine wpList_load_mid rfl 24 _ rfl w.heap.size 0 rfl [.int .i64 (P : Int), .int .i64 (K : Int), .slice ax N cx] _ r2 Tryd.underlying24 rfl i3 ?_)
      refine HC.out.mono ?_
      rintro e w3 ⟨rfl, hb3⟩
      have HW3 := hid (And.intro (HW2.out.1.below hb3) (HW2.out.2.trans (hb3.mono HW2.out.2.size)))
      clear hb3 r2 HW2 HC
      go_wp2
      go_ret
      exact ⟨rfl, HW3.out.2⟩
    · have hne : mulF P K (dgL P n K) a b ≠ 1 := fun h => he (HNE.out b hbq h)
      generalize mulF P K (dgL P n K) a b = y at *
      have hy : ((y : Int) == 1) = false := by rw [beq_eq_false_iff_ne]; omega
      clear hne
      have hbv2 : b < v := by omega
      go_wp2_with (refine wpList_load_mid rfl 24 _ rfl w.heap.size 0 rfl [.int .i64 (P : Int), .int .i64 (K : Int), .slice ax N cx] _ r2 Tryd.underlying24 rfl i3 ?_)
      refine HC.out.mono ?_
      rintro e w3 ⟨rfl, hb3⟩
      have HW3 := hid (And.intro (HW2.out.1.below hb3) (HW2.out.2.trans (hb3.mono HW2.out.2.size)))
      clear hb3 r2 HW2 HC
      go_wp2
      go_roundw
      case rel => exact ⟨b + 1, by go_num, by omega, by omega, HW3.out.1, HW3.out.2⟩
      case measure => simp [intOf] <;> omega

set_option maxHeartbeats 1000000 in
set_option maxRecDepth 100000 in
theorem Power_pos {P K n a m : Nat} (hF : FOk P K n) {u : Value} {w : World} {E L : Nat → Nat} (hu : Sl w u (nZ (dgL P n K))) (X : FX P K (dgL P n K) E L) (ha : a < P ^ K) (h0 : 1 ≤ m) (hm : m ≤ 9223372036854775807) :
    Calls Tryd.prog 32 #[fldV P K u, .int .i64 a, .int .i64 m] w fun e w' => e = .returned (.int .i64 (mpF P K (dgL P n K) a m : Nat)) ∧ Below w.heap.size w w' := by
  obtain ⟨Q, hQ⟩ : ∃ Q : Nat, Q = P ^ K := ⟨_, rfl⟩
  have hQ64 : Q ≤ 64 := by have := hF.q64; omega
  have hQ2 : 2 ≤ Q := by have := hF.fb.q2; have := hF.p2; omega
  have HSZ := hid (fun w1 (hb : Below w.heap.size w w1) => size_ok hQ hF (hu.below hb))
  have HTM := hid (fun w1 (hb : Below w.heap.size w w1) (x y : Nat) (hx : x < Q) (hy : y < Q) => tim_ok hQ hF (hu.below hb) hx hy)
  have HML0 := fun t => mp_lt (low := dgL P n K) (a := a) hF.fb t
  have HMS0 := fun t => show mpF P K (dgL P n K) a (t + 1) = mulF P K (dgL P n K) (mpF P K (dgL P n K) a t) a from rfl
  have HM00 : mpF P K (dgL P n K) a 0 = 1 := rfl
  have HCUT0 := fun (h : P ^ K < m) => X.mp_cut hF.fb ha h
  rw [← hQ] at HML0 HCUT0
  have haq : a < Q := by rw [hQ]; exact ha
  obtain ⟨M, hM⟩ : ∃ M, M = mpF P K (dgL P n K) a := ⟨_, rfl⟩
  rw [← hM] at HML0 HMS0 HM00 HCUT0 ⊢
  have HML := hid HML0
  have HMS := hid HMS0
  have HM0 := hid HM00
  have HCUT := hid HCUT0
  have hm0 : ((m : Int) == 0) = false := by rw [beq_eq_false_iff_ne]; omega
  clear hM HML0 HMS0 HM00 HCUT0 ha
  obtain ⟨R, hR⟩ : ∃ R, R = M m := ⟨_, rfl⟩
  rw [← hR]
  have HR := hid hR
  clear hR
  have HQE := hid hQ
  clear hQ
  obtain ⟨ax, cx, e1⟩ := hu.len
  subst e1
  generalize (nZ (dgL P n K)).length = N at *
  have HW0 := hid (And.intro (Arr.new w 24 [.int .i64 (P : Int), .int .i64 (K : Int), .slice ax N cx]) ((Below.refl w.heap.size w).alloc (Nat.le_refl _) (.cells #[.int .i64 (P : Int), .int .i64 (K : Int), .slice ax N cx] 24)))
  have r0 := HW0.out.1.range
  have i3 : (Tryd.prog.info? 24).map (·.size) = some 3 := by kernel_rfl
  clear hu hF X
  unfold fldV at HSZ HTM
  unfold fldV
  go_enter Tryd.func32, Tryd.ntmps32
  go_wp2_with (refine wpList_load_mid rfl 24 _ rfl w.heap.size 0 rfl [.int .i64 (P : Int), .int .i64 (K : Int), .slice ax N cx] _ r0 Tryd.underlying24 rfl i3 ?_)
  refine (HSZ.out _ HW0.out.2).mono ?_
  rintro e w1 ⟨rfl, hb1⟩
  have HW1 := hid (And.intro (HW0.out.1.below hb1) (HW0.out.2.trans (hb1.mono HW0.out.2.size)))
  clear hb1 r0 HW0
  by_cases hc : Q < m
  · have hgt : (Q : Int) < (m : Int) := by omega
    have hq1 : (Q : Int) - 1 = ((Q - 1 : Nat) : Int) := by omega
    have hmod : (m : Int).tmod ((Q - 1 : Nat) : Int) = ((m % (Q - 1) : Nat) : Int) := by rw [Int.tmod_eq_emod_of_nonneg (by omega)]; rfl
    have hml : m % (Q - 1) < Q - 1 := Nat.mod_lt _ (by omega)
    have hadd : ((m % (Q - 1) : Nat) : Int) + ((Q - 1 : Nat) : Int) = ((m % (Q - 1) + (Q - 1) : Nat) : Int) := (Int.natCast_add _ _).symm
    have HEQ : Hid (M (m % (Q - 1) + (Q - 1)) = R) := hid ((HCUT.out hc).trans HR.out.symm)
    have hz : ((Q - 1 : Nat) : Int) ≠ 0 := by omega
    have hq11 : 1 ≤ Q - 1 := by omega
    have hq63 : Q - 1 ≤ 63 := by omega
    generalize m % (Q - 1) = m1 at *
    generalize Q - 1 = q1 at *
    have hm2l : m1 + q1 ≤ 126 := by omega
    have hm2e : ∀ t : Nat, t = m1 + q1 → t ≤ 126 := fun t h => by omega
    clear HR HCUT hm2e
    generalize m1 + q1 = m2 at *
    go_wp2_with fail
    clear hq1 hmod hgt hc hm0 hz hadd
    go_wp2_with fail
    go_loopw [8, 9] (fun x y wq => ∃ t : Nat, x = .int .i64 (M t : Nat) ∧ y = .int .i64 t ∧ t ≤ m2 ∧ Arr wq w.heap.size 24 [.int .i64 (P : Int), .int .i64 (K : Int), .slice ax N cx] ∧ Below w.heap.size w wq) (fun _ y _ => m2 - (intOf y).toNat)
    case atStart => exact ⟨0, by rw [HM0.out]; rfl, rfl, Nat.zero_le _, HW1.out.1, HW1.out.2⟩
    case round =>
      clear HW1
      obtain ⟨t, rfl, rfl, htm, hA, hB⟩ := hrel
      have HW2 := hid (And.intro hA hB)
      have r2 := hA.range
      clear hA hB
      by_cases he : t = m2
      · subst he
        clear r2
        rw [HEQ.out]
        go_wp2
        go_ret
        exact ⟨rfl, HW2.out.2⟩
      · have hlt : (t : Int) < ((m2 : Nat) : Int) := by omega
        have htl : t < m2 := by omega
        have hmt := HML.out t
        have hms := HMS.out t
        have HC := hid (HTM.out _ HW2.out.2 (M t) a hmt haq)
        rw [← hms] at HC
        clear hms hmt
        go_wp2_with (refine wpList_load_mid rfl 24 _ rfl w.heap.size 0 rfl [.int .i64 (P : Int), .int .i64 (K : Int), .slice ax N cx] _ r2 Tryd.underlying24 rfl i3 ?_)
        refine HC.out.mono ?_
        rintro e w3 ⟨rfl, hb3⟩
        have HW3 := hid (And.intro (HW2.out.1.below hb3) (HW2.out.2.trans (hb3.mono HW2.out.2.size)))
        clear hb3 r2 HW2 HC
        go_wp2
        go_roundw
        case rel => exact ⟨t + 1, by go_num, by go_num, by omega, HW3.out.1, HW3.out.2⟩
        case measure => simp [intOf] <;> omega
  · have hgt : ¬ (Q : Int) < (m : Int) := by omega
    have HEQ : Hid (M m = R) := hid HR.out.symm
    have hm64 : m ≤ 64 := by omega
    clear HR HCUT
    go_wp2_with fail
    clear hgt hm0
    go_wp2_with fail
    go_loopw [8, 9] (fun x y wq => ∃ t : Nat, x = .int .i64 (M t : Nat) ∧ y = .int .i64 t ∧ t ≤ m ∧ Arr wq w.heap.size 24 [.int .i64 (P : Int), .int .i64 (K : Int), .slice ax N cx] ∧ Below w.heap.size w wq) (fun _ y _ => m - (intOf y).toNat)
    case atStart => exact ⟨0, by rw [HM0.out]; rfl, rfl, Nat.zero_le _, HW1.out.1, HW1.out.2⟩
    case round =>
      clear HW1
      obtain ⟨t, rfl, rfl, htm, hA, hB⟩ := hrel
      have HW2 := hid (And.intro hA hB)
      have r2 := hA.range
      clear hA hB
      by_cases he : t = m
      · subst he
        clear r2
        rw [HEQ.out]
        go_wp2
        go_ret
        exact ⟨rfl, HW2.out.2⟩
      · have hlt : (t : Int) < ((m : Nat) : Int) := by omega
        have htl : t < m := by omega
        have hmt := HML.out t
        have hms := HMS.out t
        have HC := hid (HTM.out _ HW2.out.2 (M t) a hmt haq)
        rw [← hms] at HC
        clear hms hmt
        go_wp2_with (refine wpList_load_mid rfl 24 _ rfl w.heap.size 0 rfl [.int .i64 (P : Int), .int .i64 (K : Int), .slice ax N cx] _ r2 Tryd.underlying24 rfl i3 ?_)
        refine HC.out.mono ?_
        rintro e w3 ⟨rfl, hb3⟩
        have HW3 := hid (And.intro (HW2.out.1.below hb3) (HW2.out.2.trans (hb3.mono HW2.out.2.size)))
        clear hb3 r2 HW2 HC
        go_wp2
        go_roundw
        case rel => exact ⟨t + 1, by go_num, by go_num, by omega, HW3.out.1, HW3.out.2⟩
        case measure => simp [intOf] <;> omega

set_option maxHeartbeats 1000000 in
set_option maxRecDepth 100000 in
theorem Power_zero {P K a : Nat} {u : Value} {w : World} {low : List Int} (hu : Sl w u low) :
    Calls Tryd.prog 32 #[fldV P K u, .int .i64 a, .int .i64 0] w fun e w' => e = .returned (.int .i64 1) ∧ Below w.heap.size w w' := by
  obtain ⟨ax, cx, e1⟩ := hu.len
  subst e1
  have HW0 := hid ((Below.refl w.heap.size w).alloc (Nat.le_refl _) (.cells #[.int .i64 (P : Int), .int .i64 (K : Int), .slice ax low.length cx] 24))
  clear hu
  unfold fldV
  go_enter Tryd.func32, Tryd.ntmps32
  go_wp2
  go_ret
  exact ⟨rfl, HW0.out⟩
theorem Power_ok {P K n a m : Nat} (hF : FOk P K n) {u : Value} {w : World} {E L : Nat → Nat} (hu : Sl w u (nZ (dgL P n K))) (X : FX P K (dgL P n K) E L) (ha : a < P ^ K) (hm : m ≤ 9223372036854775807) :
    Calls Tryd.prog 32 #[fldV P K u, .int .i64 a, .int .i64 m] w fun e w' => e = .returned (.int .i64 (mpF P K (dgL P n K) a m : Nat)) ∧ Below w.heap.size w w' := by
  rcases Nat.eq_zero_or_pos m with h | h
  · subst h
    exact Power_zero hu
  · exact Power_pos hF hu X ha h hm

set_option maxHeartbeats 1000000 in
set_option maxRecDepth 100000 in
theorem RootOf_ok {P K n : Nat} (hF : FOk P K n) {u : Value} {w : World} {E L : Nat → Nat} {o lg : Nat → Nat} {r : Nat} (hu : Sl w u (nZ (dgL P n K))) (X : FX P K (dgL P n K) E L) (R : FR P K (dgL P n K) o r lg) :
    Calls Tryd.prog 23 #[fldV P K u] w fun e w' => e = .returned (.int .i64 (r)) ∧ Below w.heap.size w w' := by
  obtain ⟨Q, hQ⟩ : ∃ Q : Nat, Q = P ^ K := ⟨_, rfl⟩
  have hQ64 : Q ≤ 64 := by have := hF.q64; omega
  have hQ2 : 2 ≤ Q := by have := hF.fb.q2; have := hF.p2; omega
  have HSZ := hid (fun w1 (hb : Below w.heap.size w w1) => size_ok hQ hF (hu.below hb))
  have HTM := hid (fun w1 (hb : Below w.heap.size w w1) (x y : Nat) (hx : x < Q) (hy : y < Q) => tim_ok hQ hF (hu.below hb) hx hy)
  have HM1 := hid (fun (x : Nat) (hx : x < Q) => X.mp1 hF.fb (show x < P ^ K by omega))
  have HMS := hid (fun x m => show mpF P K (dgL P n K) x (m + 1) = mulF P K (dgL P n K) (mpF P K (dgL P n K) x m) x from rfl)
  have HLT := hid (fun (x y : Nat) => show mpF P K (dgL P n K) x y < Q by rw [hQ]; exact mp_lt (low := dgL P n K) (a := x) hF.fb y)
  have hO := R.o1
  have hR := R.r1
  rw [← hQ] at hO hR
  have HO := hid hO
  have HR := hid hR
  clear hO hR R
  have HQE := hid hQ
  clear hQ
  obtain ⟨ax, cx, e1⟩ := hu.len
  subst e1
  generalize (nZ (dgL P n K)).length = N at *
  have HW0 := hid (And.intro (Arr.new w 24 [.int .i64 (P : Int), .int .i64 (K : Int), .slice ax N cx]) ((Below.refl w.heap.size w).alloc (Nat.le_refl _) (.cells #[.int .i64 (P : Int), .int .i64 (K : Int), .slice ax N cx] 24)))
  have r0 := HW0.out.1.range
  have i3 : (Tryd.prog.info? 24).map (·.size) = some 3 := by kernel_rfl
  clear hu hF X
  unfold fldV at HSZ HTM
  unfold fldV
  go_enter Tryd.func23, Tryd.ntmps23
  go_wp2_with (refine wpList_load_mid rfl 24 _ rfl w.heap.size 0 rfl [.int .i64 (P : Int), .int .i64 (K : Int), .slice ax N cx] _ r0 Tryd.underlying24 rfl i3 ?_)
  refine (HSZ.out _ HW0.out.2).mono ?_
  rintro e w1 ⟨rfl, hb1⟩
  have HW1 := hid (And.intro (HW0.out.1.below hb1) (HW0.out.2.trans (hb1.mono HW0.out.2.size)))
  clear hb1 r0 HW0
  go_wp2_with fail
  go_loopw [4, 5, 6] (fun x _ _ wq => ∃ a : Nat, x = .int .i64 a ∧ 1 ≤ a ∧ a ≤ r ∧ Arr wq w.heap.size 24 [.int .i64 (P : Int), .int .i64 (K : Int), .slice ax N cx] ∧ Below w.heap.size w wq) (fun x _ _ _ => r - (intOf x).toNat)
  case atStart => exact ⟨1, rfl, Nat.le_refl _, HR.out.1, HW1.out.1, HW1.out.2⟩
  case round =>
    clear HW1
    obtain ⟨a, rfl, ha1, har, hA, hB⟩ := hrel
    have haq : a < Q := by have := HR.out.2.1; omega
    have haqi : (a : Int) < (Q : Int) := by omega
    have hord := HO.out a ha1 haq
    have HW2 := hid (And.intro hA hB)
    have HM1a := hid (HM1.out a haq)
    obtain ⟨m, hmm⟩ : ∃ m, m = mpF P K (dgL P n K) a := ⟨_, rfl⟩
    have HMSa := hid (HMS.out a)
    have HLTa := hid (HLT.out a)
    have HOA := hid hord
    rw [← hmm] at HM1a HMSa HLTa HOA
    have HRA := hid (HR.out.2.2.2 a ha1)
    have hrr := HR.out.2.2.1
    have hoa1 := HOA.out.1
    have hoa2 := HOA.out.2.1
    clear hord hmm hA hB
    generalize hoo : o a = oa at *
    have HOO := hid hoo
    clear hoo
    go_wp2_with fail
    go_loopw [5, 6] (fun y x wq => ∃ t : Nat, x = .int .i64 t ∧ y = .int .i64 (m t : Nat) ∧ 1 ≤ t ∧ t ≤ oa ∧ Arr wq w.heap.size 24 [.int .i64 (P : Int), .int .i64 (K : Int), .slice ax N cx] ∧ Below w.heap.size w wq) (fun _ x _ => oa - (intOf x).toNat)
    case atStart => exact ⟨1, rfl, by rw [HM1a.out], Nat.le_refl _, hoa1, HW2.out.1, HW2.out.2⟩
    case round =>
      clear HW2
      obtain ⟨t, rfl, rfl, ht1, hto, hA, hB⟩ := hrel
      have hmt := HLTa.out t
      have hmul := HMSa.out t
      by_cases hte : t = oa
      · subst hte
        have hone := HOA.out.2.2.1
        have HW2 := hid (And.intro hA hB)
        rw [hone]
        clear hA hB hmul hmt
        by_cases hq : t = Q - 1
        · have hqi : (t : Int) = (Q : Int) - 1 := by omega
          have hqe : ((t : Int) == (Q : Int) - 1) = true := by simpa using hqi
          obtain rfl : a = r := by
            refine Classical.byContradiction fun hne => ?_
            exact HRA.out (by omega) hq
          go_wp2
          go_ret
          exact ⟨rfl, HW2.out.2⟩
        · have hqi : ¬ (t : Int) = (Q : Int) - 1 := by omega
          have hqe : ((t : Int) == (Q : Int) - 1) = false := by simpa using hqi
          have har2 : a < r := by
            refine Classical.byContradiction fun hne => ?_
            obtain rfl : a = r := by omega
            exact hq (HOO.out.symm.trans hrr)
          go_wp2
          go_roundw
          case rel => exact ⟨a + 1, by go_num, by omega, by omega, HW2.out.1, HW2.out.2⟩
          case measure => simp [intOf] <;> omega
      · have hne := HOA.out.2.2.2 t ht1 (by omega)
        have r2 := hA.range
        have HW2 := hid (And.intro hA hB)
        have HC := hid (HTM.out _ HW2.out.2 (m t) a hmt haq)
        rw [← hmul] at HC
        generalize m t = y at *
        have hy1 : ((y : Int) != 1) = true := by rw [bne_iff_ne]; omega
        have htq : (t : Int) < (Q : Int) := by omega
        clear hA hB hmul
        go_wp2_with (refine wpList_load_mid rfl 24 _ rfl w.heap.size 0 rfl [.int .i64 (P : Int), .int .i64 (K : Int), .slice ax N cx] _ r2 Tryd.underlying24 rfl i3 ?_)
        refine HC.out.mono ?_
        rintro e w3 ⟨rfl, hb3⟩
        have HW3 := hid (And.intro (HW2.out.1.below hb3) (HW2.out.2.trans (hb3.mono HW2.out.2.size)))
        clear hb3 r2 HW2 HC
        go_wp2
        go_roundw
        case rel => exact ⟨t + 1, by go_num, by go_num, by omega, by omega, HW3.out.1, HW3.out.2⟩
        case measure => simp [intOf] <;> omega

set_option maxHeartbeats 1000000 in
set_option maxRecDepth 100000 in
theorem LogOf_ok {P K n a : Nat} (hF : FOk P K n) {u : Value} {w : World} {E L : Nat → Nat} {o lg : Nat → Nat} {r : Nat} (hu : Sl w u (nZ (dgL P n K))) (X : FX P K (dgL P n K) E L) (R : FR P K (dgL P n K) o r lg) (ha : a < P ^ K) (h0 : 1 ≤ a) :
    Calls Tryd.prog 34 #[fldV P K u, .int .i64 a] w fun e w' => e = .returned (.int .i64 (lg a : Nat)) ∧ Below w.heap.size w w' := by
  obtain ⟨Q, hQ⟩ : ∃ Q : Nat, Q = P ^ K := ⟨_, rfl⟩
  have hQ64 : Q ≤ 64 := by have := hF.q64; omega
  have hQ2 : 2 ≤ Q := by have := hF.fb.q2; have := hF.p2; omega
  have HSZ := hid (fun w1 (hb : Below w.heap.size w w1) => size_ok hQ hF (hu.below hb))
  have HTM := hid (fun w1 (hb : Below w.heap.size w w1) (x y : Nat) (hx : x < Q) (hy : y < Q) => tim_ok hQ hF (hu.below hb) hx hy)
  have HP := hid (fun w1 (hb : Below w.heap.size w w1) => RootOf_ok hF (hu.below hb) X R)
  have HLT := hid (fun (x y : Nat) => show mpF P K (dgL P n K) x y < Q by rw [hQ]; exact mp_lt (low := dgL P n K) (a := x) hF.fb y)
  have HMS := hid (fun x m => show mpF P K (dgL P n K) x (m + 1) = mulF P K (dgL P n K) (mpF P K (dgL P n K) x m) x from rfl)
  have HM0 := hid (fun x => show mpF P K (dgL P n K) x 0 = 1 from rfl)
  have hL := R.lg a h0 ha
  have hRQ := R.r1.2.1
  rw [← hQ] at hL hRQ
  have HL := hid hL
  have HRQ := hid hRQ
  clear hL hRQ R
  unfold fldV at HP
  have HQE := hid hQ
  clear hQ
  obtain ⟨ax, cx, e1⟩ := hu.len
  subst e1
  generalize (nZ (dgL P n K)).length = N at *
  have HW0 := hid (And.intro (Arr.new w 24 [.int .i64 (P : Int), .int .i64 (K : Int), .slice ax N cx]) ((Below.refl w.heap.size w).alloc (Nat.le_refl _) (.cells #[.int .i64 (P : Int), .int .i64 (K : Int), .slice ax N cx] 24)))
  have r0 := HW0.out.1.range
  have i3 : (Tryd.prog.info? 24).map (·.size) = some 3 := by kernel_rfl
  clear hu hF X
  unfold fldV at HSZ HTM
  unfold fldV
  go_enter Tryd.func34, Tryd.ntmps34
  go_wp2_with (refine wpList_load_mid rfl 24 _ rfl w.heap.size 0 rfl [.int .i64 (P : Int), .int .i64 (K : Int), .slice ax N cx] _ r0 Tryd.underlying24 rfl i3 ?_)
  refine (HP.out _ HW0.out.2).mono ?_
  rintro e w1 ⟨rfl, hb1⟩
  have HW1 := hid (And.intro (HW0.out.1.below hb1) (HW0.out.2.trans (hb1.mono HW0.out.2.size)))
  clear hb1 r0 HW0 HP
  go_wp2_with fail
  go_loopw [6, 7] (fun y x wq => ∃ t : Nat, x = .int .i64 t ∧ y = .int .i64 (mpF P K (dgL P n K) r t : Nat) ∧ t ≤ lg a ∧ Arr wq w.heap.size 24 [.int .i64 (P : Int), .int .i64 (K : Int), .slice ax N cx] ∧ Below w.heap.size w wq) (fun _ x _ => lg a - (intOf x).toNat)
  case atStart => exact ⟨0, rfl, by rw [HM0.out]; rfl, Nat.zero_le _, HW1.out.1, HW1.out.2⟩
  case round =>
    clear HW1
    obtain ⟨t, rfl, rfl, htl, hA, hB⟩ := hrel
    have hmt := HLT.out r t
    have hmul := HMS.out r t
    have HW2 := hid (And.intro hA hB)
    have hlgq := HL.out.1
    by_cases hte : t = lg a
    · subst hte
      have hone := HL.out.2.1
      rw [hone]
      clear hA hB hmul hmt
      go_wp2
      go_ret
      exact ⟨rfl, HW2.out.2⟩
    · have hnea := HL.out.2.2 t (by omega)
      have htl2 : t < lg a := by omega
      have r2 := hA.range
      have HC := hid (HTM.out _ HW2.out.2 (mpF P K (dgL P n K) r t) r hmt HRQ.out)
      rw [← hmul] at HC
      generalize mpF P K (dgL P n K) r t = y at *
      have hy1 : ((y : Int) != (a : Int)) = true := by rw [bne_iff_ne]; omega
      clear hA hB hmul
      go_wp2_with (refine wpList_load_mid rfl 24 _ rfl w.heap.size 0 rfl [.int .i64 (P : Int), .int .i64 (K : Int), .slice ax N cx] _ r2 Tryd.underlying24 rfl i3 ?_)
      refine HC.out.mono ?_
      rintro e w3 ⟨rfl, hb3⟩
      have HW3 := hid (And.intro (HW2.out.1.below hb3) (HW2.out.2.trans (hb3.mono HW2.out.2.size)))
      clear hb3 r2 HW2 HC
      go_wp2
      go_roundw
      case rel => exact ⟨t + 1, by go_num, by go_num, by omega, HW3.out.1, HW3.out.2⟩
      case measure => simp [intOf] <;> omega

set_option maxHeartbeats 1000000 in
set_option maxRecDepth 100000 in
theorem TraceOf_ok {P K n a : Nat} (hF : FOk P K n) {u : Value} {w : World} {E L : Nat → Nat} (hu : Sl w u (nZ (dgL P n K))) (X : FX P K (dgL P n K) E L) (ha : a < P ^ K) :
    Calls Tryd.prog 31 #[fldV P K u, .int .i64 a] w fun e w' => e = .returned (.int .i64 (trS P K (dgL P n K) a K : Nat)) ∧ Below w.heap.size w w' := by
  obtain ⟨Q, hQ⟩ : ∃ Q : Nat, Q = P ^ K := ⟨_, rfl⟩
  have hQ64 : Q ≤ 64 := by have := hF.q64; omega
  have hQ2 : 2 ≤ Q := by have := hF.fb.q2; have := hF.p2; omega
  have HSZ := hid (fun w1 (hb : Below w.heap.size w w1) => size_ok hQ hF (hu.below hb))
  have HTM := hid (fun w1 (hb : Below w.heap.size w w1) (x y : Nat) (hx : x < Q) (hy : y < Q) => tim_ok hQ hF (hu.below hb) hx hy)
  obtain ⟨TS, hTS⟩ : ∃ f, f = trS P K (dgL P n K) a := ⟨_, rfl⟩
  rw [← hTS]
  have hBF := hF.fb
  have hP64 := hBF.p64
  have hK6 := hBF.k6
  have HPW := hid (fun (w1 : World) (hb : Below w.heap.size w w1) (x : Nat) (hx : x < Q) => Power_ok (m := P) hF (hu.below hb) X (show x < P ^ K by omega) (by omega))
  have HAD := hid (fun (w1 : World) (hb : Below w.heap.size w w1) (x y : Nat) (hx : x < Q) (hy : y < Q) => Sum_ok P K x y u w1 (by obtain ⟨a, c, e⟩ := hu.len; exact ⟨_, _, _, e⟩) hBF.p2 hBF.p64 hBF.k1 hBF.k6 hBF.q64 (by omega) (by omega))
  have HAL := hid (fun i => show trA P K (dgL P n K) a i < Q by rw [hQ]; exact trA_lt hBF (dgL P n K) ha i)
  have HSL := hid (fun i => show trS P K (dgL P n K) a i < Q by rw [hQ]; exact trS_lt hBF (dgL P n K) a i)
  have HA0 : Hid (trA P K (dgL P n K) a 0 = a) := hid rfl
  have HS0 : Hid (trS P K (dgL P n K) a 0 = 0) := hid rfl
  have HAS := hid (fun i => show trA P K (dgL P n K) a (i + 1) = mpF P K (dgL P n K) (trA P K (dgL P n K) a i) P from rfl)
  have HSS := hid (fun i => show trS P K (dgL P n K) a (i + 1) = sumF P K (trS P K (dgL P n K) a i) (trA P K (dgL P n K) a i) by rw [sum_add hK6]; rfl)
  rw [← hTS] at HSL HS0 HSS
  generalize trA P K (dgL P n K) a = TA at *
  unfold fldV at HPW HAD
  clear hTS hBF ha
  have HQE := hid hQ
  clear hQ
  obtain ⟨ax, cx, e1⟩ := hu.len
  subst e1
  generalize (nZ (dgL P n K)).length = N at *
  have HW0 := hid (And.intro (Arr.new w 24 [.int .i64 (P : Int), .int .i64 (K : Int), .slice ax N cx]) ((Below.refl w.heap.size w).alloc (Nat.le_refl _) (.cells #[.int .i64 (P : Int), .int .i64 (K : Int), .slice ax N cx] 24)))
  have r0 := HW0.out.1.range
  have i3 : (Tryd.prog.info? 24).map (·.size) = some 3 := by kernel_rfl
  clear hu hF X
  unfold fldV at HSZ HTM
  unfold fldV
  go_enter Tryd.func31, Tryd.ntmps31
  go_wp2_with fail
  clear r0
  go_loopw [1, 5, 6] (fun x y z wq => ∃ t : Nat, x = .int .i64 (TA t : Nat) ∧ y = .int .i64 (TS t : Nat) ∧ z = .int .i64 t ∧ t ≤ K ∧ Arr wq w.heap.size 24 [.int .i64 (P : Int), .int .i64 (K : Int), .slice ax N cx] ∧ Below w.heap.size w wq) (fun _ _ z _ => K - (intOf z).toNat)
  case atStart => exact ⟨0, by rw [HA0.out], by rw [HS0.out]; rfl, rfl, Nat.zero_le _, HW0.out.1, HW0.out.2⟩
  case round =>
    clear HW0
    obtain ⟨t, rfl, rfl, rfl, htl, hA, hB⟩ := hrel
    have k1 := hA.cell 1
    simp only [List.getElem?_cons_zero, List.getElem?_cons_succ] at k1
    by_cases hte : t = K
    · obtain rfl : K = t := hte.symm
      have HW2 := hid (And.intro hA hB)
      clear hA hB
      go_wp2
      go_ret
      exact ⟨rfl, HW2.out.2⟩
    · have hal := HAL.out t
      have hsl := HSL.out t
      have has := HAS.out t
      have hss := HSS.out t
      have htk : (t : Int) < (K : Int) := by omega
      have r2 := hA.range
      have HW2 := hid (And.intro hA hB)
      have HC1 := hid (HAD.out _ HW2.out.2 (TS t) (TA t) hsl hal)
      rw [← hss] at HC1
      clear hA hB hss hsl
      go_wp2_with (refine wpList_load_mid rfl 24 _ rfl w.heap.size 0 rfl [.int .i64 (P : Int), .int .i64 (K : Int), .slice ax N cx] _ r2 Tryd.underlying24 rfl i3 ?_)
      refine HC1.out.mono ?_
      rintro e w3 ⟨rfl, hb3⟩
      have HW3 := hid (And.intro (HW2.out.1.below hb3) (HW2.out.2.trans (hb3.mono HW2.out.2.size)))
      clear hb3 r2 HW2 HC1
      have HC2 := hid (HPW.out _ HW3.out.2 (TA t) hal)
      rw [← has] at HC2
      have r3 := HW3.out.1.range
      have k0 := HW3.out.1.cell 0
      simp only [List.getElem?_cons_zero] at k0
      clear has hal k1
      go_wp2_with (refine wpList_load_mid rfl 24 _ rfl w.heap.size 0 rfl [.int .i64 (P : Int), .int .i64 (K : Int), .slice ax N cx] _ r3 Tryd.underlying24 rfl i3 ?_)
      refine HC2.out.mono ?_
      rintro e w4 ⟨rfl, hb4⟩
      have HW4 := hid (And.intro (HW3.out.1.below hb4) (HW3.out.2.trans (hb4.mono HW3.out.2.size)))
      clear hb4 r3 HW3 HC2
      clear k0
      go_wp2
      go_roundw
      case rel => exact ⟨t + 1, by go_num, by go_num, by go_num, by omega, HW4.out.1, HW4.out.2⟩
      case measure => simp [intOf] <;> omega
end Go.Proofs.YthdlhfgeminoiaaDoor
