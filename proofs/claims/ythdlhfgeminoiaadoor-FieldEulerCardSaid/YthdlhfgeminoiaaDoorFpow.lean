/-
  The walks over field.room.pow and field.room.root. Conditions: the field is one; the slice can be read.
-/
import Derived.Test.YthdlhfgeminoiaaDoorFlaw
namespace Go.Proofs.YthdlhfgeminoiaaDoor
set_option linter.unusedVariables false
open Go.RowKit

/-- What a walk in a field stands on. -/
structure FW (w : World) (P K : Nat) (low : List Nat) (u : Value) (E L : Nat → Nat) : Prop where
  B : FB P K
  X : FX P K low E L
  sl : Sl w u (nZ low)
  len : low.length = K
  lt : ∀ j, low.getD j 0 < P
theorem FW.below {w w1 : World} {P K : Nat} {low : List Nat} {u : Value} {E L : Nat → Nat} (h : FW w P K low u E L) (hb : Below w.heap.size w w1) : FW w1 P K low u E L := ⟨h.B, h.X, h.sl.below hb, h.len, h.lt⟩
theorem FW.mul {w : World} {P K : Nat} {low : List Nat} {u : Value} {E L : Nat → Nat} (h : FW w P K low u E L) (Q : Nat) {x y : Nat} (hx : x < P ^ K) (hy : y < P ^ K) : Calls Tryd.prog 43 #[rmV P K u Q, .int .i64 x, .int .i64 y] w fun e w' => e = .returned (.int .i64 (mulF P K low x y)) ∧ Below w.heap.size w w' :=
  mul_ok P K Q x y u low w h.sl h.B.p2 h.B.p64 h.B.k1 h.B.k6 h.B.q64 h.len h.lt (by have := h.B.q64; omega) (by have := h.B.q64; omega)

set_option maxHeartbeats 1000000 in
set_option maxRecDepth 100000 in
theorem pow_ok {P K Q : Nat} {u : Value} {low : List Nat} {w : World} {E L : Nat → Nat} (H : FW w P K low u E L) (a n : Nat) (ha : a < P ^ K) (hn : n ≤ 9223372036854775807) :
    Calls Tryd.prog 49 #[rmV P K u Q, .int .i64 a, .int .i64 n] w fun e w' => e = .returned (.int .i64 (mpF P K low a n)) ∧ Below w.heap.size w w' := by
  have HMU := hid (fun (w1 : World) (hb : Below w.heap.size w w1) (x y : Nat) (hx : x < P ^ K) (hy : y < P ^ K) => (H.below hb).mul Q hx hy)
  have HHF := hid (fun (o x : Nat) (ho : o < P ^ K) (hx : x < P ^ K) (m : Nat) => H.X.half H.B ho hx m)
  have HLT := hid (fun (x y : Nat) => mulF_lt H.B.p2 H.B.k6 low x y)
  have H1 := hid (fun (x : Nat) (hx : x < P ^ K) => H.X.mul1 x hx)
  have hq1 : 1 < P ^ K := by have := H.B.q2; have := H.B.p2; omega
  have HS : Hid (mulF P K low 1 (mpF P K low a n) = mpF P K low a n) := hid (by rw [H.X.comm H.B hq1 (mp_lt H.B _ _), H.X.mul1 _ (mp_lt H.B _ _)])
  have HP0 := hid (fun x => show mpF P K low x 0 = 1 from rfl)
  have hQ64 := H.B.q64
  obtain ⟨ax, cx, e1⟩ := H.sl.len
  subst e1
  have HW0 := hid (And.intro (Arr.new w 57 [.int .i64 (P : Int), .int .i64 (K : Int), .slice ax (nZ low).length cx, .int .i64 (Q : Int)]) ((Below.refl w.heap.size w).alloc (Nat.le_refl _) (.cells #[.int .i64 (P : Int), .int .i64 (K : Int), .slice ax (nZ low).length cx, .int .i64 (Q : Int)] 57)))
  have i4 : (Tryd.prog.info? 57).map (·.size) = some 4 := by kernel_rfl
  clear H
  generalize (nZ low).length = N at *
  generalize hR : mpF P K low a n = R at *
  have HR := hid hR
  clear hR
  unfold rmV at HMU
  unfold rmV
  go_enter Tryd.func49, Tryd.ntmps49
  go_wp2_with fail
  go_loopw [1, 2, 7] (fun x m o wr => ∃ xx mm oo : Nat, x = .int .i64 xx ∧ m = .int .i64 mm ∧ o = .int .i64 oo ∧ xx < P ^ K ∧ oo < P ^ K ∧ mm ≤ 9223372036854775807 ∧ Hid (mulF P K low oo (mpF P K low xx mm) = R) ∧ Arr wr w.heap.size 57 [.int .i64 (P : Int), .int .i64 (K : Int), .slice ax N cx, .int .i64 (Q : Int)] ∧ Below w.heap.size w wr) (fun _ m _ _ => (intOf m).toNat)
  case atStart => exact ⟨a, n, 1, rfl, rfl, rfl, ha, hq1, hn, hid (by rw [HR.out]; exact HS.out), HW0.out.1, HW0.out.2⟩
  case round =>
    clear HW0
    obtain ⟨xx, mm, oo, rfl, rfl, rfl, hx, ho, hm, hRR, hA, hB⟩ := hrel
    have r1 := hA.range
    have HW1 := hid (And.intro hA hB)
    clear hA hB
    by_cases h0 : mm = 0
    · subst h0
      obtain rfl : oo = R := by rw [← hRR.out, HP0.out, H1.out _ ho]
      clear r1
      go_wp2
      go_ret
      exact ⟨rfl, HW1.out.2⟩
    · have hhalf := HHF.out oo xx ho hx mm
      have hsq := HLT.out xx xx
      have hm2 : (mm : Int).tdiv 2 = ((mm / 2 : Nat) : Int) := by rw [Int.tdiv_eq_ediv_of_nonneg (by omega)]; omega
      have hmod : (mm : Int).tmod 2 = ((mm % 2 : Nat) : Int) := by rw [Int.tmod_eq_emod_of_nonneg (by omega)]; omega
      have hpos : (0 : Int) < (mm : Int) := by omega
      by_cases hodd : mm % 2 = 1
      · rw [if_pos hodd, hRR.out] at hhalf
        rw [hodd] at hmod
        have HN := hid hhalf
        have hol := HLT.out oo xx
        have HC := hid (HMU.out _ HW1.out.2 oo xx ho hx)
        clear hhalf
        go_wp2_with (refine wpList_load_mid rfl 57 _ rfl w.heap.size 0 rfl [.int .i64 (P : Int), .int .i64 (K : Int), .slice ax N cx, .int .i64 (Q : Int)] _ r1 Tryd.underlying57 rfl i4 ?_)
        refine HC.out.mono ?_
        rintro e w2 ⟨rfl, hb2⟩
        have HW2 := hid (And.intro (HW1.out.1.below hb2) (HW1.out.2.trans (hb2.mono HW1.out.2.size)))
        have r2 := HW2.out.1.range
        clear hb2 r1 HW1 HC
        have HC := hid (HMU.out _ HW2.out.2 xx xx hx hx)
        go_wp2_with (refine wpList_load_mid rfl 57 _ rfl w.heap.size 0 rfl [.int .i64 (P : Int), .int .i64 (K : Int), .slice ax N cx, .int .i64 (Q : Int)] _ r2 Tryd.underlying57 rfl i4 ?_)
        refine HC.out.mono ?_
        rintro e w3 ⟨rfl, hb3⟩
        have HW3 := hid (And.intro (HW2.out.1.below hb3) (HW2.out.2.trans (hb3.mono HW2.out.2.size)))
        clear hb3 r2 HW2 HC
        go_wp2
        go_roundw
        case rel => exact ⟨mulF P K low xx xx, mm / 2, mulF P K low oo xx, rfl, by go_num, rfl, hsq, hol, by omega, hid HN.out.symm, HW3.out.1, HW3.out.2⟩
        case measure => simp [intOf] <;> omega
      · rw [if_neg hodd, hRR.out] at hhalf
        rw [show mm % 2 = 0 by omega] at hmod
        have HN := hid hhalf
        have HC := hid (HMU.out _ HW1.out.2 xx xx hx hx)
        clear hhalf
        go_wp2_with (refine wpList_load_mid rfl 57 _ rfl w.heap.size 0 rfl [.int .i64 (P : Int), .int .i64 (K : Int), .slice ax N cx, .int .i64 (Q : Int)] _ r1 Tryd.underlying57 rfl i4 ?_)
        refine HC.out.mono ?_
        rintro e w3 ⟨rfl, hb3⟩
        have HW3 := hid (And.intro (HW1.out.1.below hb3) (HW1.out.2.trans (hb3.mono HW1.out.2.size)))
        clear hb3 r1 HW1 HC
        go_wp2
        go_roundw
        case rel => exact ⟨mulF P K low xx xx, mm / 2, oo, rfl, by go_num, rfl, hsq, ho, by omega, hid HN.out.symm, HW3.out.1, HW3.out.2⟩
        case measure => simp [intOf] <;> omega

set_option maxHeartbeats 1000000 in
set_option maxRecDepth 100000 in
theorem root_ok {P K Q : Nat} (hQe : Q = P ^ K) {u : Value} {low : List Nat} {w : World} {E L o lg : Nat → Nat} {r : Nat} (H : FW w P K low u E L) (R : FR P K low o r lg) :
    Calls Tryd.prog 48 #[rmV P K u Q] w fun e w' => e = .returned (.int .i64 r) ∧ Below w.heap.size w w' := by
  have HMU := hid (fun (w1 : World) (hb : Below w.heap.size w w1) (x y : Nat) (hx : x < P ^ K) (hy : y < P ^ K) => (H.below hb).mul Q hx hy)
  have HLT := hid (fun (x y : Nat) => mp_lt (low := low) (a := x) H.B y)
  have HM1 := hid (fun (x : Nat) (hx : x < P ^ K) => H.X.mp1 H.B hx)
  have HMS := hid (fun x m => show mpF P K low x (m + 1) = mulF P K low (mpF P K low x m) x from rfl)
  have hQ64 := H.B.q64
  have HO := hid R.o1
  have HNZ := hid R.nz
  have HR := hid R.r1
  obtain ⟨ax, cx, e1⟩ := H.sl.len
  subst e1
  have HW0 := hid (And.intro (Arr.new w 57 [.int .i64 (P : Int), .int .i64 (K : Int), .slice ax (nZ low).length cx, .int .i64 (Q : Int)]) ((Below.refl w.heap.size w).alloc (Nat.le_refl _) (.cells #[.int .i64 (P : Int), .int .i64 (K : Int), .slice ax (nZ low).length cx, .int .i64 (Q : Int)] 57)))
  have i4 : (Tryd.prog.info? 57).map (·.size) = some 4 := by kernel_rfl
  clear H R
  generalize (nZ low).length = N at *
  rw [← hQe] at HMU HLT HM1 HO HNZ HR hQ64
  clear hQe
  unfold rmV at HMU
  unfold rmV
  go_enter Tryd.func48, Tryd.ntmps48
  go_wp2_with fail
  go_loopw [3, 4, 5] (fun x _ _ wr => ∃ a : Nat, x = .int .i64 a ∧ 1 ≤ a ∧ a ≤ r ∧ Arr wr w.heap.size 57 [.int .i64 (P : Int), .int .i64 (K : Int), .slice ax N cx, .int .i64 (Q : Int)] ∧ Below w.heap.size w wr) (fun x _ _ _ => r - (intOf x).toNat)
  case atStart => exact ⟨1, rfl, Nat.le_refl _, HR.out.1, HW0.out.1, HW0.out.2⟩
  case round =>
    clear HW0
    obtain ⟨a, rfl, ha1, har, hA, hB⟩ := hrel
    have haq : a < Q := by have := HR.out.2.1; omega
    have hord := HO.out a ha1 haq
    have HW1 := hid (And.intro hA hB)
    have HM1a := hid (HM1.out a haq)
    clear hA hB
    obtain ⟨m, hmm⟩ : ∃ m, m = mpF P K low a := ⟨_, rfl⟩
    have HMSa := hid (HMS.out a)
    have HLTa := hid (HLT.out a)
    have HNZa := hid (HNZ.out a ha1 haq)
    have HOA := hid hord
    rw [← hmm] at HM1a HMSa HLTa HNZa HOA
    have HRA := hid (HR.out.2.2.2 a ha1)
    have hrr := HR.out.2.2.1
    have hoa1 := HOA.out.1
    have hoa2 := HOA.out.2.1
    clear hord hmm
    have HOE : Hid (o a = o a) := hid rfl
    generalize hoo : o a = oa at *
    have HOO := hid hoo
    clear hoo
    go_wp2_with fail
    go_loopw [4, 5] (fun x y wq => ∃ t : Nat, x = .int .i64 t ∧ y = .int .i64 (m t : Nat) ∧ 1 ≤ t ∧ t ≤ oa ∧ Arr wq w.heap.size 57 [.int .i64 (P : Int), .int .i64 (K : Int), .slice ax N cx, .int .i64 (Q : Int)] ∧ Below w.heap.size w wq) (fun x _ _ => oa - (intOf x).toNat)
    case atStart => exact ⟨1, rfl, by rw [HM1a.out], Nat.le_refl _, hoa1, HW1.out.1, HW1.out.2⟩
    case round =>
      clear HW1
      obtain ⟨t, rfl, rfl, ht1, hto, hA, hB⟩ := hrel
      have hmt := HLTa.out t
      have hnz := HNZa.out t
      have hmul := HMSa.out t
      by_cases hte : t = oa
      · subst hte
        have hone := HOA.out.2.2.1
        have k3 := hA.cell 3
        simp only [List.getElem?_cons_zero, List.getElem?_cons_succ] at k3
        have HW2 := hid (And.intro hA hB)
        rw [hone]
        clear hA hB hmul hmt hnz
        by_cases hq : t = Q - 1
        · have hqi : (t : Int) = (Q : Int) - 1 := by omega
          have hqe : ((t : Int) == (Q : Int) - 1) = true := by simpa using hqi
          obtain rfl : a = r := by
            refine Classical.byContradiction fun hne => ?_
            exact HRA.out (by omega) hq
          go_wp2
          go_ret
          exact ⟨rfl, HW2.out.2⟩
        · have hqi : ¬ (t : Int) = (Q : Int) - 1 := by omega
          have hqe : ((t : Int) == (Q : Int) - 1) = false := by simpa using hqi
          have har2 : a < r := by
            refine Classical.byContradiction fun hne => ?_
            obtain rfl : a = r := by omega
            exact hq (HOO.out.symm.trans hrr)
          go_wp2
          go_roundw
          case rel => exact ⟨a + 1, by go_num, by omega, by omega, HW2.out.1, HW2.out.2⟩
          case measure => simp [intOf] <;> omega
      · have hne := HOA.out.2.2.2 t ht1 (by omega)
        have r1 := hA.range
        have HW2 := hid (And.intro hA hB)
        have HC := hid (HMU.out _ HW2.out.2 (m t) a hmt haq)
        rw [← hmul] at HC
        generalize m t = y at *
        have hy1 : ((y : Int) != 1) = true := by rw [bne_iff_ne]; omega
        have hy0 : ((y : Int) != 0) = true := by rw [bne_iff_ne]; omega
        clear hA hB hmul
        go_wp2_with (refine wpList_load_mid rfl 57 _ rfl w.heap.size 0 rfl [.int .i64 (P : Int), .int .i64 (K : Int), .slice ax N cx, .int .i64 (Q : Int)] _ r1 Tryd.underlying57 rfl i4 ?_)
        refine HC.out.mono ?_
        rintro e w3 ⟨rfl, hb3⟩
        have HW3 := hid (And.intro (HW2.out.1.below hb3) (HW2.out.2.trans (hb3.mono HW2.out.2.size)))
        clear hb3 r1 HW2 HC
        go_wp2
        go_roundw
        case rel => exact ⟨t + 1, by go_num, by go_num, by omega, by omega, HW3.out.1, HW3.out.2⟩
        case measure => simp [intOf] <;> omega
end Go.Proofs.YthdlhfgeminoiaaDoor
