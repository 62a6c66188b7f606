/-
  The walk over parterreref4.ScoresOf. Conditions: the slice can be read; each cell is 0 or 1.
-/
import Derived.Test.YthbpdfkaacgpoaaTscor
namespace Go.Proofs.Ythbpdfkaacgpoaa
set_option linter.unusedVariables false
open Go.RowKit

def scT (S : Nat) (l : List Int) (a : Nat) : List Int := (List.range a).map fun i => rowS S l i S
theorem scT_zero (S : Nat) (l : List Int) : scT S l 0 = [] := rfl
theorem scT_succ (S : Nat) (l : List Int) (a : Nat) : scT S l (a + 1) = scT S l a ++ [rowS S l a S] := by simp [scT, List.range_succ]
theorem scT_len (S : Nat) (l : List Int) (a : Nat) : (scT S l a).length = a := by simp [scT]
theorem scT_all (S : Nat) (l : List Int) : scT S l S = scL S l := rfl
theorem rowS_bd2 {l : List Int} (h0 : ∀ i, gD l i = 0 ∨ gD l i = 1) (S i : Nat) : ∀ j, 0 ≤ rowS S l i j ∧ rowS S l i j ≤ j
  | 0 => ⟨Int.le_refl _, Int.le_refl _⟩
  | j + 1 => by
    have := rowS_bd2 h0 S i j
    have h := h0 (i * S + j)
    rw [rowS]
    omega

set_option maxHeartbeats 1000000 in
set_option maxRecDepth 100000 in
theorem ScoresOf_ok (S : Nat) (u : Value) (l : List Int) (w : World) (hu : Sl w u l) (hS1 : 1 ≤ S) (hS9 : S ≤ 9) (hlen : l.length = S * S) (h0 : ∀ i, gD l i = 0 ∨ gD l i = 1) :
    Calls Try.prog 26 #[sqV S u] w fun e w' => (∃ v, e = .returned v ∧ Sl w' v (scL S l)) ∧ Below w.heap.size w w' := by
  obtain ⟨ax, cx, N, rfl, hN, hl1, hl2⟩ := hu.open
  obtain rfl : N = S * S := by rw [← hN.out, hlen]
  obtain ⟨bs, os, rfl, hbs, hcs⟩ := hl2 (Nat.mul_pos (by omega) (by omega))
  have HCS : Hid (∀ i, i < S * S → w.cell? ⟨bs, os + i, none⟩ = some (.int .i64 (gD l i))) := hid (fun i hi => by rw [hcs i hi, gD_opt])
  have HZ0 := hid (scT_zero S l)
  have HZ1 := hid (scT_succ S l)
  have HZL := hid (scT_len S l)
  have HZA := hid (scT_all S l)
  have H01 := hid h0
  have HBD := hid (fun i j => rowS_bd2 h0 S i j)
  have HR0 : Hid (∀ i, rowS S l i 0 = 0) := hid (fun i => rfl)
  have HR1 : Hid (∀ i j, rowS S l i (j + 1) = rowS S l i j + gD l (i * S + j)) := hid (fun i j => rfl)
  have hSS81 : S * S ≤ 81 := Nat.mul_le_mul hS9 hS9
  have HP := hid (fun i j (hi : i < S) (hj : j < S) => pos_lt hi hj)
  generalize scT S l = D at *
  generalize scL S l = Z at *
  generalize rowS S l = R at *
  generalize gD l = G at *
  clear hl2 hcs hu hN hlen h0
  generalize S * S = N at *
  unfold sqV
  have HW0 := hid (And.intro (Arr.new w 24 [.int .i64 (S : Int), .slice (some ⟨bs, os, none⟩) N cx]) ((Below.refl w.heap.size w).alloc (Nat.le_refl _) (.cells #[.int .i64 (S : Int), .slice (some ⟨bs, os, none⟩) N cx] 24)))
  go_enter Try.func26, Try.ntmps26
  go_wp2
  go_loopw [3, 4, 5, 6] (fun o x _ _ wr => ∃ a : Nat, x = .int .i64 a ∧ a ≤ S ∧ OI (w.heap.size + 1) wr o (D a) ∧ Arr wr w.heap.size 24 [.int .i64 (S : Int), .slice (some ⟨bs, os, none⟩) N cx] ∧ Below w.heap.size w wr ∧ w.heap.size + 1 ≤ wr.heap.size) (fun _ x _ _ _ => S - (intOf x).toNat)
  case atStart => exact ⟨0, rfl, Nat.zero_le _, by rw [HZ0.out]; exact OI.nil _ _, HW0.out.1, HW0.out.2, by simp⟩
  case round =>
    clear HW0
    obtain ⟨a, rfl, haS, hO, hA, hB, hws⟩ := hrel
    by_cases hlt : a < S
    · have hlti : (a : Int) < (S : Int) := by omega
      have k0 := hA.cell 0
      have k1 := hA.cell 1
      simp only [List.getElem?_cons_zero, List.getElem?_cons_succ] at k0 k1
      have HX := hid (And.intro hO (And.intro hA (And.intro hB hws)))
      have HZa := hid (HZ1.out a)
      clear hO hA hB
      go_wp2_with fail
      go_loopw [5, 6] (fun n x wq => ∃ b : Nat, x = .int .i64 b ∧ b ≤ S ∧ n = .int .i64 (R a b) ∧ wq = wr) (fun _ x _ => S - (intOf x).toNat)
      case atStart => exact ⟨0, rfl, Nat.zero_le _, by rw [HR0.out], rfl⟩
      case round =>
        obtain ⟨b, rfl, hbS, rfl, rfl⟩ := hrel
        by_cases hbl : b < S
        · have hbli : (b : Int) < (S : Int) := by omega
          have hp := HP.out a b hlt hbl
          have c1 := (HX.out.2.2.1.cell (p := ⟨bs, os + (a * S + b), none⟩) hbs).trans (HCS.out _ hp)
          have hr1 := HR1.out a b
          have hbd := HBD.out a b
          have hg := H01.out (a * S + b)
          have m1 : (a : Int) * (S : Int) = ((a * S : Nat) : Int) := (Int.natCast_mul _ _).symm
          have a1 : ((a * S : Nat) : Int) + (b : Int) = ((a * S + b : Nat) : Int) := (Int.natCast_add _ _).symm
          have l1 : a * S ≤ a * S + b := by omega
          have HR := hid hr1
          clear hr1
          generalize G (a * S + b) = x at *
          generalize R a b = r at *
          generalize a * S + b = p at *
          generalize a * S = q at *
          have hwx := IntWalk.i64_in (r + x) (by omega)
          go_wp2
          go_roundw
          case rel => exact ⟨b + 1, by go_num, by omega, by rw [HR.out], by first | rfl | trivial⟩
          case measure => simp [intOf] <;> omega
        · obtain rfl : b = S := by omega
          have hbli : ¬ (b : Int) < (b : Int) := by omega
          have hl9 : (D a).length ≤ 9 := by rw [HZL.out a]; omega
          have hbw := HX.out.2.2.1.size
          generalize R a b = r at *
          go_wp2_with (at_builtin; refine wpList_appi wr _ _ 22 rfl rfl Try.underlying22 Try.info3 (w.heap.size + 1) _ _ rfl HX.out.1 rfl (by omega) hws ?_; intro g7 c7 w7 ho7 hg7 hg7a hg7b; have HZ := hid (And.intro ho7 (And.intro (HX.out.2.1.kept hg7 (fun e => by have := (OI.lt HX.out.1 _ e.symm).1; omega)) (And.intro (HX.out.2.2.1.grown hg7 hbw (fun k e => by have := (OI.lt HX.out.1 k e).1; omega)) (Nat.le_trans hws hg7.size)))); clear ho7 hg7 hg7a hg7b)
          go_roundw
          case rel => exact ⟨a + 1, by go_num, by omega, by rw [HZa.out]; exact HZ.out.1, HZ.out.2.1, HZ.out.2.2.1, HZ.out.2.2.2⟩
          case measure => simp [intOf] <;> omega
    · obtain rfl : a = S := by omega
      have hlti : ¬ (a : Int) < (a : Int) := by omega
      have k0 := hA.cell 0
      simp only [List.getElem?_cons_zero] at k0
      have hl9 := HZL.out a
      have HX := hid (And.intro (hO.sl (by omega)) hB)
      clear hO hA hB
      go_wp2
      go_ret
      exact ⟨⟨_, rfl, by rw [← HZA.out]; exact HX.out.1⟩, HX.out.2⟩
end Go.Proofs.Ythbpdfkaacgpoaa
