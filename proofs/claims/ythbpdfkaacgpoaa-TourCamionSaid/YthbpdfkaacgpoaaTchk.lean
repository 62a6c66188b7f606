/-
  The walks over tour.Check and parterreref4.TourFault: what is wrong with a tournament. Conditions: the slice can be read; the numbers are of 64 bits.
-/
import Derived.Test.YthbpdfkaacgpoaaSlib
import Derived.Test.YthbpdfkaacgpoaaArr
import Derived.BigRegion
namespace Go.Proofs.Ythbpdfkaacgpoaa
set_option linter.unusedVariables false
open Go.RowKit

/-- A tournament's value. -/
def sqV (n : Int) (u : Value) : Value := .agg #[.int .i64 n, u]
def gD (l : List Int) (i : Nat) : Int := l.getD i 0
def off01 (x : Int) : Bool := !(x == 0) && !(x == 1)
def badAt (N : Nat) (l : List Int) (i j : Nat) : Bool := if i = j then gD l (i * N + j) == 1 else gD l (i * N + j) == gD l (j * N + i)
def tB (N : Nat) (l : List Int) : Bool := (List.range N).any fun i => (List.range (i + 1)).any fun j => badAt N l i j
/-- What is wrong with a tournament. -/
def tE (n : Int) (l : List Int) : Int := if n < 1 ∨ 9 < n then 1 else if (l.length : Int) ≠ n * n then 2 else if l.any off01 = true then 1 else if tB n.toNat l = true then 4 else 0
theorem tB_yes {N : Nat} {l : List Int} {i j : Nat} (hi : i < N) (hj : j ≤ i) (h : badAt N l i j = true) : tB N l = true :=
  List.any_eq_true.2 ⟨i, List.mem_range.2 hi, List.any_eq_true.2 ⟨j, List.mem_range.2 (by omega), h⟩⟩
theorem tB_no {N : Nat} {l : List Int} (h : ∀ i j, i < N → j ≤ i → badAt N l i j = false) : tB N l = false := by
  cases hb : tB N l with
  | false => rfl
  | true =>
    obtain ⟨i, hi, h2⟩ := List.any_eq_true.1 hb
    obtain ⟨j, hj, h3⟩ := List.any_eq_true.1 h2
    rw [h i j (List.mem_range.1 hi) (by have := List.mem_range.1 hj; omega)] at h3
    cases h3
theorem tE_range {n : Int} {l : List Int} (h : n < 1 ∨ 9 < n) : tE n l = 1 := if_pos h
theorem tE_shape {n : Int} {l : List Int} (h : ¬ (n < 1 ∨ 9 < n)) (h2 : (l.length : Int) ≠ n * n) : tE n l = 2 := by rw [tE, if_neg h, if_pos h2]
theorem tE_off {n : Int} {l : List Int} (h : ¬ (n < 1 ∨ 9 < n)) (h2 : (l.length : Int) = n * n) (h3 : l.any off01 = true) : tE n l = 1 := by rw [tE, if_neg h, if_neg (by simpa using h2), if_pos h3]
theorem tE_in {n : Int} {l : List Int} (h : ¬ (n < 1 ∨ 9 < n)) (h2 : (l.length : Int) = n * n) (h3 : l.any off01 = false) : tE n l = if tB n.toNat l = true then 4 else 0 := by rw [tE, if_neg h, if_neg (by simpa using h2), if_neg (by rw [h3]; decide)]
theorem cells01 {l : List Int} (h : l.any off01 = false) (i : Nat) : gD l i = 0 ∨ gD l i = 1 := by
  unfold gD
  rw [List.getD_eq_getElem?_getD]
  cases e : l[i]? with
  | none => exact .inl rfl
  | some x =>
    have hx := List.mem_of_getElem? e
    have h2 : ¬ off01 x = true := fun hc => by
      have : l.any off01 = true := List.any_eq_true.2 ⟨x, hx, hc⟩
      rw [h] at this
      cases this
    simp only [off01, Bool.and_eq_true, Bool.not_eq_true', beq_eq_false_iff_ne] at h2
    show x = 0 ∨ x = 1
    omega
theorem pos_lt {N i j : Nat} (hi : i < N) (hj : j < N) : i * N + j < N * N := by
  have := Nat.mul_le_mul_right N (show i + 1 ≤ N by omega)
  rw [Nat.succ_mul] at this
  omega

theorem check1_any (x : Int) (w : World) :
    Calls Try.prog 44 #[.int .i64 x] w fun e w' => e = .returned (.bool (off01 x)) ∧ w = w' := by
  by_cases h0 : x = 0
  · subst h0
    go_enter Try.func44, Try.ntmps44
    go_wp2
    go_ret
    exact ⟨rfl, rfl⟩
  · by_cases h1 : x = 1
    · subst h1
      go_enter Try.func44, Try.ntmps44
      go_wp2
      go_ret
      exact ⟨rfl, rfl⟩
    · have H : Hid (off01 x = true) := hid (by simp [off01, h0, h1])
      have e0 : (x != 0) = true := by simpa using h0
      have e1 : (x != 1) = true := by simpa using h1
      clear h0 h1
      go_enter Try.func44, Try.ntmps44
      go_wp2
      go_ret
      exact ⟨by rw [H.out]; rfl, rfl⟩
theorem check1_tests (w : World) : Tests 44 #[] off01 w where
  enter := run_callFunc_own Try.func44 (by kernel_rfl) (by kernel_rfl)
  calls := fun x _ => check1_any x w

set_option maxHeartbeats 1000000 in
set_option maxRecDepth 100000 in
theorem Check_any (n : Int) (u : Value) (l : List Int) (w : World) (hu : Sl w u l) (hi64 : ∀ x ∈ l, I64 x) :
    Calls Try.prog 23 #[sqV n u] w fun e w' => e = .returned (.int .i64 (tE n l)) ∧ Below w.heap.size w w' := by
  have HCT := hid (fun w1 (hb : Below w.heap.size w w1) => containsFunc_any 44 #[] off01 u l w1 (hu.below hb) hi64 (check1_tests w1))
  obtain ⟨ax, cx, N, rfl, hN, hl1, hl2⟩ := hu.open
  have HN := hid hN.out
  have hA := Arr.new w 24 [.int .i64 n, .slice ax N cx]
  have hb0 := (Below.refl w.heap.size w).alloc (Nat.le_refl _) (.cells #[.int .i64 n, .slice ax N cx] 24)
  have k0 := hA.cell 0
  have k1 := hA.cell 1
  simp only [List.getElem?_cons_zero, List.getElem?_cons_succ] at k0 k1
  have HB := hid (And.intro hA hb0)
  clear hA hb0 hN hu
  by_cases h1 : n < 1 ∨ 9 < n
  · have HE := hid (tE_range (l := l) h1)
    unfold sqV
    rcases h1 with h | h
    · go_enter Try.func23, Try.ntmps23
      go_wp2
      go_ret
      exact ⟨by rw [HE.out]; rfl, HB.out.2⟩
    · have h' : ¬ n < 1 := by omega
      go_enter Try.func23, Try.ntmps23
      go_wp2
      go_ret
      exact ⟨by rw [HE.out]; rfl, HB.out.2⟩
  · obtain ⟨S, rfl⟩ := Int.eq_ofNat_of_zero_le (show 0 ≤ n by omega)
    have hS1 : ¬ (S : Int) < 1 := by omega
    have hS9 : ¬ 9 < (S : Int) := by omega
    have hSS : (S : Int) * (S : Int) = ((S * S : Nat) : Int) := (Int.natCast_mul _ _).symm
    have hSS81 : S * S ≤ 81 := Nat.mul_le_mul (show S ≤ 9 by omega) (show S ≤ 9 by omega)
    by_cases h2 : N = S * S
    · have hlen : (l.length : Int) = (S : Int) * (S : Int) := by rw [HN.out, hSS]; omega
      have hne : ((N : Int) != ((S * S : Nat) : Int)) = false := by rw [h2]; simp
      cases h3 : l.any off01 with
      | true =>
        have HE := hid (tE_off (l := l) h1 hlen h3)
        rw [h3] at HCT
        clear h3 hlen h2 h1
        generalize S * S = SS at *
        unfold sqV
        go_enter Try.func23, Try.ntmps23
        go_wp2_with fail
        refine (HCT.out _ HB.out.2).mono ?_
        rintro e w2 ⟨rfl, rfl⟩
        go_wp2
        go_ret
        exact ⟨by rw [HE.out]; rfl, HB.out.2⟩
      | false =>
        have HE := hid (tE_in (l := l) h1 hlen h3)
        rw [Int.toNat_natCast] at HE
        rw [h3] at HCT
        have HC01 := hid (cells01 h3)
        obtain ⟨bs, os, rfl, hbs, hcs⟩ := hl2 (by rw [h2]; exact Nat.mul_pos (by omega) (by omega))
        have HCS : Hid (∀ i, i < S * S → w.cell? ⟨bs, os + i, none⟩ = some (.int .i64 (gD l i))) := hid (fun i hi => by
          rw [hcs i (by omega)]
          unfold gD
          rw [List.getD_eq_getElem?_getD])
        have hSSN : S * S ≤ N := by omega
        have HNO := hid (tB_no (N := S) (l := l))
        have HYE := hid (fun i j => tB_yes (N := S) (l := l) (i := i) (j := j))
        obtain ⟨TB, hTB⟩ : ∃ b, tB S l = b := ⟨_, rfl⟩
        rw [hTB] at HE HNO HYE
        clear h3 hlen h1 hl2 hcs hTB h2
        have HSS : Hid (S * S = S * S) := hid rfl
        generalize hSq : S * S = SS at *
        have HSQ := hid hSq
        clear hSq HSS
        unfold sqV
        go_enter Try.func23, Try.ntmps23
        go_wp2_with fail
        refine (HCT.out _ HB.out.2).mono ?_
        rintro e w2 ⟨rfl, rfl⟩
        go_wp2_with fail
        clear k0 k1
        go_loopw [4, 5, 6, 7, 30, 35] (fun _ _ _ _ x _ wr => ∃ i : Nat, x = .int .i64 i ∧ i ≤ S ∧ Hid (∀ i' j, i' < i → j ≤ i' → badAt S l i' j = false) ∧ Arr wr w.heap.size 24 [.int .i64 (S : Int), .slice (some ⟨bs, os, none⟩) N cx] ∧ Below w.heap.size w wr) (fun _ _ _ _ x _ _ => S - (intOf x).toNat)
        case atStart => exact ⟨0, rfl, Nat.zero_le _, hid (fun i' j h => by omega), HB.out.1, HB.out.2⟩
        case round =>
          clear HB
          obtain ⟨i, rfl, hiS, HNB, hA, hB⟩ := hrel
          by_cases hlt : i < S
          · have hlti : (i : Int) < (S : Int) := by omega
            have HX := hid (And.intro hA hB)
            clear hA hB
            go_wp2_with fail
            go_loopw [5, 6, 7, 35] (fun _ _ _ x wq => ∃ j : Nat, x = .int .i64 j ∧ j ≤ i + 1 ∧ Hid (∀ j', j' < j → badAt S l i j' = false) ∧ Arr wq w.heap.size 24 [.int .i64 (S : Int), .slice (some ⟨bs, os, none⟩) N cx] ∧ Below w.heap.size w wq) (fun _ _ _ x _ => i + 1 - (intOf x).toNat)
            case atStart => exact ⟨0, rfl, Nat.zero_le _, hid (fun j h => by omega), HX.out.1, HX.out.2⟩
            case round =>
              clear HX
              obtain ⟨j, rfl, hji, HNJ, hA, hB⟩ := hrel
              by_cases hjl : j < i + 1
              · have hjli : (j : Int) < (i : Int) + 1 := by omega
                have k1 := hA.cell 1
                simp only [List.getElem?_cons_zero, List.getElem?_cons_succ] at k1
                have hp1 := pos_lt hlt (show j < S by omega)
                have hp2 := pos_lt (show j < S by omega) hlt
                rw [HSQ.out] at hp1 hp2
                have c1 := (hB.cell (p := ⟨bs, os + (i * S + j), none⟩) hbs).trans (HCS.out _ hp1)
                have c2 := (hB.cell (p := ⟨bs, os + (j * S + i), none⟩) hbs).trans (HCS.out _ hp2)
                have m1 : (i : Int) * (S : Int) = ((i * S : Nat) : Int) := (Int.natCast_mul _ _).symm
                have m2 : (j : Int) * (S : Int) = ((j * S : Nat) : Int) := (Int.natCast_mul _ _).symm
                have a1 : ((i * S : Nat) : Int) + (j : Int) = ((i * S + j : Nat) : Int) := (Int.natCast_add _ _).symm
                have a2 : ((j * S : Nat) : Int) + (i : Int) = ((j * S + i : Nat) : Int) := (Int.natCast_add _ _).symm
                have hb : badAt S l i j = if i = j then gD l (i * S + j) == 1 else gD l (i * S + j) == gD l (j * S + i) := rfl
                have hxy := HC01.out (i * S + j)
                have hyx := HC01.out (j * S + i)
                have c1 : wr.drew.cell? ⟨bs, os + (i * S + j), none⟩ = _ := c1
                have c2 : wr.drew.cell? ⟨bs, os + (j * S + i), none⟩ = _ := c2
                have k1 : wr.drew.cell? ⟨w.heap.size, 1, none⟩ = _ := k1
                have HX := hid (And.intro hA hB.drew)
                have HYB := hid (HYE.out i j hlt (by omega))
                have HNJ2 : Hid (badAt S l i j = false → ∀ j', j' < j + 1 → badAt S l i j' = false) := hid (fun h j' hj' => by
                  by_cases e : j' = j
                  · rw [e]; exact h
                  · exact HNJ.out j' (by omega))
                have l1 : i * S ≤ i * S + j := by omega
                have l2 : j * S ≤ j * S + i := by omega
                clear hA hB HNJ
                generalize badAt S l i j = BA at *
                generalize gD l (i * S + j) = x at *
                generalize gD l (j * S + i) = y at *
                generalize i * S + j = p1 at *
                generalize j * S + i = p2 at *
                generalize i * S = q1 at *
                generalize j * S = q2 at *
                by_cases hij : i = j
                · rw [if_pos hij] at hb
                  have hije : ((i : Int) == (j : Int)) = true := by rw [beq_iff_eq, hij]
                  have hijn : ((i : Int) != (j : Int)) = false := by rw [hij]; simp
                  clear hij
                  cases BA with
                  | true =>
                    have hx1 := hb.symm
                    have HT := hid (HYB.out rfl)
                    clear hb
                    go_wp2
                    go_region
                    go_wp2
                    go_ret
                    exact ⟨by rw [HE.out, HT.out]; rfl, HX.out.2⟩
                  | false =>
                    have hx1 := hb.symm
                    clear hb
                    go_wp2
                    go_region
                    go_wp2
                    go_roundw
                    case rel => exact ⟨j + 1, by go_num, by omega, hid (HNJ2.out trivial), HX.out.1, HX.out.2⟩
                    case measure => simp [intOf] <;> omega
                · rw [if_neg hij] at hb
                  have hije : ((i : Int) == (j : Int)) = false := by rw [beq_eq_false_iff_ne]; omega
                  have hijn : ((i : Int) != (j : Int)) = true := by rw [bne_iff_ne]; omega
                  clear hij
                  cases BA with
                  | true =>
                    have hx1 := hb.symm
                    have HT := hid (HYB.out rfl)
                    clear hb
                    go_wp2
                    go_region
                    go_wp2
                    go_ret
                    exact ⟨by rw [HE.out, HT.out]; rfl, HX.out.2⟩
                  | false =>
                    have hx1 := hb.symm
                    clear hb
                    go_wp2
                    go_region
                    go_wp2
                    go_roundw
                    case rel => exact ⟨j + 1, by go_num, by omega, hid (HNJ2.out trivial), HX.out.1, HX.out.2⟩
                    case measure => simp [intOf] <;> omega
              · obtain rfl : j = i + 1 := by omega
                have hjli : ¬ ((i + 1 : Nat) : Int) < (i : Int) + 1 := by omega
                have HX := hid (And.intro hA hB)
                clear hA hB
                generalize hj1 : i + 1 = j1 at *
                have HJ1 := hid hj1
                clear hj1
                go_wp2
                go_roundw
                case rel => exact ⟨i + 1, by go_num, by omega, hid (fun i' j' h1 h2 => by
                  by_cases e : i' = i
                  · rw [e] at h2 ⊢
                    exact HNJ.out j' (by have := HJ1.out; omega)
                  · exact HNB.out i' j' (by omega) h2), HX.out.1, HX.out.2⟩
                case measure => simp [intOf] <;> omega
          · obtain rfl : i = S := by omega
            have hlti : ¬ (i : Int) < (i : Int) := by omega
            have HT := hid (HNO.out HNB.out)
            have HX := hid hB
            clear hA hB
            go_wp2
            go_ret
            exact ⟨by rw [HE.out, HT.out]; rfl, HX.out⟩
    · have hne : ((N : Int) != ((S * S : Nat) : Int)) = true := by rw [bne_iff_ne]; omega
      have HE := hid (tE_shape (l := l) h1 (by rw [HN.out, hSS]; omega))
      clear h2 h1
      generalize S * S = SS at *
      unfold sqV
      go_enter Try.func23, Try.ntmps23
      go_wp2
      go_ret
      exact ⟨by rw [HE.out]; rfl, HB.out.2⟩
end Go.Proofs.Ythbpdfkaacgpoaa
