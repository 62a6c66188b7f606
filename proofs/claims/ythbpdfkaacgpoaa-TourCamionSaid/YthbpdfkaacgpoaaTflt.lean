/-
  The walk over parterreref4.TourFault. Conditions: the slice can be read; the numbers are of 64 bits.
-/
import Derived.Test.YthbpdfkaacgpoaaTchk
namespace Go.Proofs.Ythbpdfkaacgpoaa
set_option linter.unusedVariables false
open Go.RowKit

theorem gD_opt (l : List Int) (i : Nat) : l[i]?.getD 0 = gD l i := by unfold gD; rw [List.getD_eq_getElem?_getD]
theorem any_off {l : List Int} {N i : Nat} (hN : l.length = N) (hi : i < N) (h : off01 (gD l i) = true) : l.any off01 = true := by
  refine List.any_eq_true.2 ⟨l[i]'(by omega), List.getElem_mem _, ?_⟩
  unfold gD at h
  rw [List.getD_eq_getElem?_getD, List.getElem?_eq_getElem (by omega)] at h
  exact h
theorem any_on {l : List Int} {N : Nat} (hN : l.length = N) (h : ∀ i, i < N → off01 (gD l i) = false) : l.any off01 = false := by
  cases hb : l.any off01 with
  | false => rfl
  | true =>
    obtain ⟨x, hx, h2⟩ := List.any_eq_true.1 hb
    obtain ⟨i, hi, rfl⟩ := List.mem_iff_getElem.1 hx
    have := h i (by omega)
    unfold gD at this
    rw [List.getD_eq_getElem?_getD, List.getElem?_eq_getElem hi] at this
    rw [show (some l[i]).getD 0 = l[i] from rfl, h2] at this
    cases this

set_option maxHeartbeats 1000000 in
set_option maxRecDepth 100000 in
theorem TourFault_any (n : Int) (u : Value) (l : List Int) (w : World) (hu : Sl w u l) (hi64 : ∀ x ∈ l, I64 x) :
    Calls Try.prog 10 #[sqV n u] w fun e w' => e = .returned (.int .i64 (tE n l)) ∧ Below w.heap.size w w' := by
  obtain ⟨ax, cx, N, rfl, hN, hl1, hl2⟩ := hu.open
  have HN := hid hN.out
  have hA := Arr.new w 24 [.int .i64 n, .slice ax N cx]
  have hb0 := (Below.refl w.heap.size w).alloc (Nat.le_refl _) (.cells #[.int .i64 n, .slice ax N cx] 24)
  have k0 := hA.cell 0
  have k1 := hA.cell 1
  simp only [List.getElem?_cons_zero, List.getElem?_cons_succ] at k0 k1
  have HB := hid (And.intro hA hb0)
  clear hA hb0 hN hu
  by_cases h1 : n < 1 ∨ 9 < n
  · have HE := hid (tE_range (l := l) h1)
    unfold sqV
    rcases h1 with h | h
    · go_enter Try.func10, Try.ntmps10
      go_wp2
      go_ret
      exact ⟨by rw [HE.out]; rfl, HB.out.2⟩
    · have h' : ¬ n < 1 := by omega
      go_enter Try.func10, Try.ntmps10
      go_wp2
      go_ret
      exact ⟨by rw [HE.out]; rfl, HB.out.2⟩
  · obtain ⟨S, rfl⟩ := Int.eq_ofNat_of_zero_le (show 0 ≤ n by omega)
    have hS1 : ¬ (S : Int) < 1 := by omega
    have hS9 : ¬ 9 < (S : Int) := by omega
    have hSS : (S : Int) * (S : Int) = ((S * S : Nat) : Int) := (Int.natCast_mul _ _).symm
    have hSS81 : S * S ≤ 81 := Nat.mul_le_mul (show S ≤ 9 by omega) (show S ≤ 9 by omega)
    by_cases h2 : N = S * S
    · have hlen : (l.length : Int) = (S : Int) * (S : Int) := by rw [HN.out, hSS]; omega
      have hne : ((N : Int) != ((S * S : Nat) : Int)) = false := by rw [h2]; simp
      obtain ⟨bs, os, rfl, hbs, hcs⟩ := hl2 (by rw [h2]; exact Nat.mul_pos (by omega) (by omega))
      have HCS : Hid (∀ i, i < S * S → w.cell? ⟨bs, os + i, none⟩ = some (.int .i64 (gD l i))) := hid (fun i hi => by rw [hcs i (by omega), gD_opt])
      have HOF := hid (fun i (hi : i < N) (h : off01 (gD l i) = true) => tE_off (l := l) h1 hlen (any_off HN.out hi h))
      have HON := hid (fun (h : ∀ i, i < N → off01 (gD l i) = false) => And.intro (tE_in (l := l) h1 hlen (any_on HN.out h)) (cells01 (any_on HN.out h)))
      rw [Int.toNat_natCast] at HON
      have hSSN : S * S = N := h2.symm
      have HNO := hid (tB_no (N := S) (l := l))
      have HYE := hid (fun i j => tB_yes (N := S) (l := l) (i := i) (j := j))
      clear hlen h1 hl2 hcs h2
      rw [hSSN] at hne HCS hSS81 hSS
      have HSQ := hid hSSN
      clear hSSN
      have hN0 := hid hne
      unfold sqV
      go_enter Try.func10, Try.ntmps10
      go_wp2_with fail
      clear k0 k1
      go_loopw [4] (fun x wr => ∃ i : Nat, x = .int .i64 i ∧ i ≤ N ∧ Hid (∀ i', i' < i → off01 (gD l i') = false) ∧ Arr wr w.heap.size 24 [.int .i64 (S : Int), .slice (some ⟨bs, os, none⟩) N cx] ∧ Below w.heap.size w wr) (fun x _ => N - (intOf x).toNat)
      case atStart => exact ⟨0, rfl, Nat.zero_le _, hid (fun i' h => by omega), HB.out.1, HB.out.2⟩
      case round =>
        clear HB
        obtain ⟨i, rfl, hiN, HF, hA, hB⟩ := hrel
        have k1 := hA.cell 1
        simp only [List.getElem?_cons_zero, List.getElem?_cons_succ] at k1
        by_cases hlt : i < N
        · have hlti : (i : Int) < (N : Int) := by omega
          have c1 := (hB.cell (p := ⟨bs, os + i, none⟩) hbs).trans (HCS.out i hlt)
          have HX := hid (And.intro hA hB)
          have HO := hid (HOF.out i hlt)
          have hoff : off01 (gD l i) = (!(gD l i == 0) && !(gD l i == 1)) := rfl
          have HF2 : Hid (off01 (gD l i) = false → ∀ i', i' < i + 1 → off01 (gD l i') = false) := hid (fun h i' hi' => by
            by_cases e : i' = i
            · rw [e]; exact h
            · exact HF.out i' (by omega))
          clear hA hB
          generalize off01 (gD l i) = O at *
          generalize gD l i = x at *
          cases O with
          | true =>
            have h0 : (x != 0) = true := by rw [bne_iff_ne]; intro e; rw [e] at hoff; simp at hoff
            have h1 : (x != 1) = true := by rw [bne_iff_ne]; intro e; rw [e] at hoff; simp at hoff
            have HE := hid (HO.out rfl)
            clear hoff
            go_wp2
            go_ret
            exact ⟨by rw [HE.out]; rfl, HX.out.2⟩
          | false =>
            have hx : x = 0 ∨ x = 1 := by
              by_cases e0 : x = 0
              · exact .inl e0
              · by_cases e1 : x = 1
                · exact .inr e1
                · simp [e0, e1] at hoff
            clear hoff
            rcases hx with rfl | rfl <;>
            · go_wp2
              go_roundw
              case rel => exact ⟨i + 1, by go_num, by omega, hid (HF2.out (by simp)), HX.out.1, HX.out.2⟩
              case measure => simp [intOf] <;> omega
        · obtain rfl : i = N := by omega
          have hlti : ¬ (i : Int) < (i : Int) := by omega
          obtain ⟨hE, hC01⟩ := HON.out HF.out
          have HE := hid hE
          have HC01 := hid hC01
          have HB := hid (And.intro hA hB)
          obtain ⟨TB, hTB⟩ : ∃ b, tB S l = b := ⟨_, rfl⟩
          rw [hTB] at HE HNO HYE
          clear hA hB hE hC01 hTB HON HOF
          go_wp2_with fail
          clear k1
          go_loopw [5, 6, 7] (fun x _ _ wr => ∃ a : Nat, x = .int .i64 a ∧ a ≤ S ∧ Hid (∀ i' j, i' < a → j ≤ i' → badAt S l i' j = false) ∧ Arr wr w.heap.size 24 [.int .i64 (S : Int), .slice (some ⟨bs, os, none⟩) i cx] ∧ Below w.heap.size w wr) (fun x _ _ _ => S - (intOf x).toNat)
          case atStart => exact ⟨0, rfl, Nat.zero_le _, hid (fun i' j h => by omega), HB.out.1, HB.out.2⟩
          case round =>
            clear HB
            obtain ⟨a, rfl, haS, HNB, hA, hB⟩ := hrel
            by_cases hlt : a < S
            · have hlta : (a : Int) < (S : Int) := by omega
              have HX := hid (And.intro hA hB)
              clear hA hB
              go_wp2_with fail
              go_loopw [6, 7] (fun x _ wq => ∃ j : Nat, x = .int .i64 j ∧ j ≤ a + 1 ∧ Hid (∀ j', j' < j → badAt S l a j' = false) ∧ Arr wq w.heap.size 24 [.int .i64 (S : Int), .slice (some ⟨bs, os, none⟩) i cx] ∧ Below w.heap.size w wq) (fun x _ _ => a + 1 - (intOf x).toNat)
              case atStart => exact ⟨0, rfl, Nat.zero_le _, hid (fun j h => by omega), HX.out.1, HX.out.2⟩
              case round =>
                clear HX
                obtain ⟨j, rfl, hja, HNJ, hA, hB⟩ := hrel
                by_cases hjl : j ≤ a
                · have hjli : (j : Int) ≤ (a : Int) := by omega
                  have k1 := hA.cell 1
                  simp only [List.getElem?_cons_zero, List.getElem?_cons_succ] at k1
                  have hp1 := pos_lt hlt (show j < S by omega)
                  have hp2 := pos_lt (show j < S by omega) hlt
                  rw [HSQ.out] at hp1 hp2
                  have c1 := (hB.cell (p := ⟨bs, os + (a * S + j), none⟩) hbs).trans (HCS.out _ hp1)
                  have c2 := (hB.cell (p := ⟨bs, os + (j * S + a), none⟩) hbs).trans (HCS.out _ hp2)
                  have m1 : (a : Int) * (S : Int) = ((a * S : Nat) : Int) := (Int.natCast_mul _ _).symm
                  have m2 : (j : Int) * (S : Int) = ((j * S : Nat) : Int) := (Int.natCast_mul _ _).symm
                  have a1 : ((a * S : Nat) : Int) + (j : Int) = ((a * S + j : Nat) : Int) := (Int.natCast_add _ _).symm
                  have a2 : ((j * S : Nat) : Int) + (a : Int) = ((j * S + a : Nat) : Int) := (Int.natCast_add _ _).symm
                  have hb : badAt S l a j = if a = j then gD l (a * S + j) == 1 else gD l (a * S + j) == gD l (j * S + a) := rfl
                  have hxy := HC01.out (a * S + j)
                  have hyx := HC01.out (j * S + a)
                  have hsame : a = j → gD l (j * S + a) = gD l (a * S + j) := fun e => by rw [e]
                  have c1 : wr.drew.cell? ⟨bs, os + (a * S + j), none⟩ = _ := c1
                  have c2 : wr.drew.cell? ⟨bs, os + (j * S + a), none⟩ = _ := c2
                  have k1 : wr.drew.cell? ⟨w.heap.size, 1, none⟩ = _ := k1
                  have HX := hid (And.intro hA hB.drew)
                  have HYB := hid (HYE.out a j hlt (by omega))
                  have HNJ2 : Hid (badAt S l a j = false → ∀ j', j' < j + 1 → badAt S l a j' = false) := hid (fun h j' hj' => by
                    by_cases e : j' = j
                    · rw [e]; exact h
                    · exact HNJ.out j' (by omega))
                  have l1 : a * S ≤ a * S + j := by omega
                  have l2 : j * S ≤ j * S + a := by omega
                  clear hA hB HNJ
                  generalize badAt S l a j = BA at *
                  generalize gD l (a * S + j) = x at *
                  generalize gD l (j * S + a) = y at *
                  generalize a * S + j = p1 at *
                  generalize j * S + a = p2 at *
                  generalize a * S = q1 at *
                  generalize j * S = q2 at *
                  obtain ⟨s, hs⟩ : ∃ s, x + y = s := ⟨_, rfl⟩
                  have hs02 : 0 ≤ s ∧ s ≤ 2 := by omega
                  by_cases hij : a = j
                  · rw [if_pos hij] at hb
                    have hyx2 := hsame hij
                    have hije : ((a : Int) == (j : Int)) = true := by rw [beq_iff_eq, hij]
                    have hijn : ((a : Int) != (j : Int)) = false := by rw [hij]; simp
                    have hsb : (s != 0) = BA := by
                      rw [hb, Bool.eq_iff_iff, bne_iff_ne, beq_iff_eq]
                      omega
                    clear hij hsame hxy hyx hyx2 hb
                    cases BA with
                    | true =>
                      have HT := hid (HYB.out rfl)
                      go_wp2
                      go_region
                      go_wp2
                      go_ret
                      exact ⟨by rw [HE.out, HT.out]; rfl, HX.out.2⟩
                    | false =>
                      go_wp2
                      go_region
                      go_wp2
                      go_roundw
                      case rel => exact ⟨j + 1, by go_num, by omega, hid (HNJ2.out trivial), HX.out.1, HX.out.2⟩
                      case measure => simp [intOf] <;> omega
                  · rw [if_neg hij] at hb
                    have hije : ((a : Int) == (j : Int)) = false := by rw [beq_eq_false_iff_ne]; omega
                    have hijn : ((a : Int) != (j : Int)) = true := by rw [bne_iff_ne]; omega
                    have hsb : (s != 1) = BA := by
                      rw [hb, Bool.eq_iff_iff, bne_iff_ne, beq_iff_eq]
                      omega
                    clear hij hsame hxy hyx hb
                    cases BA with
                    | true =>
                      have HT := hid (HYB.out rfl)
                      go_wp2
                      go_region
                      go_wp2
                      go_ret
                      exact ⟨by rw [HE.out, HT.out]; rfl, HX.out.2⟩
                    | false =>
                      go_wp2
                      go_region
                      go_wp2
                      go_roundw
                      case rel => exact ⟨j + 1, by go_num, by omega, hid (HNJ2.out trivial), HX.out.1, HX.out.2⟩
                      case measure => simp [intOf] <;> omega
                · obtain rfl : j = a + 1 := by omega
                  have hjli : ¬ ((a + 1 : Nat) : Int) ≤ (a : Int) := by omega
                  have HX := hid (And.intro hA hB)
                  clear hA hB
                  generalize hj1 : a + 1 = j1 at *
                  have HJ1 := hid hj1
                  clear hj1
                  go_wp2
                  go_roundw
                  case rel => exact ⟨a + 1, by go_num, by omega, hid (fun i' j' h1 h2 => by
                    by_cases e : i' = a
                    · rw [e] at h2 ⊢
                      exact HNJ.out j' (by have := HJ1.out; omega)
                    · exact HNB.out i' j' (by omega) h2), HX.out.1, HX.out.2⟩
                  case measure => simp [intOf] <;> omega
            · obtain rfl : a = S := by omega
              have hlta : ¬ (a : Int) < (a : Int) := by omega
              have HT := hid (HNO.out HNB.out)
              have HX := hid hB
              clear hA hB
              go_wp2
              go_ret
              exact ⟨by rw [HE.out, HT.out]; rfl, HX.out⟩
    · have hne : ((N : Int) != ((S * S : Nat) : Int)) = true := by rw [bne_iff_ne]; omega
      have HE := hid (tE_shape (l := l) h1 (by rw [HN.out, hSS]; omega))
      clear h2 h1
      generalize S * S = SS at *
      unfold sqV
      go_enter Try.func10, Try.ntmps10
      go_wp2
      go_ret
      exact ⟨by rw [HE.out]; rfl, HB.out.2⟩
end Go.Proofs.Ythbpdfkaacgpoaa
