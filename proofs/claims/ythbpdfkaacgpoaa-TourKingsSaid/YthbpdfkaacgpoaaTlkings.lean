/-
  The walk over parterrelaw4.TourKings. Conditions: the slice can be read; the numbers are of 64 bits.
-/
import Derived.Test.YthbpdfkaacgpoaaTkings
import Derived.Test.YthbpdfkaacgpoaaTlredei
namespace Go.Proofs.Ythbpdfkaacgpoaa
set_option linter.unusedVariables false
open Go.RowKit

/-- The greatest so far. -/
def mxZ (Z : List Int) : Nat → Int
  | 0 => 0
  | i + 1 => if mxZ Z i < Z.getD i 0 then Z.getD i 0 else mxZ Z i
theorem mxZ_ge (Z : List Int) : ∀ i j, j < i → Z.getD j 0 ≤ mxZ Z i
  | 0, j, h => by omega
  | i + 1, j, h => by
    have ih := mxZ_ge Z i j
    rw [mxZ]
    by_cases e : j = i
    · subst e; split <;> omega
    · have := ih (by omega); split <;> omega
theorem mxZ_le {Z : List Int} {c : Int} (h0 : 0 ≤ c) : ∀ i, (∀ j, j < i → Z.getD j 0 ≤ c) → mxZ Z i ≤ c
  | 0, _ => h0
  | i + 1, h => by
    have ih := mxZ_le h0 i (fun j hj => h j (by omega))
    have := h i (by omega)
    rw [mxZ]
    split <;> omega
/-- Is it among the first so many? -/
def inZ (L : List Int) (x : Int) (j : Nat) : Bool := (L.take j).any fun y => y == x
theorem inZ_zero (L : List Int) (x : Int) : inZ L x 0 = false := rfl
theorem inZ_succ (L : List Int) (x : Int) {j : Nat} (h : j < L.length) : inZ L x (j + 1) = (inZ L x j || (L.getD j 0 == x)) := by
  unfold inZ
  rw [List.take_add_one, List.any_append, List.getD_eq_getElem?_getD, List.getElem?_eq_getElem h]
  simp
theorem inZ_full (L : List Int) (x : Int) : inZ L x L.length = L.any fun y => y == x := by unfold inZ; rw [List.take_length]
theorem kings_facts {S : Nat} {l : List Int} (hS1 : 1 ≤ S) (hS9 : S ≤ 9) (h0 : l.any off01 = false) (hB : tB S l = false) :
    (kgI S (beB S l (S * S)) S).length ≠ 0 ∧ (kgI S (beB S l (S * S)) S).length ≠ 2 ∧ (∀ i, i < S → (scL S l).getD i 0 = mxZ (scL S l) S → inZ (kgI S (beB S l (S * S)) S) i (kgI S (beB S l (S * S)) S).length = true) ∧ (1 < (kgI S (beB S l (S * S)) S).length ∨ mxZ (scL S l) S = (S : Int) - 1) := by
  have hg : ∀ i, i < S → (scL S l).getD i 0 = ((scN S (beB S l (S * S)) i : Nat) : Int) := fun i hi => by
    rw [scL_eq hS9 h0]
    simp [hi]
  have ht := fun i j (hi : i < S) (hj : j < S) (hij : i ≠ j) => tot_two hS9 h0 hB hi hj hij
  have hi := fun i (hi : i < S) => tot_irr hS9 h0 hB hi
  generalize beB S l (S * S) = SB at *
  have hlen : (kgI S SB S).length = (kgL S SB).length := by unfold kgI; rw [List.length_map]; rfl
  have hle : mxZ (scL S l) S ≤ (S : Int) - 1 := mxZ_le (by omega) S (fun j hj => by
    rw [hg j hj]
    have := score_le hi hj
    omega)
  refine ⟨fun e => kings_some ht hi hS1 (List.eq_nil_of_length_eq_zero (by rw [← hlen, e])), fun e => ?_, fun i hiS e => ?_, ?_⟩
  · rw [hlen] at e
    obtain ⟨a, b, h2⟩ : ∃ a b, kgL S SB = [a, b] := by
      match h3 : kgL S SB, e with
      | [a, b], _ => exact ⟨a, b, rfl⟩
    exact kings_two ht hi h2
  · have hk := king_score ht hi hiS (fun j hj => by
      have := mxZ_ge (scL S l) S j hj
      rw [← e, hg j hj, hg i hiS] at this
      omega)
    rw [inZ_full, List.any_eq_true]
    exact ⟨(i : Int), List.mem_map.2 ⟨i, List.mem_filter.2 ⟨List.mem_range.2 hiS, hk⟩, rfl⟩, by simp⟩
  · rw [hlen]
    match h3 : kgL S SB with
    | [] => exact absurd h3 (kings_some ht hi hS1)
    | [v] =>
      right
      obtain ⟨hv, hs⟩ := kings_one ht hi h3
      have := mxZ_ge (scL S l) S v hv
      rw [hg v hv, hs] at this
      omega
    | a :: b :: r => left; simp

set_option maxHeartbeats 2000000 in
set_option maxRecDepth 100000 in
theorem tourKings_bad (w : World) (p : Int) (u : Value) (l : List Int) (hu : Sl w u l) (hi64 : ∀ x ∈ l, I64 x) (h : tE p l ≠ 0) :
    Calls Try.prog 5 #[sqV p u] w fun e w' => e = .returned (.bool true) ∧ Below w.heap.size w w' := by
  have HT := hid tourFact_any
  have HN := hid (fun w1 (hb : Below w.heap.size w w1) => Scores_bad p u l w1 (hu.below hb) hi64 h)
  obtain ⟨ax, cx, e1⟩ := hu.len
  subst e1
  have hne2 : (tE p l != 0) = true := by simpa using h
  generalize tE p l = E at *
  generalize l.length = N at *
  have HW0 := hid (And.intro (Arr.new w 24 [.int .i64 p, .slice ax N cx]) ((Below.refl w.heap.size w).alloc (Nat.le_refl _) (.cells #[.int .i64 p, .slice ax N cx] 24)))
  clear hu hi64 h
  unfold sqV at HN
  unfold sqV
  go_enter Try.func5, Try.ntmps5
  go_wp2_with fail
  refine (HT.out _).mono ?_
  rintro e w1 ⟨rfl, hb1⟩
  have HW1 := hid (And.intro (HW0.out.1.below hb1) (HW0.out.2.trans (hb1.mono HW0.out.2.size)))
  have k1 := HW1.out.1.cell 0
  have j1 := HW1.out.1.cell 1
  simp only [List.getElem?_cons_zero, List.getElem?_cons_succ] at k1 j1
  clear HW0
  go_wp2_with fail
  refine (HN.out _ HW1.out.2).mono ?_
  rintro e w2 ⟨rfl, hb2⟩
  have HW2 := hid (HW1.out.2.trans (hb2.mono HW1.out.2.size))
  clear k1 j1 hb2
  go_wp2
  go_ret
  exact ⟨rfl, HW2.out⟩

set_option maxHeartbeats 2000000 in
set_option maxRecDepth 100000 in
theorem tourKings_ok (w : World) (p : Int) (u : Value) (l : List Int) (hu : Sl w u l) (hi64 : ∀ x ∈ l, I64 x) (h : tE p l = 0) :
    Calls Try.prog 5 #[sqV p u] w fun e w' => e = .returned (.bool true) ∧ Below w.heap.size w w' := by
  obtain ⟨S, rfl, hS1, hS9, hlen, h0, hB⟩ := tE_ok h
  have HT := hid tourFact_any
  have HN := hid (fun w1 (hb : Below w.heap.size w w1) => Scores_ok S u l w1 (hu.below hb) hi64 h hS1 hS9 hlen h0)
  have HK := hid (fun w1 (hb : Below w.heap.size w w1) => Kings_ok S u l w1 (hu.below hb) hi64 h hS1 hS9 hlen)
  obtain ⟨f1, f2, f3, f4⟩ := kings_facts hS1 hS9 h0 hB
  have hZl := scL_len S l
  have hKl := kgI_len S (beB S l (S * S)) S
  generalize kgI S (beB S l (S * S)) S = KL at *
  generalize scL S l = Z at *
  obtain ⟨ax, cx, e1⟩ := hu.len
  subst e1
  generalize l.length = N at *
  have HW0 := hid (And.intro (Arr.new w 24 [.int .i64 (S : Int), .slice ax N cx]) ((Below.refl w.heap.size w).alloc (Nat.le_refl _) (.cells #[.int .i64 (S : Int), .slice ax N cx] 24)))
  have HM1 : Hid (∀ i, mxZ Z (i + 1) = if mxZ Z i < Z.getD i 0 then Z.getD i 0 else mxZ Z i) := hid (fun i => rfl)
  have HM0 : Hid (mxZ Z 0 = 0) := hid rfl
  have HI0 := hid (inZ_zero KL)
  have HI1 := hid (fun x j => inZ_succ KL x (j := j))
  have HZL := hid hZl
  have F3 := hid f3
  generalize mxZ Z = MX at *
  generalize inZ KL = IN at *
  clear hu hi64 h h0 hB hlen hZl f3
  unfold sqV at HN HK
  unfold sqV
  go_enter Try.func5, Try.ntmps5
  go_wp2_with fail
  refine (HT.out _).mono ?_
  rintro e w1 ⟨rfl, hb1⟩
  have HW1 := hid (And.intro (HW0.out.1.below hb1) (HW0.out.2.trans (hb1.mono HW0.out.2.size)))
  have k1 := HW1.out.1.cell 0
  have j1 := HW1.out.1.cell 1
  simp only [List.getElem?_cons_zero, List.getElem?_cons_succ] at k1 j1
  clear HW0
  go_wp2_with fail
  refine (HN.out _ HW1.out.2).mono ?_
  rintro e w2 ⟨⟨v, rfl, hv⟩, hb2⟩
  have HW2 := hid (And.intro (HW1.out.1.below hb2) (HW1.out.2.trans (hb2.mono HW1.out.2.size)))
  have k2 := HW2.out.1.cell 0
  have j2 := HW2.out.1.cell 1
  simp only [List.getElem?_cons_zero, List.getElem?_cons_succ] at k2 j2
  have HV := hid hv
  clear k1 j1 hb2 HW1 hv
  go_wp2_with fail
  refine (HK.out _ HW2.out.2).mono ?_
  rintro e w3 ⟨⟨v4, rfl, hv4⟩, hb3⟩
  have hv := HV.out.below hb3
  have hA3 := HW2.out.1.below hb3
  have hB3 := HW2.out.2.trans (hb3.mono HW2.out.2.size)
  have k3 := hA3.cell 0
  simp only [List.getElem?_cons_zero] at k3
  obtain ⟨av, cv, Sv, rfl, hSv, hl1, hl2⟩ := hv.open
  obtain rfl : Sv = S := by rw [← hSv.out, HZL.out]
  obtain ⟨bs, os, rfl, hbs, hcs⟩ := hl2 (by omega)
  obtain ⟨ak, ck, K, rfl, hK, hk1, hk2⟩ := hv4.open
  have hKL := hK.out
  rw [hKL] at f1 f2 f4 hKl
  obtain ⟨bk, ok, rfl, hbk, hck⟩ := hk2 (by omega)
  have HCS := hid hcs
  have HCK := hid hck
  have F3 : Hid (∀ i, i < Sv → Z.getD i 0 = MX Sv → IN i K = true) := hid (by rw [← hKL]; exact F3.out)
  have F4 := hid f4
  have HKL := hid hKL
  have HX := hid hB3
  have f1' : ((K : Int) == 0) = false := by rw [beq_eq_false_iff_ne]; omega
  have f2' : ((K : Int) == 2) = false := by rw [beq_eq_false_iff_ne]; omega
  clear k2 j2 hb3 HW2 hl1 hl2 hv hA3 hB3 hcs HK HN HT hk1 hk2 hv4 hck hKL f1 f2 f4 HV hSv hb1 hK
  go_wp2
  go_loopw [7, 8] (fun m x wr => ∃ i : Nat, x = .int .i64 i ∧ i ≤ Sv ∧ m = .int .i64 (MX i) ∧ wr = w3) (fun _ x _ => Sv - (intOf x).toNat)
  case atStart => exact ⟨0, rfl, Nat.zero_le _, by rw [HM0.out], rfl⟩
  case round =>
    obtain ⟨i, rfl, hiS, rfl, rfl⟩ := hrel
    by_cases hlt : i < Sv
    · have hlti : (i : Int) < (Sv : Int) := by omega
      have c1 := HCS.out i hlt
      rw [← List.getD_eq_getElem?_getD] at c1
      have hm := HM1.out i
      generalize Z.getD i 0 = z at *
      by_cases hz : MX i < z
      · rw [if_pos hz] at hm
        have HM := hid hm
        clear hm
        generalize MX i = mi at *
        go_wp2
        go_roundw
        case rel => exact ⟨i + 1, by go_num, by omega, by rw [HM.out], by first | rfl | trivial⟩
        case measure => simp [intOf] <;> omega
      · rw [if_neg hz] at hm
        have HM := hid hm
        clear hm
        generalize MX i = mi at *
        go_wp2
        go_roundw
        case rel => exact ⟨i + 1, by go_num, by omega, by rw [HM.out], by first | rfl | trivial⟩
        case measure => simp [intOf] <;> omega
    · obtain rfl : i = Sv := by omega
      have hlti : ¬ (i : Int) < (i : Int) := by omega
      generalize hM : MX i = M at *
      have HMM := hid hM
      clear hM
      go_wp2
      go_loopw [9, 10, 11] (fun x _ _ wq => ∃ t : Nat, x = .int .i64 t ∧ t ≤ i ∧ wq = wr) (fun x _ _ _ => i - (intOf x).toNat)
      case atStart => exact ⟨0, rfl, Nat.zero_le _, rfl⟩
      case round =>
        obtain ⟨t, rfl, htS, rfl⟩ := hrel
        by_cases hlt2 : t < i
        · have hlti2 : (t : Int) < (i : Int) := by omega
          go_wp2_with fail
          go_loopw [10, 11] (fun b x wq => ∃ j : Nat, x = .int .i64 j ∧ j ≤ K ∧ b = .bool (IN t j) ∧ wq = wr) (fun _ x _ => K - (intOf x).toNat)
          case atStart => exact ⟨0, rfl, Nat.zero_le _, by rw [HI0.out], rfl⟩
          case round =>
            obtain ⟨j, rfl, hjK, rfl, rfl⟩ := hrel
            by_cases hjl : j < K
            · have hjli : (j : Int) < (K : Int) := by omega
              have c1 := HCK.out j hjl
              rw [← List.getD_eq_getElem?_getD] at c1
              have hin := HI1.out t j (by rw [HKL.out]; exact hjl)
              generalize KL.getD j 0 = y at *
              generalize hi0 : IN t j = b at *
              have HIN := hid hin
              clear hin hi0
              cases b with
              | true =>
                go_wp2
                go_roundw
                case rel => exact ⟨j + 1, by go_num, by omega, by rw [HIN.out]; rfl, by first | rfl | trivial⟩
                case measure => simp [intOf] <;> omega
              | false =>
                go_wp2
                go_roundw
                case rel => exact ⟨j + 1, by go_num, by omega, by rw [HIN.out, Bool.false_or], by first | rfl | trivial⟩
                case measure => simp [intOf] <;> omega
            · obtain rfl : j = K := by omega
              have hjli : ¬ (j : Int) < (j : Int) := by omega
              have c1 := HCS.out t hlt2
              rw [← List.getD_eq_getElem?_getD] at c1
              have hf := F3.out t hlt2
              generalize Z.getD t 0 = z at *
              generalize IN t j = b at *
              by_cases hz : z = M
              · obtain rfl : b = true := hf hz
                have hz' : (z == M) = true := by rw [beq_iff_eq]; exact hz
                clear hz hf
                go_wp2
                go_roundw
                case rel => exact ⟨t + 1, by go_num, by omega, by first | rfl | trivial⟩
                case measure => simp [intOf] <;> omega
              · have hz' : (z == M) = false := by rw [beq_eq_false_iff_ne]; exact hz
                clear hz hf
                go_wp2
                go_roundw
                case rel => exact ⟨t + 1, by go_num, by omega, by first | rfl | trivial⟩
                case measure => simp [intOf] <;> omega
        · obtain rfl : t = i := by omega
          have hlti2 : ¬ (t : Int) < (t : Int) := by omega
          have f4 := F4.out
          by_cases hK1 : 1 < K
          · have hK1' : (1 : Int) < (K : Int) := by omega
            clear f4
            go_wp2
            go_ret
            exact ⟨rfl, HX.out⟩
          · have hK1' : ¬ (1 : Int) < (K : Int) := by omega
            obtain rfl : M = (t : Int) - 1 := by
              rcases f4 with h | h
              · exact absurd h hK1
              · exact h
            have hw := IntWalk.i64_in ((t : Int) - 1) (by omega)
            clear f4
            go_wp2
            go_ret
            exact ⟨rfl, HX.out⟩
theorem tourKings_walk (w : World) (p : Int) (u : Value) (l : List Int) (hu : Sl w u l) (hi64 : ∀ x ∈ l, I64 x) :
    Calls Try.prog 5 #[sqV p u] w fun e w' => e = .returned (.bool true) ∧ Below w.heap.size w w' := by
  by_cases h : tE p l = 0
  · exact tourKings_ok w p u l hu hi64 h
  · exact tourKings_bad w p u l hu hi64 h
end Go.Proofs.Ythbpdfkaacgpoaa
