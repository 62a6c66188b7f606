/-
  The walk over parterreref4.CouldOf. Conditions: the slice can be read.
-/
import Derived.Test.YthbpdfkaacgpoaaTcould
namespace Go.Proofs.Ythbpdfkaacgpoaa
set_option linter.unusedVariables false
open Go.RowKit

/-- How many of the first so many are in the set, and their sum. -/
def csK (s : Nat) : Nat → Nat
  | 0 => 0
  | i + 1 => if s / 2 ^ i % 2 = 1 then csK s i + 1 else csK s i
def csS (l : List Int) (s : Nat) : Nat → Int
  | 0 => 0
  | i + 1 => if s / 2 ^ i % 2 = 1 then csS l s i + l.getD i 0 else csS l s i
def trI (k : Nat) : Int := ((k : Int) * ((k : Int) - 1)).tdiv 2
def badS (l : List Int) (N s : Nat) : Bool := decide (csS l s N < trI (csK s N)) || (decide (csK s N = N) && decide (trI (csK s N) < csS l s N))
def badA (l : List Int) (N t : Nat) : Bool := (List.range t).any fun s => decide (1 ≤ s) && badS l N s
/-- What CouldOf tells. -/
def cfE (l : List Int) : Bool × Int := if 9 < l.length then (false, 3) else if l.length = 0 then (false, 2) else if l.any (offN l.length) = true then (false, 1) else (!badA l l.length (2 ^ l.length), 0)
theorem csK_le (s : Nat) : ∀ i, csK s i ≤ i
  | 0 => Nat.le_refl _
  | i + 1 => by have := csK_le s i; rw [csK]; split <;> omega
theorem csS_bd {l : List Int} (h : ∀ i, i < l.length → 0 ≤ l.getD i 0 ∧ l.getD i 0 ≤ 9) (s : Nat) : ∀ i, i ≤ l.length → 0 ≤ csS l s i ∧ csS l s i ≤ 9 * i
  | 0, _ => ⟨Int.le_refl _, by simp [csS]⟩
  | i + 1, hi => by
    have h1 := csS_bd h s i (by omega)
    have h2 := h i (by omega)
    rw [csS]
    split <;> omega
theorem badA_yes {l : List Int} {N s t : Nat} (h1 : 1 ≤ s) (h2 : s < t) (h : badS l N s = true) : badA l N t = true := List.any_eq_true.2 ⟨s, List.mem_range.2 h2, by rw [decide_eq_true h1, h]; rfl⟩
theorem badA_no {l : List Int} {N t : Nat} (h : ∀ s, 1 ≤ s → s < t → badS l N s = false) : badA l N t = false := by
  cases hb : badA l N t with
  | false => rfl
  | true =>
    obtain ⟨s, hs, h2⟩ := List.any_eq_true.1 hb
    rw [Bool.and_eq_true, decide_eq_true_iff] at h2
    rw [h s h2.1 (List.mem_range.1 hs)] at h2
    cases h2.2
theorem trI_bd (k : Nat) (hk : k ≤ 9) : -1 ≤ (k : Int) - 1 ∧ (k : Int) - 1 ≤ 8 ∧ 0 ≤ (k : Int) * ((k : Int) - 1) ∧ (k : Int) * ((k : Int) - 1) ≤ 72 ∧ 0 ≤ trI k ∧ trI k ≤ 36 := by
  have : k = 0 ∨ k = 1 ∨ k = 2 ∨ k = 3 ∨ k = 4 ∨ k = 5 ∨ k = 6 ∨ k = 7 ∨ k = 8 ∨ k = 9 := by omega
  rcases this with h | h | h | h | h | h | h | h | h | h <;> subst h <;> decide
theorem any_at {l : List Int} {p : Int → Bool} {i : Nat} (hi : i < l.length) (h : p (l.getD i 0) = true) : l.any p = true := by
  rw [List.getD_eq_getElem?_getD, List.getElem?_eq_getElem hi] at h
  exact List.any_eq_true.2 ⟨_, List.getElem_mem hi, h⟩

set_option maxHeartbeats 2000000 in
set_option maxRecDepth 100000 in
theorem CouldOf_any (v : Value) (l : List Int) (w : World) (hv : Sl w v l) :
    Calls Try.prog 22 #[v] w fun e w' => e = .returned (.tuple #[.bool (cfE l).1, .int .i64 (cfE l).2]) ∧ Below w.heap.size w w' := by
  obtain ⟨a, c, N, rfl, hN, hl1, hl2⟩ := hv.open
  have hNN := hN.out
  have HB0 := hid (Below.refl w.heap.size w)
  by_cases h9 : 9 < N
  · have hE : Hid (cfE l = (false, 3)) := hid (by unfold cfE; rw [if_pos (by omega)])
    rw [hE.out]
    have h9' : (9 : Int) < (N : Int) := by omega
    clear hv hl1 hl2 hNN hN hE h9
    go_enter Try.func22, Try.ntmps22
    go_wp2
    go_ret2
    exact ⟨rfl, HB0.out⟩
  · by_cases h0 : N = 0
    · subst h0
      have hE : Hid (cfE l = (false, 2)) := hid (by unfold cfE; rw [if_neg (by omega), if_pos (by omega)])
      rw [hE.out]
      clear hv hl1 hl2 hNN hN hE h9
      go_enter Try.func22, Try.ntmps22
      go_wp2
      go_ret2
      exact ⟨rfl, HB0.out⟩
    · have h9' : ¬ (9 : Int) < (N : Int) := by omega
      have h0' : ((N : Int) == 0) = false := by rw [beq_eq_false_iff_ne]; omega
      have hN1 : 1 ≤ N := by omega
      have hN9 : N ≤ 9 := by omega
      obtain ⟨b, off, rfl, hbw, hcs⟩ := hl2 (by omega)
      have HCS : Hid (∀ i, i < N → w.cell? ⟨b, off + i, none⟩ = some (.int .i64 (l.getD i 0))) := hid (fun i hi => by rw [List.getD_eq_getElem?_getD]; exact hcs i hi)
      have HE1 : Hid (l.any (offN N) = true → cfE l = (false, 1)) := hid (fun h => by unfold cfE; rw [if_neg (by omega), if_neg (by omega), if_pos (by rw [hNN]; exact h)])
      have HE2 : Hid (l.any (offN N) = false → cfE l = (!badA l N (2 ^ N), 0)) := hid (fun h => by unfold cfE; rw [if_neg (by omega), if_neg (by omega), if_neg (by rw [hNN, h]; decide), hNN])
      have HOY : Hid (∀ i, i < N → offN N (l.getD i 0) = true → l.any (offN N) = true) := hid (fun i hi h => any_at (by omega) h)
      have HON : Hid ((∀ i, i < N → offN N (l.getD i 0) = false) → l.any (offN N) = false) := hid (fun h => by
        rw [List.any_eq_false]
        intro x hx
        obtain ⟨i, hi, rfl⟩ := List.getElem_of_mem hx
        have := h i (by omega)
        rw [List.getD_eq_getElem?_getD, List.getElem?_eq_getElem hi] at this
        simpa using this)
      have HSB : Hid ((∀ i, i < N → offN N (l.getD i 0) = false) → ∀ s i, i ≤ N → 0 ≤ csS l s i ∧ csS l s i ≤ 9 * i) := hid (fun h s i hi => csS_bd (fun j hj => by
        have := h j (by omega)
        unfold offN at this
        simp only [Bool.or_eq_false_iff, decide_eq_false_iff_not] at this
        omega) s i (by omega))
      have HKL := hid csK_le
      have HK1 : Hid (∀ s i, csK s (i + 1) = if s / 2 ^ i % 2 = 1 then csK s i + 1 else csK s i) := hid (fun s i => rfl)
      have HS1 : Hid (∀ s i, csS l s (i + 1) = if s / 2 ^ i % 2 = 1 then csS l s i + l.getD i 0 else csS l s i) := hid (fun s i => rfl)
      have HK0 : Hid (∀ s, csK s 0 = 0) := hid (fun s => rfl)
      have HS0 : Hid (∀ s, csS l s 0 = 0) := hid (fun s => rfl)
      have HBS : Hid (∀ s, badS l N s = (decide (csS l s N < trI (csK s N)) || (decide (csK s N = N) && decide (trI (csK s N) < csS l s N)))) := hid (fun s => rfl)
      have HBY : Hid (∀ s, 1 ≤ s → s < 2 ^ N → badS l N s = true → badA l N (2 ^ N) = true) := hid (fun s h1 h2 h => badA_yes h1 h2 h)
      have HBN : Hid ((∀ s, 1 ≤ s → s < 2 ^ N → badS l N s = false) → badA l N (2 ^ N) = false) := hid badA_no
      have h2n : (2 : Int) ^ N = ((2 ^ N : Nat) : Int) := by simp
      have hP1 : 2 ≤ 2 ^ N := by
        have := Nat.pow_le_pow_right (n := 2) (by omega) hN1
        omega
      have hP2 : 2 ^ N ≤ 512 := Nat.pow_le_pow_right (n := 2) (by omega) hN9
      generalize badA l N (2 ^ N) = BA at *
      generalize 2 ^ N = P at *
      generalize badS l N = BS at *
      generalize csS l = CS at *
      generalize csK = CK at *
      generalize cfE l = R at *
      generalize l.any (offN N) = AO at *
      clear hv hl1 hl2 hNN hN h9 h0 hcs
      go_enter Try.func22, Try.ntmps22
      go_wp2
      go_loopw [5] (fun x wr => ∃ i : Nat, x = .int .i64 i ∧ i ≤ N ∧ Hid (∀ j, j < i → offN N (l.getD j 0) = false) ∧ wr = w) (fun x _ => N - (intOf x).toNat)
      case atStart => exact ⟨0, rfl, Nat.zero_le _, hid (fun j hj => by omega), rfl⟩
      case round =>
        obtain ⟨i, rfl, hiN, HJ, rfl⟩ := hrel
        by_cases hlt : i < N
        · have hlti : (i : Int) < (N : Int) := by omega
          have c1 := HCS.out i hlt
          have HYi := hid (HOY.out i hlt)
          have HJ2 : Hid (offN N (l.getD i 0) = false → ∀ j, j < i + 1 → offN N (l.getD j 0) = false) := hid (fun h j hj => by
            by_cases e : j = i
            · rw [e]; exact h
            · exact HJ.out j (by omega))
          have hof : offN N (l.getD i 0) = (decide (l.getD i 0 < 0) || decide ((N : Int) ≤ l.getD i 0)) := rfl
          generalize l.getD i 0 = x at *
          generalize offN N x = o at *
          by_cases hx0 : x < 0
          · have HE : Hid (R = (false, 1)) := hid (HE1.out (HYi.out (by rw [hof, decide_eq_true hx0]; rfl)))
            clear hof
            go_wp2
            go_ret2
            exact ⟨by rw [HE.out]; rfl, HB0.out⟩
          · by_cases hxN : (N : Int) ≤ x
            · have HE : Hid (R = (false, 1)) := hid (HE1.out (HYi.out (by rw [hof, decide_eq_true hxN]; simp)))
              clear hof
              go_wp2
              go_ret2
              exact ⟨by rw [HE.out]; rfl, HB0.out⟩
            · have HJ3 := hid (HJ2.out (by rw [hof, decide_eq_false hx0, decide_eq_false hxN]; rfl))
              clear hof HJ2
              go_wp2
              go_roundw
              case rel => exact ⟨i + 1, by go_num, by omega, HJ3, by first | rfl | trivial⟩
              case measure => simp [intOf] <;> omega
        · obtain rfl : i = N := by omega
          have hlti : ¬ (i : Int) < (i : Int) := by omega
          have HE := hid (HE2.out (HON.out HJ.out))
          have HSB2 := hid (HSB.out HJ.out)
          go_wp2
          go_loopw [6, 7, 8, 9] (fun x _ _ _ wq => ∃ s : Nat, x = .int .i64 s ∧ 1 ≤ s ∧ s ≤ P ∧ Hid (∀ t, 1 ≤ t → t < s → BS t = false) ∧ wq = wr) (fun x _ _ _ _ => P - (intOf x).toNat)
          case atStart => exact ⟨1, rfl, Nat.le_refl _, by omega, hid (fun t h1 h2 => by omega), rfl⟩
          case round =>
            obtain ⟨s, rfl, hs1, hsP, HT, rfl⟩ := hrel
            by_cases hsl : s < P
            · have hsli : (s : Int) < (P : Int) := by omega
              go_wp2_with fail
              go_loopw [7, 8, 9] (fun k t x wq => ∃ j : Nat, x = .int .i64 j ∧ j ≤ i ∧ k = .int .i64 (CK s j) ∧ t = .int .i64 (CS s j) ∧ wq = wr) (fun _ _ x _ => i - (intOf x).toNat)
              case atStart => exact ⟨0, rfl, Nat.zero_le _, by rw [HK0.out]; rfl, by rw [HS0.out], rfl⟩
              case round =>
                obtain ⟨j, rfl, hjN, rfl, rfl, rfl⟩ := hrel
                by_cases hjl : j < i
                · have hjli : (j : Int) < (i : Int) := by omega
                  have c1 := HCS.out j hjl
                  have h2 : (2 : Int) ^ j = ((2 ^ j : Nat) : Int) := by simp
                  have hp1 : 1 ≤ 2 ^ j := Nat.pos_of_ne_zero (by simp)
                  have hsh : (s : Int) / ((2 ^ j : Nat) : Int) = ((s / 2 ^ j : Nat) : Int) := (Int.natCast_ediv s (2 ^ j)).symm
                  have hq : s / 2 ^ j ≤ s := Nat.div_le_self _ _
                  have han : bits .and .i64 ((s / 2 ^ j : Nat) : Int) 1 = ((s / 2 ^ j % 2 : Nat) : Int) := by rw [← Nat.and_one_is_mod]; exact and_i64 (s / 2 ^ j) 1 (by omega) (by omega)
                  have hp12 : 2 ^ j ≤ 512 := Nat.pow_le_pow_right (n := 2) (by omega) (show j ≤ 9 by omega)
                  have hck := HK1.out s j
                  have hcs := HS1.out s j
                  have hkl := HKL.out s j
                  have hsb := HSB2.out s j (by omega)
                  have hsb1 := HSB2.out s (j + 1) (by omega)
                  by_cases hbit : s / 2 ^ j % 2 = 1
                  · rw [if_pos hbit] at hck hcs
                    rw [hbit] at han
                    rw [hcs] at hsb1
                    have HCK := hid hck
                    have HCS2 := hid hcs
                    clear hck hcs hbit
                    generalize l.getD j 0 = x at *
                    generalize CK s j = k at *
                    generalize CS s j = t at *
                    generalize s / 2 ^ j = q at *
                    generalize 2 ^ j = p at *
                    have hwt := IntWalk.i64_in (t + x) (by omega)
                    go_wp2
                    go_roundw
                    case rel => exact ⟨j + 1, by go_num, by omega, by rw [HCK.out]; go_num, by rw [HCS2.out], by first | rfl | trivial⟩
                    case measure => simp [intOf] <;> omega
                  · rw [if_neg hbit] at hck hcs
                    have hbit0 : s / 2 ^ j % 2 = 0 := by omega
                    rw [hbit0] at han
                    have HCK := hid hck
                    have HCS2 := hid hcs
                    clear hck hcs hbit hbit0
                    generalize l.getD j 0 = x at *
                    generalize CK s j = k at *
                    generalize CS s j = t at *
                    generalize s / 2 ^ j = q at *
                    generalize 2 ^ j = p at *
                    go_wp2
                    go_roundw
                    case rel => exact ⟨j + 1, by go_num, by omega, by rw [HCK.out], by rw [HCS2.out], by first | rfl | trivial⟩
                    case measure => simp [intOf] <;> omega
                · obtain rfl : j = i := by omega
                  have hjli : ¬ (j : Int) < (j : Int) := by omega
                  have hbs := HBS.out s
                  have hkl := HKL.out s j
                  obtain ⟨t1, t2, t3, t4, t5, t6⟩ := trI_bd (CK s j) (by omega)
                  have htr : trI (CK s j) = ((CK s j : Int) * ((CK s j : Int) - 1)).tdiv 2 := rfl
                  have HBYs := hid (HBY.out s hs1 hsl)
                  have HT2 : Hid (BS s = false → ∀ t, 1 ≤ t → t < s + 1 → BS t = false) := hid (fun h t h1 h2 => by
                    by_cases e : t = s
                    · rw [e]; exact h
                    · exact HT.out t h1 (by omega))
                  generalize BS s = bs at *
                  generalize CS s j = t at *
                  generalize CK s j = k at *
                  generalize trI k = T at *
                  generalize hz : (k : Int) - 1 = z at *
                  generalize hqe : (k : Int) * z = q at *
                  have hT := htr.symm
                  have hwz := IntWalk.i64_in z (by omega)
                  have hwq := IntWalk.i64_in q (by omega)
                  have hwT := IntWalk.i64_in T (by omega)
                  clear htr
                  by_cases hA : t < T
                  · have HE3 : Hid (BA = true) := hid (HBYs.out (by rw [hbs, decide_eq_true hA]; rfl))
                    clear hbs
                    go_wp2
                    go_ret2
                    exact ⟨by rw [HE.out, HE3.out]; rfl, HB0.out⟩
                  · rw [decide_eq_false hA, Bool.false_or] at hbs
                    by_cases hkN : k = j
                    · have hkj : ((k : Int) == (j : Int)) = true := by rw [beq_iff_eq]; omega
                      rw [decide_eq_true hkN, Bool.true_and] at hbs
                      clear hkN
                      by_cases hB : T < t
                      · have HE3 : Hid (BA = true) := hid (HBYs.out (by rw [hbs, decide_eq_true hB]))
                        clear hbs
                        go_wp2
                        go_ret2
                        exact ⟨by rw [HE.out, HE3.out]; rfl, HB0.out⟩
                      · have HT3 := hid (HT2.out (by rw [hbs, decide_eq_false hB]))
                        clear hbs HT2
                        go_wp2
                        go_roundw
                        case rel => exact ⟨s + 1, by go_num, by omega, by omega, HT3, by first | rfl | trivial⟩
                        case measure => simp [intOf] <;> omega
                    · have hkj : ((k : Int) == (j : Int)) = false := by rw [beq_eq_false_iff_ne]; omega
                      rw [decide_eq_false hkN, Bool.false_and] at hbs
                      have HT3 := hid (HT2.out hbs)
                      clear hbs HT2 hkN
                      go_wp2
                      go_roundw
                      case rel => exact ⟨s + 1, by go_num, by omega, by omega, HT3, by first | rfl | trivial⟩
                      case measure => simp [intOf] <;> omega
            · obtain rfl : s = P := by omega
              have hsli : ¬ (s : Int) < (s : Int) := by omega
              have HE3 := hid (HBN.out HT.out)
              go_wp2
              go_ret2
              exact ⟨by rw [HE.out, HE3.out]; rfl, HB0.out⟩
end Go.Proofs.Ythbpdfkaacgpoaa
