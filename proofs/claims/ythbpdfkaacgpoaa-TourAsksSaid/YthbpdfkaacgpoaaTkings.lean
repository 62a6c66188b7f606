/-
  The walk over tour.Kings. Conditions: the slice can be read; the numbers are of 64 bits.
-/
import Derived.Test.YthbpdfkaacgpoaaTscor
import Derived.Deep.LoopGhost
namespace Go.Proofs.Ythbpdfkaacgpoaa
set_option linter.unusedVariables false
open Go.RowKit

def kgI (S : Nat) (SB : Nat → Bool) (t : Nat) : List Int := ((List.range t).filter (kgB S SB)).map fun z : Nat => (z : Int)
theorem kgI_zero (S : Nat) (SB : Nat → Bool) : kgI S SB 0 = [] := rfl
theorem kgI_yes {S : Nat} {SB : Nat → Bool} {t : Nat} (h : kgB S SB t = true) : kgI S SB (t + 1) = kgI S SB t ++ [(t : Int)] := by
  unfold kgI
  rw [List.range_succ, List.filter_append, List.map_append, List.filter_cons, if_pos h]
  rfl
theorem kgI_no {S : Nat} {SB : Nat → Bool} {t : Nat} (h : kgB S SB t = false) : kgI S SB (t + 1) = kgI S SB t := by
  unfold kgI
  rw [List.range_succ, List.filter_append, List.map_append, List.filter_cons, if_neg (by rw [h]; decide)]
  simp
theorem kgI_len (S : Nat) (SB : Nat → Bool) (t : Nat) : (kgI S SB t).length ≤ t := by
  unfold kgI
  rw [List.length_map]
  have := List.length_filter_le (kgB S SB) (List.range t)
  rwa [List.length_range] at this
/-- Does i come to j, at once or by one? -/
def toB (S : Nat) (SB : Nat → Bool) (i j : Nat) : Prop := i = j ∨ SB (i * 9 + j) = true ∨ ∃ k, k < S ∧ SB (i * 9 + k) = true ∧ SB (k * 9 + j) = true
theorem kgB_yes {S : Nat} {SB : Nat → Bool} {i : Nat} (h : ∀ j, j < S → toB S SB i j) : kgB S SB i = true := kgB_iff.2 h
theorem kgB_no {S : Nat} {SB : Nat → Bool} {i j : Nat} (hj : j < S) (h1 : (decide (i = j) || SB (i * 9 + j)) = false) (h : ∀ k, k < S → (SB (i * 9 + k) && SB (k * 9 + j)) = false) : kgB S SB i = false := by
  cases hk : kgB S SB i with
  | false => rfl
  | true =>
    rw [Bool.or_eq_false_iff, decide_eq_false_iff_not] at h1
    rcases kgB_iff.1 hk j hj with e | e | ⟨k, hkS, e1, e2⟩
    · exact absurd e h1.1
    · rw [h1.2] at e; cases e
    · have := h k hkS
      rw [e1, e2] at this
      cases this

set_option maxHeartbeats 2000000 in
set_option maxRecDepth 100000 in
theorem Kings_ok (S : Nat) (u : Value) (l : List Int) (w : World) (hu : Sl w u l) (hi64 : ∀ x ∈ l, I64 x) (h : tE S l = 0) (hS1 : 1 ≤ S) (hS9 : S ≤ 9) (hlen : l.length = S * S) :
    Calls Try.prog 20 #[sqV S u] w fun e w' => (∃ v, e = .returned (.tuple #[v, .int .i64 0]) ∧ Sl w' v (kgI S (beB S l (S * S)) S)) ∧ Below w.heap.size w w' := by
  have HOP := hid (fun w1 (hb : Below w.heap.size w w1) => open_ok S u l w1 (hu.below hb) hi64 h hS1 hS9 hlen)
  obtain ⟨ax, cx, e1⟩ := hu.len
  subst e1
  generalize l.length = N at *
  unfold tabV at HOP
  obtain ⟨SB, hSB⟩ : ∃ SB, beB S l (S * S) = SB := ⟨_, rfl⟩
  rw [hSB] at HOP ⊢
  have HKY := hid (fun t => kgI_yes (S := S) (SB := SB) (t := t))
  have HKN := hid (fun t => kgI_no (S := S) (SB := SB) (t := t))
  have HK0 := hid (kgI_zero S SB)
  have HKL := hid (kgI_len S SB)
  have HGY := hid (fun i => kgB_yes (S := S) (SB := SB) (i := i))
  have HGN := hid (fun i j => kgB_no (S := S) (SB := SB) (i := i) (j := j))
  generalize kgI S SB = D at *
  generalize kgB S SB = KG at *
  have HW0 := hid (And.intro (Arr.new w 24 [.int .i64 (S : Int), .slice ax N cx]) ((Below.refl w.heap.size w).alloc (Nat.le_refl _) (.cells #[.int .i64 (S : Int), .slice ax N cx] 24)))
  have HZT := zeroT
  have r1 := HW0.out.1.range
  have i2 : (Try.prog.info? 24).map (·.size) = some 2 := by kernel_rfl
  clear hu hi64 h hSB hlen
  unfold sqV at HOP
  unfold sqV
  go_enter Try.func20, Try.ntmps20
  go_wp2_with fail
  go_step3
  go_wp2_with fail
  refine (HOP.out _ HW0.out.2).mono ?_
  rintro e w2 ⟨rfl, hb2⟩
  have hA2 := HW0.out.1.below hb2
  have hB2 := HW0.out.2.trans (hb2.mono HW0.out.2.size)
  have hs2 := hB2.size
  have hlt2 := hA2.lt
  have hB3 := hB2.alloc hB2.size (.cells (boolS 81 fun _ => false).toArray 51)
  have hA3 := Arr.new w2 51 (boolS 81 fun _ => false)
  have i3 : (Try.prog.info? 51).map (·.size) = some (boolS 81 SB).toArray.size := by rw [List.size_toArray, boolS_len]; kernel_rfl
  have t8 : (w2.alloc (.cells (boolS 81 fun _ => false).toArray 51)).there w2.heap.size 0 (boolS 81 SB).toArray.size := by
    have := hA3.there
    rw [boolS_len] at this
    have hsz : (boolS 81 SB).toArray.size = 81 := List.size_toArray.trans (boolS_len 81 _)
    rw [hsz]
    exact this
  have hone := bool81_one SB
  have hg9 := grown_setCells (b := w2.heap.size) (boolS 81 SB) 0 (w2.alloc (.cells (boolS 81 fun _ => false).toArray 51))
  have hF9 : Arr ((w2.alloc (.cells (boolS 81 fun _ => false).toArray 51)).setCells w2.heap.size 0 (boolS 81 SB)) w2.heap.size 51 (boolS 81 SB) := Arr.setCells (boolS 81 SB) [] _ _ hA3 ((boolS_len 81 _).trans (boolS_len 81 SB).symm)
  have hQ9 := (hA2.alloc (.cells (boolS 81 fun _ => false).toArray 51)).kept hg9 (fun e => by have : w.heap.size = w2.heap.size := Option.some.inj e; omega)
  have HT := hid (And.intro hF9 (And.intro hQ9 (hB3.grown hg9 hB3.size (fun k h => by cases h; exact hs2))))
  clear hB2 hB3 hA3 hb2 HW0 HOP r1 hg9 hA2 hF9 hQ9
  go_wp2_with (refine wpList_store_mid rfl 51 _ _ rfl w2.heap.size 0 (boolS 81 SB).toArray rfl rfl t8 i3 hone ?_; show wpList _ _ _ _ _ ((w2.alloc (.cells (boolS 81 fun _ => false).toArray 51)).setCells w2.heap.size 0 (boolS 81 SB)); generalize (w2.alloc (.cells (boolS 81 fun _ => false).toArray 51)).setCells w2.heap.size 0 (boolS 81 SB) = w3 at *; have k4 := HT.out.2.1.cell 0; simp only [List.getElem?_cons_zero] at k4)
  go_step3
  go_wp2_with fail
  clear t8 k4
  have hw23 : w2.heap.size < w3.heap.size := HT.out.1.lt
  have hw3b := HT.out.2.2.size
  go_loopg [6, 7, 8, 9, 20] S (fun g o _ _ _ x wr => ∃ i : Nat, x = .int .i64 i ∧ i + g = S ∧ OI w3.heap.size wr o (D i) ∧ Arr wr w2.heap.size 51 (boolS 81 SB) ∧ Arr wr w.heap.size 24 [.int .i64 (S : Int), .slice ax N cx] ∧ Below w.heap.size w wr ∧ w3.heap.size ≤ wr.heap.size)
  case atStart => exact ⟨0, rfl, Nat.zero_add _, by rw [HK0.out]; exact OI.nil _ _, HT.out.1, HT.out.2.1, HT.out.2.2, Nat.le_refl _⟩
  case round =>
    clear HT
    obtain ⟨i, rfl, hiS, hO, hA, hQ, hB, hws⟩ := hrel
    generalize hgi : gk = gi at *
    by_cases hlt : i < S
    · have hlti : (i : Int) < (S : Int) := by omega
      have k0 := hQ.cell 0
      simp only [List.getElem?_cons_zero] at k0
      have HX := hid (And.intro hO (And.intro hA (And.intro hQ (And.intro hB hws))))
      clear hO hA hQ hB
      go_wp2_with fail
      go_step3
      go_wp2_with fail
      go_step3
      go_wp2_with fail
      go_loopg [8, 9, 25] S (fun g2 _ _ x wq => ∃ j : Nat, x = .int .i64 j ∧ j + g2 = S ∧ Hid (∀ j', j' < j → toB S SB i j') ∧ wq = wr)
      case atStart => exact ⟨0, rfl, Nat.zero_add _, hid (fun j' h => by omega), rfl⟩
      case round =>
        obtain ⟨j, rfl, hjS, HJ, rfl⟩ := hrel
        generalize hgj : gk = gj at *
        by_cases hjl : j < S
        · have hjli : (j : Int) < (S : Int) := by omega
          have c1 := HX.out.2.1.cell (i * 9 + j)
          rw [boolS_get (by omega)] at c1
          have hi9 : i < 9 := by omega
          have hj9 : j < 9 := by omega
          cases hc : (decide (i = j) || SB (i * 9 + j)) with
          | true =>
            have HJ2 : Hid (∀ j', j' < j + 1 → toB S SB i j') := hid (fun j' h => by
              by_cases e : j' = j
              · subst e
                rw [Bool.or_eq_true, decide_eq_true_iff] at hc
                rcases hc with hc | hc
                · exact .inl hc
                · exact .inr (.inl hc)
              · exact HJ.out j' (by omega))
            by_cases hij : i = j
            · have hije : ((i : Int) == (j : Int)) = true := by rw [beq_iff_eq, hij]
              clear hc hij
              generalize SB (i * 9 + j) = b1 at *
              go_wp2
              go_roundg (gj - 1)
              case measure => omega
              case rel => exact ⟨j + 1, by go_num, by omega, HJ2, rfl⟩
            · have hije : ((i : Int) == (j : Int)) = false := by rw [beq_eq_false_iff_ne]; omega
              rw [decide_eq_false hij, Bool.false_or] at hc
              rw [hc] at c1
              clear hc hij
              go_wp2
              go_roundg (gj - 1)
              case measure => omega
              case rel => exact ⟨j + 1, by go_num, by omega, HJ2, rfl⟩
          | false =>
            have hc' := hc
            rw [Bool.or_eq_false_iff, decide_eq_false_iff_not] at hc'
            have hije : ((i : Int) == (j : Int)) = false := by rw [beq_eq_false_iff_ne]; omega
            rw [hc'.2] at c1
            have HC := hid hc
            clear hc hc'
            go_wp2_with fail
            go_loopg [9, 40] S (fun g3 _ x wq => ∃ k : Nat, x = .int .i64 k ∧ k + g3 = S ∧ Hid (∀ k', k' < k → (SB (i * 9 + k') && SB (k' * 9 + j)) = false) ∧ wq = wr)
            case atStart => exact ⟨0, rfl, Nat.zero_add _, hid (fun k' h => by omega), rfl⟩
            case round =>
              obtain ⟨k, rfl, hkS, HK, rfl⟩ := hrel
              generalize hgk : gk = gl at *
              by_cases hkl : k < S
              · have hkli : (k : Int) < (S : Int) := by omega
                have c2 := HX.out.2.1.cell (i * 9 + k)
                have c3 := HX.out.2.1.cell (k * 9 + j)
                rw [boolS_get (by omega)] at c2 c3
                have hk9 : k < 9 := by omega
                clear c1
                cases h2 : SB (i * 9 + k) with
                | true =>
                  cases h3 : SB (k * 9 + j) with
                  | true =>
                    have HJ2 : Hid (∀ j', j' < j + 1 → toB S SB i j') := hid (fun j' h => by
                      by_cases e : j' = j
                      · subst e
                        exact .inr (.inr ⟨k, hkl, h2, h3⟩)
                      · exact HJ.out j' (by omega))
                    rw [h2] at c2
                    rw [h3] at c3
                    clear h2 h3
                    go_wp2
                    go_roundg (gj - 1)
                    case measure => omega
                    case rel => exact ⟨j + 1, by go_num, by omega, HJ2, rfl⟩
                  | false =>
                    have HK2 : Hid (∀ k', k' < k + 1 → (SB (i * 9 + k') && SB (k' * 9 + j)) = false) := hid (fun k' h => by
                      by_cases e : k' = k
                      · rw [e, h3, Bool.and_false]
                      · exact HK.out k' (by omega))
                    rw [h2] at c2
                    rw [h3] at c3
                    clear h2 h3
                    go_wp2
                    go_roundg (gl - 1)
                    case measure => omega
                    case rel => exact ⟨k + 1, by go_num, by omega, HK2, rfl⟩
                | false =>
                  have HK2 : Hid (∀ k', k' < k + 1 → (SB (i * 9 + k') && SB (k' * 9 + j)) = false) := hid (fun k' h => by
                    by_cases e : k' = k
                    · rw [e, h2, Bool.false_and]
                    · exact HK.out k' (by omega))
                  rw [h2] at c2
                  clear h2
                  generalize SB (k * 9 + j) = b3 at *
                  go_wp2
                  go_roundg (gl - 1)
                  case measure => omega
                  case rel => exact ⟨k + 1, by go_num, by omega, HK2, rfl⟩
              · obtain rfl : k = S := by omega
                have hkli : ¬ (k : Int) < (k : Int) := by omega
                have HN := hid (HKN.out i (HGN.out i j hjl HC.out HK.out))
                clear c1
                go_wp2
                go_roundg (gi - 1)
                case measure => omega
                case rel => exact ⟨i + 1, by go_num, by omega, by rw [HN.out]; exact HX.out.1, HX.out.2.1, HX.out.2.2.1, HX.out.2.2.2.1, HX.out.2.2.2.2⟩
        · obtain rfl : j = S := by omega
          have hjli : ¬ (j : Int) < (j : Int) := by omega
          have HY := hid (HKY.out i (HGY.out i HJ.out))
          have hl9 := HKL.out i
          have hbw := HX.out.2.2.2.1.size
          go_wp2_with (at_builtin; refine wpList_appi wr _ _ 22 rfl rfl Try.underlying22 Try.info3 w3.heap.size _ _ rfl HX.out.1 rfl (by omega) hws ?_; intro g7 c7 w7 ho7 hg7 hg7a hg7b; have HZ := hid (And.intro ho7 (And.intro (HX.out.2.1.kept hg7 (fun e => by have := (OI.lt HX.out.1 _ e.symm).1; omega)) (And.intro (HX.out.2.2.1.kept hg7 (fun e => by have := (OI.lt HX.out.1 _ e.symm).1; omega)) (And.intro (HX.out.2.2.2.1.grown hg7 hbw (fun k e => by have := (OI.lt HX.out.1 k e).1; omega)) (Nat.le_trans hws hg7.size))))); clear ho7 hg7 hg7a hg7b)
          go_roundg (gi - 1)
          case measure => omega
          case rel => exact ⟨i + 1, by go_num, by omega, by rw [HY.out]; exact HZ.out.1, HZ.out.2.1, HZ.out.2.2.1, HZ.out.2.2.2.1, HZ.out.2.2.2.2⟩
    · obtain rfl : i = S := by omega
      have hlti : ¬ (i : Int) < (i : Int) := by omega
      have hl9 := HKL.out i
      have HX := hid (And.intro (hO.sl (by omega)) hB)
      clear hO hA hQ hB
      go_wp2
      try rw [Exit.noGoto_ret]
      go_ret2
      exact ⟨⟨_, rfl, HX.out.1⟩, HX.out.2⟩
end Go.Proofs.Ythbpdfkaacgpoaa
