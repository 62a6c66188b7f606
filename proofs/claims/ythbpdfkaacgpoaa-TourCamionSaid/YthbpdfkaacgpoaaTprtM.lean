/-
  The walk over tour.Parts: the main part. Conditions: the tournament is right; the slice can be read.
-/
import Derived.Test.YthbpdfkaacgpoaaTprtS
import Derived.Carry
import Derived.Deep.RegionHeldLaw
namespace Go.Proofs.Ythbpdfkaacgpoaa
set_option linter.unusedVariables false
open Go.RowKit Go.Maps

theorem c1_diag {S : Nat} {l : List Int} : ∀ a, a < S → slf (c1 S (b0R S l) S) a a = true := fun a ha => by simp [slf]
theorem clP_head {R : Rel} {n : Nat} (hn : 1 ≤ n) : hdB R n 0 = true := by
  unfold hdB clP
  obtain ⟨m, rfl⟩ : ∃ m, n = m + 1 := ⟨n - 1, by omega⟩
  rw [List.range_succ_eq_map, List.filter_cons, if_pos (by simp [slf])]
  simp
theorem ptL_pos {R : Rel} {n : Nat} (hn : 1 ≤ n) : ∀ i, 1 ≤ i → 1 ≤ (ptL R n i).length
  | 0, h => by omega
  | 1, _ => by rw [ptL, clP_head hn, if_pos rfl]; simp
  | i + 2, _ => by
    have := ptL_pos (R := R) hn (i + 1) (by omega)
    rw [ptL, List.length_append]
    omega
theorem ptL_mem {R : Rel} {n : Nat} : ∀ i, i ≤ n → ∀ m ∈ ptL R n i, 1 ≤ m.length ∧ m.length ≤ n ∧ 0 ≤ m.getD 0 0 ∧ m.getD 0 0 ≤ n
  | 0, _, m, h => by cases h
  | i + 1, hi, m, h => by
    rw [ptL, List.mem_append] at h
    rcases h with h | h
    · exact ptL_mem i (by omega) m h
    · split at h
      · rename_i hd
        rw [List.mem_singleton] at h
        subst h
        unfold hdB at hd
        rw [beq_iff_eq] at hd
        exact ⟨clP_pos hi (by simp [slf]), clP_le _ _ _, by rw [hd]; omega, by rw [hd]; omega⟩
      · cases h
/-- The parts, in order. -/
def srtL (R : Rel) (n : Nat) : List (List Int) := insI (ltP (mpL R n n)) [] (ptL R n n).length (ptL R n n)

set_option maxHeartbeats 8000000 in
set_option maxRecDepth 100000 in
theorem Parts_ok (S : Nat) (u : Value) (l : List Int) (w : World) (hu : Sl w u l) (hi64 : ∀ x ∈ l, I64 x) (h : tE S l = 0) (hS1 : 1 ≤ S) (hS9 : S ≤ 9) (hlen : l.length = S * S) :
    Calls Try.prog 25 #[sqV S u] w fun e w' => (∃ v, e = .returned (.tuple #[v, .int .i64 0]) ∧ OL w.heap.size w'.heap.size w' v (srtL (c1 S (b0R S l) S) S)) ∧ Below w.heap.size w w' := by
  have HOP := hid (fun w1 (hb : Below w.heap.size w w1) => open_ok S u l w1 (hu.below hb) hi64 h hS1 hS9 hlen)
  obtain ⟨ax, cx, e1⟩ := hu.len
  subst e1
  generalize l.length = N at *
  unfold tabV at HOP
  have hTab := relT_tab S l
  obtain ⟨SB, hSB⟩ : ∃ SB, beB S l (S * S) = SB := ⟨_, rfl⟩
  rw [hSB] at HOP hTab
  obtain ⟨B0, hB0⟩ : ∃ B0, b0R S l = B0 := ⟨_, rfl⟩
  rw [hB0] at hTab ⊢
  have HTab := hid hTab
  clear hTab hB0 hSB
  have HRG := hid (fun r i j (hi : i < 9) (hj : j < 9) => relT_get (r := r) hi hj)
  have HRP := hid (fun r i j b (hi : i < 9) (hj : j < 9) => relT_put (r := r) (b := b) hi hj)
  have HC1 : Hid (∀ m, c1 S B0 (m + 1) = c2 S m (c1 S B0 m) S) := hid (fun m => rfl)
  have HC10 : Hid (c1 S B0 0 = B0) := hid rfl
  have HC2 : Hid (∀ m r i, c2 S m r (i + 1) = c3 m i (c2 S m r i) S) := hid (fun m r i => rfl)
  have HC20 : Hid (∀ m r, c2 S m r 0 = r) := hid (fun m r => rfl)
  have HC3 : Hid (∀ m i r j, c3 m i r (j + 1) = upd (c3 m i r j) i j (c3 m i r j i j || (c3 m i r j i m && c3 m i r j m j))) := hid (fun m i r j => rfl)
  have HC30 : Hid (∀ m i r, c3 m i r 0 = r) := hid (fun m i r => rfl)
  generalize c1 S B0 = D1 at *
  generalize c2 S = D2 at *
  generalize c3 = D3 at *
  generalize relT = RT at *
  obtain ⟨R, hR⟩ : ∃ R, D1 S = R := ⟨_, rfl⟩
  rw [hR]
  have HR := hid hR
  have HSR : Hid (srtL R S = insI (ltP (mpL R S S)) [] (ptL R S S).length (ptL R S S)) := hid rfl
  generalize srtL R S = SR at *
  have HP0 : Hid (ptL R S 0 = []) := hid rfl
  have HP1 : Hid (∀ i, ptL R S (i + 1) = ptL R S i ++ if hdB R S i = true then [clP (slf R) i S] else []) := hid (fun i => rfl)
  have HM0 : Hid (mpL R S 0 = []) := hid rfl
  have HM1 : Hid (∀ i, mpL R S (i + 1) = if hdB R S i = true then (i, mnR R i S) :: mpL R S i else mpL R S i) := hid (fun i => rfl)
  have HPL := hid (ptL_len R S)
  have HPP := hid (ptL_pos (R := R) hS1 S hS1)
  have HPM := hid (ptL_mem (R := R) (n := S) S (Nat.le_refl _))
  have HML := hid (mpL_le R S)
  have HHD : Hid (∀ i, hdB R S i = ((clP (slf R) i S).getD 0 0 == (i : Int))) := hid (fun i => rfl)
  have HL1 : Hid (∀ i k, clP (slf R) i (k + 1) = clP (slf R) i k ++ if (decide (i = k) || (R i k && R k i)) = true then [(k : Int)] else []) := hid (fun i k => by rw [clP_succ, slf_both])
  have HL0 : Hid (∀ i, clP (slf R) i 0 = []) := hid (fun i => rfl)
  have HN1 := hid (mnR_succ R)
  have HN0 : Hid (∀ i, mnR R i 0 = 0) := hid (fun i => rfl)
  have HLL := hid (clP_le (slf R))
  have HNL := hid (mnR_le R)
  have HLP := hid (fun i (hi : i < S) => clP_pos (T := slf R) (k := S) hi (by simp [slf]))
  generalize ptL R S = PT at *
  generalize mpL R S = MP at *
  generalize hdB R S = HB at *
  generalize clP (slf R) = CL at *
  generalize mnR R = MN at *
  have HW0 := hid (And.intro (Arr.new w 24 [.int .i64 (S : Int), .slice ax N cx]) ((Below.refl w.heap.size w).alloc (Nat.le_refl _) (.cells #[.int .i64 (S : Int), .slice ax N cx] 24)))
  have HZT := zeroT
  have r1 := HW0.out.1.range
  have i2 : (Try.prog.info? 24).map (·.size) = some 2 := by kernel_rfl
  clear hu hi64 h hlen
  unfold sqV at HOP
  unfold sqV
  go_enter Try.func25, Try.ntmps25
  go_wp2_with fail
  refine (HOP.out _ HW0.out.2).mono ?_
  rintro e w2 ⟨rfl, hb2⟩
  have hA2 := HW0.out.1.below hb2
  have hB2 := HW0.out.2.trans (hb2.mono HW0.out.2.size)
  have hs2 := hB2.size
  have hlt2 := hA2.lt
  have hB3 := hB2.alloc hB2.size (.cells (boolS 81 fun _ => false).toArray 51)
  have hA3 := Arr.new w2 51 (boolS 81 fun _ => false)
  have i3 : (Try.prog.info? 51).map (·.size) = some (boolS 81 SB).toArray.size := by rw [List.size_toArray, boolS_len]; kernel_rfl
  have t8 : (w2.alloc (.cells (boolS 81 fun _ => false).toArray 51)).there w2.heap.size 0 (boolS 81 SB).toArray.size := by
    have := hA3.there
    rw [boolS_len] at this
    have hsz : (boolS 81 SB).toArray.size = 81 := List.size_toArray.trans (boolS_len 81 _)
    rw [hsz]
    exact this
  have hone := bool81_one SB
  have hg9 := grown_setCells (b := w2.heap.size) (boolS 81 SB) 0 (w2.alloc (.cells (boolS 81 fun _ => false).toArray 51))
  have hF9 : Arr ((w2.alloc (.cells (boolS 81 fun _ => false).toArray 51)).setCells w2.heap.size 0 (boolS 81 SB)) w2.heap.size 51 (boolS 81 SB) := Arr.setCells (boolS 81 SB) [] _ _ hA3 ((boolS_len 81 _).trans (boolS_len 81 SB).symm)
  have hQ9 := (hA2.alloc (.cells (boolS 81 fun _ => false).toArray 51)).kept hg9 (fun e => by have : w.heap.size = w2.heap.size := Option.some.inj e; omega)
  have HT := hid (And.intro hF9 (And.intro hQ9 (hB3.grown hg9 hB3.size (fun k h => by cases h; exact hs2))))
  clear hB2 hB3 hA3 hb2 HW0 HOP r1 hg9 hA2 hF9 hQ9
  go_wp2_with (refine wpList_store_mid rfl 51 _ _ rfl w2.heap.size 0 (boolS 81 SB).toArray rfl rfl t8 i3 hone ?_; show wpList _ _ _ _ _ ((w2.alloc (.cells (boolS 81 fun _ => false).toArray 51)).setCells w2.heap.size 0 (boolS 81 SB)); generalize (w2.alloc (.cells (boolS 81 fun _ => false).toArray 51)).setCells w2.heap.size 0 (boolS 81 SB) = w3 at *; have k4 := HT.out.2.1.cell 0; simp only [List.getElem?_cons_zero] at k4)
  clear t8 k4
  have hA3 := HT.out.1
  rw [HTab.out] at hA3
  have hlt3 := hA3.lt
  have HX := hid (And.intro hA3 HT.out.2.2)
  clear hA3 HT HTab
  go_loopw [7, 8, 9, 27] (fun _ _ _ x wr => ∃ m : Nat, x = .int .i64 m ∧ m ≤ S ∧ Arr wr w2.heap.size 51 (RT (D1 m)) ∧ Below w.heap.size w wr ∧ w2.heap.size < wr.heap.size) (fun _ _ _ x _ => S - (intOf x).toNat)
  case atStart => exact ⟨0, rfl, Nat.zero_le _, by rw [HC10.out]; exact HX.out.1, HX.out.2, hlt3⟩
  case round =>
    clear HX
    obtain ⟨m, rfl, hmS, hA, hB, hsz⟩ := hrel
    by_cases hml : m < S
    · have hmli : (m : Int) < (S : Int) := by omega
      have HX := hid (And.intro hA (And.intro hB hsz))
      clear hA hB
      go_wp2_with fail
      go_loopw [8, 9, 31] (fun _ _ x wr => ∃ i : Nat, x = .int .i64 i ∧ i ≤ S ∧ Arr wr w2.heap.size 51 (RT (D2 m (D1 m) i)) ∧ Below w.heap.size w wr ∧ w2.heap.size < wr.heap.size) (fun _ _ x _ => S - (intOf x).toNat)
      case atStart => exact ⟨0, rfl, Nat.zero_le _, by rw [HC20.out]; exact HX.out.1, HX.out.2.1, HX.out.2.2⟩
      case round =>
        clear HX
        obtain ⟨i, rfl, hiS, hA, hB, hszi⟩ := hrel
        by_cases hil : i < S
        · have hili : (i : Int) < (S : Int) := by omega
          have HX := hid (And.intro hA (And.intro hB hszi))
          clear hA hB
          go_wp2_with fail
          go_loopw [9, 35] (fun _ x wr => ∃ j : Nat, x = .int .i64 j ∧ j ≤ S ∧ Arr wr w2.heap.size 51 (RT (D3 m i (D2 m (D1 m) i) j)) ∧ Below w.heap.size w wr ∧ w2.heap.size < wr.heap.size) (fun _ x _ => S - (intOf x).toNat)
          case atStart => exact ⟨0, rfl, Nat.zero_le _, by rw [HC30.out]; exact HX.out.1, HX.out.2.1, HX.out.2.2⟩
          case round =>
            clear HX
            obtain ⟨j, rfl, hjS, hA, hB, hszj⟩ := hrel
            by_cases hjl : j < S
            · have hjli : (j : Int) < (S : Int) := by omega
              have hup := HC3.out m i (D2 m (D1 m) i) j
              generalize hrn : D3 m i (D2 m (D1 m) i) (j + 1) = rn at *
              have HRN := hid hrn
              clear hrn
              generalize D3 m i (D2 m (D1 m) i) j = ro at *
              have hi9 : i < 9 := by omega
              have hj9 : j < 9 := by omega
              have hm9 : m < 9 := by omega
              have d1 := hA.cell (i * 9 + j)
              have d2 := hA.cell (i * 9 + m)
              have d3 := hA.cell (m * 9 + j)
              rw [HRG.out ro i j hi9 hj9] at d1
              rw [HRG.out ro i m hi9 hm9] at d2
              rw [HRG.out ro m j hm9 hj9] at d3
              have hfz := hA.frozen (i * 9 + j)
              have HY : Hid (∀ b, b = (ro i j || (ro i m && ro m j)) → Arr (wr.setCell ⟨w2.heap.size, i * 9 + j, none⟩ (.bool b)) w2.heap.size 51 (RT rn) ∧ Below w.heap.size w (wr.setCell ⟨w2.heap.size, i * 9 + j, none⟩ (.bool b)).drew ∧ w2.heap.size < (wr.setCell ⟨w2.heap.size, i * 9 + j, none⟩ (.bool b)).drew.heap.size) := hid (fun b hb => by
                have hsd := hA.stored (i * 9 + j) (.bool b)
                rw [HRP.out ro i j b hi9 hj9, hb, ← hup, ← hb] at hsd
                have hbs := hB.grown hsd.2 hB.size (fun k h => by cases h; exact hs2)
                exact ⟨hsd.1, hbs.drew, Nat.lt_of_lt_of_le hszj hsd.2.size⟩)
              have d1 : wr.drew.cell? ⟨w2.heap.size, i * 9 + j, none⟩ = _ := d1
              have d2 : wr.drew.cell? ⟨w2.heap.size, i * 9 + m, none⟩ = _ := d2
              have d3 : wr.drew.cell? ⟨w2.heap.size, m * 9 + j, none⟩ = _ := d3
              have hfz : wr.drew.frozen? ⟨w2.heap.size, i * 9 + j, none⟩ = false := hfz
              clear hA hB hup
              generalize ro i j = b1 at *
              generalize ro i m = b2 at *
              generalize ro m j = b3 at *
              cases b1 with
              | true =>
                go_wp2
                go_region
                go_wp2
                go_roundw
                case rel => exact ⟨j + 1, by go_num, by omega, by rw [HRN.out]; exact (HY.out _ rfl).1, (HY.out _ rfl).2.1, (HY.out _ rfl).2.2⟩
                case measure => simp [intOf] <;> omega
              | false =>
                cases b2 with
                | false =>
                  go_wp2
                  go_region
                  go_wp2
                  go_roundw
                  case rel => exact ⟨j + 1, by go_num, by omega, by rw [HRN.out]; exact (HY.out _ rfl).1, (HY.out _ rfl).2.1, (HY.out _ rfl).2.2⟩
                  case measure => simp [intOf] <;> omega
                | true =>
                  go_wp2
                  go_region
                  go_wp2
                  go_roundw
                  case rel => exact ⟨j + 1, by go_num, by omega, by rw [HRN.out]; exact (HY.out _ (by cases b3 <;> rfl)).1, (HY.out _ (by cases b3 <;> rfl)).2.1, (HY.out _ (by cases b3 <;> rfl)).2.2⟩
                  case measure => simp [intOf] <;> omega
            · obtain rfl : j = S := by omega
              have hjli : ¬ (j : Int) < (j : Int) := by omega
              rw [← HC2.out] at hA
              have HX := hid (And.intro hA (And.intro hB hszj))
              clear hA hB
              go_wp2
              go_roundw
              case rel => exact ⟨i + 1, by go_num, by omega, HX.out.1, HX.out.2.1, HX.out.2.2⟩
              case measure => simp [intOf] <;> omega
        · obtain rfl : i = S := by omega
          have hili : ¬ (i : Int) < (i : Int) := by omega
          rw [← HC1.out] at hA
          have HX := hid (And.intro hA (And.intro hB hszi))
          clear hA hB
          go_wp2
          go_roundw
          case rel => exact ⟨m + 1, by go_num, by omega, HX.out.1, HX.out.2.1, HX.out.2.2⟩
          case measure => simp [intOf] <;> omega
    · obtain rfl : m = S := by omega
      have hmli : ¬ (m : Int) < (m : Int) := by omega
      rw [HR.out] at hA
      obtain ⟨W0, rfl⟩ : ∃ W0, W0 = wr := ⟨_, rfl⟩
      have hM0 := (MV.new W0).alloc (.cells #[.map (some W0.heap.size)] 64)
      have hAm := (hA.alloc (.map #[] 0)).alloc (.cells #[.map (some W0.heap.size)] 64)
      have hBx := Arr.new (W0.alloc (.map #[] 0)) 64 [.map (some W0.heap.size)]
      rw [World.size_alloc] at hBx
      have hBm := (hB.alloc hB.size (.map #[] 0)).alloc (by have := hB.size; simp; omega) (.cells #[.map (some W0.heap.size)] 64)
      have hsw := hB.size
      have hmm := @run_makeMap Try.prog
      have HX := hid (And.intro hAm (And.intro hM0 (And.intro hBx hBm)))
      clear hA hB hAm hBm hM0 hBx
      go_wp2_with fail
      clear hmm
      go_loopw [10, 12, 13, 14, 15, 66] (fun o _ _ _ _ x wr => ∃ i : Nat, x = .int .i64 i ∧ i ≤ m ∧ OL (W0.heap.size + 2) wr.heap.size wr o (PT i) ∧ Arr wr w2.heap.size 51 (RT R) ∧ MV wr W0.heap.size i (MP i) ∧ Arr wr (W0.heap.size + 1) 64 [.map (some W0.heap.size)] ∧ Below w.heap.size w wr ∧ W0.heap.size + 2 ≤ wr.heap.size) (fun _ _ _ _ _ x _ => m - (intOf x).toNat)
      case atStart => exact ⟨0, rfl, Nat.zero_le _, by rw [HP0.out]; exact OL.nil _ _ _, HX.out.1, by rw [HM0.out]; exact HX.out.2.1, HX.out.2.2.1, HX.out.2.2.2, by simp⟩
      case round =>
        clear HX
        obtain ⟨i, rfl, him, hol, hA, hM, hX, hB, hws⟩ := hrel
        by_cases hil : i < m
        · have hili : (i : Int) < (m : Int) := by omega
          obtain ⟨W1, rfl⟩ : ∃ W1, W1 = wr := ⟨_, rfl⟩
          have HX := hid (And.intro hol (And.intro hA (And.intro hM (And.intro hX hB))))
          clear hol hA hM hX hB
          go_wp2_with fail
          go_loopw [13, 14, 15, 71] (fun o n _ x wr => ∃ j : Nat, x = .int .i64 j ∧ j ≤ m ∧ n = .int .i64 (MN i j) ∧ OI W1.heap.size wr o (CL i j) ∧ Below W1.heap.size W1 wr) (fun _ _ _ x _ => m - (intOf x).toNat)
          case atStart => exact ⟨0, rfl, Nat.zero_le _, by rw [HN0.out]; rfl, by rw [HL0.out]; exact OI.lit0 _ _ (Nat.le_refl _), (Below.refl _ _).alloc (Nat.le_refl _) _⟩
          case round =>
            obtain ⟨j, rfl, hjm, rfl, hp, hb⟩ := hrel
            by_cases hjl : j < m
            · have hjli : (j : Int) < (m : Int) := by omega
              have hi9 : i < 9 := by omega
              have hj9 : j < 9 := by omega
              have hA := HX.out.2.1.below hb
              have d1 := hA.cell (i * 9 + j)
              have d2 := hA.cell (j * 9 + i)
              rw [HRG.out R i j hi9 hj9] at d1
              rw [HRG.out R j i hj9 hi9] at d2
              have hl1 := HL1.out i j
              have hn1 := HN1.out i j
              have hnl := HNL.out i j
              have hcl9 : (CL i j).length ≤ 9 := by have := HLL.out i j; omega
              have hbw := hb.size
              clear hA
              by_cases hij : i = j
              · have hije : ((i : Int) == (j : Int)) = true := by rw [beq_iff_eq, hij]
                have hll : CL i (j + 1) = CL i j ++ [(j : Int)] := by rw [hl1, decide_eq_true hij, Bool.true_or, if_pos rfl]
                have hnn : MN i (j + 1) = MN i j := by
                  rw [hn1, hij]
                  cases R j j <;> simp
                have HLE := hid hll
                have HNE := hid hnn
                have d12 : R i j = R j i := by rw [hij]
                cases hR1 : R i j with
                | true =>
                  have HD1 := hid hR1
                  have HD2 : Hid (R j i = true) := hid (by rw [← d12, hR1])
                  rw [hR1] at d1
                  rw [HD2.out] at d2
                  clear hij hl1 hn1 hll hnn d12 hR1
                  go_wp2_with (at_builtin; refine wpList_appi wr _ _ 22 rfl rfl Try.underlying22 Try.info3 W1.heap.size _ _ rfl hp rfl (by omega) hbw ?_; intro g7 c7 w7 ho7 hg7 hg7a hg7b; have HZ := hid (And.intro ho7 (hp.grown hb hg7 hbw)); have dz1 := ((HX.out.2.1.below HZ.out.2).cell (i * 9 + j)).trans (HRG.out R i j hi9 hj9); have dz2 := ((HX.out.2.1.below HZ.out.2).cell (j * 9 + i)).trans (HRG.out R j i hj9 hi9); rw [HD1.out] at dz1; rw [HD2.out] at dz2; clear ho7 hg7 hg7a hg7b)
                  go_roundw
                  case rel => exact ⟨j + 1, by go_num, by omega, by rw [HNE.out], by rw [HLE.out]; exact HZ.out.1, HZ.out.2⟩
                  case measure => simp [intOf] <;> omega
                | false =>
                  have HD1 := hid hR1
                  have HD2 : Hid (R j i = false) := hid (by rw [← d12, hR1])
                  rw [hR1] at d1
                  rw [HD2.out] at d2
                  clear hij hl1 hn1 hll hnn d12 hR1
                  go_wp2_with (at_builtin; refine wpList_appi wr _ _ 22 rfl rfl Try.underlying22 Try.info3 W1.heap.size _ _ rfl hp rfl (by omega) hbw ?_; intro g7 c7 w7 ho7 hg7 hg7a hg7b; have HZ := hid (And.intro ho7 (hp.grown hb hg7 hbw)); have dz1 := ((HX.out.2.1.below HZ.out.2).cell (i * 9 + j)).trans (HRG.out R i j hi9 hj9); have dz2 := ((HX.out.2.1.below HZ.out.2).cell (j * 9 + i)).trans (HRG.out R j i hj9 hi9); rw [HD1.out] at dz1; rw [HD2.out] at dz2; clear ho7 hg7 hg7a hg7b)
                  go_roundw
                  case rel => exact ⟨j + 1, by go_num, by omega, by rw [HNE.out], by rw [HLE.out]; exact HZ.out.1, HZ.out.2⟩
                  case measure => simp [intOf] <;> omega
              · have hije : ((i : Int) == (j : Int)) = false := by rw [beq_eq_false_iff_ne]; omega
                rw [decide_eq_false hij, Bool.false_or] at hl1
                cases hR1 : R i j with
                | true =>
                  cases hR2 : R j i with
                  | true =>
                    have HD1 := hid hR1
                    have HD2 := hid hR2
                    rw [hR1, hR2] at hl1 hn1
                    rw [show (true && true) = true from rfl, if_pos rfl] at hl1
                    rw [show (true && !true) = false from rfl, if_neg (by decide)] at hn1
                    replace hn1 : MN i (j + 1) = MN i j := hn1
                    have HLE := hid hl1
                    have HNE := hid hn1
                    rw [hR1] at d1
                    rw [hR2] at d2
                    clear hij hl1 hn1 hR1 hR2
                    go_wp2_with (at_builtin; refine wpList_appi wr _ _ 22 rfl rfl Try.underlying22 Try.info3 W1.heap.size _ _ rfl hp rfl (by omega) hbw ?_; intro g7 c7 w7 ho7 hg7 hg7a hg7b; have HZ := hid (And.intro ho7 (hp.grown hb hg7 hbw)); have dz1 := ((HX.out.2.1.below HZ.out.2).cell (i * 9 + j)).trans (HRG.out R i j hi9 hj9); have dz2 := ((HX.out.2.1.below HZ.out.2).cell (j * 9 + i)).trans (HRG.out R j i hj9 hi9); rw [HD1.out] at dz1; rw [HD2.out] at dz2; clear ho7 hg7 hg7a hg7b)
                    go_roundw
                    case rel => exact ⟨j + 1, by go_num, by omega, by rw [HNE.out], by rw [HLE.out]; exact HZ.out.1, HZ.out.2⟩
                    case measure => simp [intOf] <;> omega
                  | false =>
                    rw [hR1, hR2] at hl1 hn1
                    rw [show (true && false) = false from rfl, if_neg (by decide), List.append_nil] at hl1
                    rw [show (true && !false) = true from rfl, if_pos rfl] at hn1
                    have HLE := hid hl1
                    have HNE := hid hn1
                    rw [hR1] at d1
                    rw [hR2] at d2
                    clear hij hl1 hn1 hR1 hR2
                    have HZ := hid (And.intro hp hb)
                    clear hp hb
                    go_wp2
                    go_roundw
                    case rel => exact ⟨j + 1, by go_num, by omega, by rw [HNE.out]; go_num, by rw [HLE.out]; exact HZ.out.1, HZ.out.2⟩
                    case measure => simp [intOf] <;> omega
                | false =>
                  rw [hR1] at hl1 hn1
                  rw [Bool.false_and, if_neg (by decide), List.append_nil] at hl1
                  rw [Bool.false_and, if_neg (by decide)] at hn1
                  replace hn1 : MN i (j + 1) = MN i j := hn1
                  have HLE := hid hl1
                  have HNE := hid hn1
                  rw [hR1] at d1
                  clear hij hl1 hn1 hR1
                  generalize R j i = b2 at *
                  have HZ := hid (And.intro hp hb)
                  clear hp hb
                  go_wp2
                  go_roundw
                  case rel => exact ⟨j + 1, by go_num, by omega, by rw [HNE.out], by rw [HLE.out]; exact HZ.out.1, HZ.out.2⟩
                  case measure => simp [intOf] <;> omega
            · obtain rfl : j = m := by omega
              have hjli : ¬ (j : Int) < (j : Int) := by omega
              have hlp := HLP.out i hil
              have hmn := HNL.out i j
              have hhd := HHD.out i
              have hPi := HP1.out i
              have hMi := HM1.out i
              have hol := HX.out.1.below hb
              have hA := HX.out.2.1.below hb
              have hM := HX.out.2.2.1.below hb
              have hXb := HX.out.2.2.2.1.below hb
              have hB := HX.out.2.2.2.2.trans (hb.mono HX.out.2.2.2.2.size)
              have hsw1 := hb.size
              obtain ⟨gp, cp, hpe, hgp1, hgp2⟩ := hp.form (by omega)
              generalize hplen : (CL i j).length = pl at *
              subst hpe
              have c0 := hp.cell 0 (by omega)
              generalize hhead : (CL i j).getD 0 0 = hd0 at *
              cases hT2 : (hd0 == (i : Int)) with
              | true =>
                rw [hT2] at hhd
                rw [hhd, if_pos rfl] at hPi hMi
                have HPi := hid hPi
                have HMi := hid hMi
                have HQ := hid hp
                have hPl := HPL.out i
                obtain ⟨vs, o1, o2, o3, o4⟩ := hol
                have hvs : vs.length ≤ 1000000000000 := by omega
                have HO2 := hid o2
                have HO3 := hid o3
                have HO4 := hid o4
                have hB2 : W0.heap.size + 2 ≤ wr.heap.size := Nat.le_trans hws hsw1
                have HW1 := hid hws
                have HKP := hid (And.intro hA (And.intro hM (And.intro hXb hB)))
                have h0 : wr.drew.cell? ⟨W0.heap.size + 1, 0, none⟩ = some (.map (some W0.heap.size)) := hXb.cell 0
                have h0b : (wr.alloc (.cells #[.slice (some ⟨gp, 0, none⟩) pl cp] 22)).drew.cell? ⟨W0.heap.size + 1, 0, none⟩ = some (.map (some W0.heap.size)) := (hXb.alloc (.cells #[.slice (some ⟨gp, 0, none⟩) pl cp] 22)).cell 0
                have hmlt : ∀ g, u10.ownBlock = some g → W0.heap.size + 2 ≤ g := fun g e => (o1.lt g e).1
                have HMLT := hid hmlt
                clear hp hb o2 o3 o4 hA hM hXb hB hhd hPi hMi hmlt
                go_wp2
                go_region_held_law (fun W => W.cell? ⟨W0.heap.size + 1, 0, none⟩ = some (.map (some W0.heap.size))) (first | exact h0 | exact h0b | exact h4 | exact h5 | fail)
                  ((refine step_app wr.drew _ _ 40 22 (.slice none 0 0) 24 rfl rfl Try.underlying40 Try.info22 rfl (by decide) (W0.heap.size + 2) _ vs rfl o1.drew rfl rfl hvs hB2 ?_; intro g3 c3 w4 hown1 hg1 hg2 hg3; have hX4 := Arr.kept (w := wr.drew) HKP.out.2.2.1 hg1 (fun e => by have := HMLT.out _ e.symm; omega); have hM4 := MV.kept (w := wr.drew) HKP.out.2.1 hg1 (fun e => by have := HMLT.out _ e.symm; omega); have hA4 := Arr.kept (w := wr.drew) HKP.out.1 hg1 (fun e => by have := HMLT.out _ e.symm; omega); have hB4 := HKP.out.2.2.2.drew.grown hg1 HKP.out.2.2.2.size (fun k e => by have := HMLT.out k e; omega); have h4 := hX4.cell 0; obtain ⟨w5, hmu, hM5, hg5⟩ := MV.put Try.underlying64 hM4 (show i ≤ 1000 by omega) (show i ≤ 1000 by omega) (show MN i j ≤ 1000 by omega); have h5 := (hX4.kept hg5 (fun e => by have : W0.heap.size + 1 = W0.heap.size := Option.some.inj e; omega)).cell 0))
                have hol2 := OL.snoc (w := wr.drew) o1.drew HO2.out HO3.out HO4.out HQ.out HW1.out hown1 hg1
                have hol3 := OL.kept hol2 hg5 (fun k e => by cases e; left; omega)
                have hs5 := hg5.size
                have hs4 := hg1.size
                have hA5 := hA4.kept hg5 (fun e => by have : w2.heap.size = W0.heap.size := Option.some.inj e; omega)
                have hX5 := hX4.kept hg5 (fun e => by have : W0.heap.size + 1 = W0.heap.size := Option.some.inj e; omega)
                have hB5 := hB4.grown hg5 hB4.size (fun k e => by cases e; omega)
                have HEND := hid (And.intro (hol3.mono (Nat.le_refl _) hs5) (And.intro hA5 (And.intro hM5 (And.intro hX5 (And.intro hB5 (Nat.le_trans (Nat.le_trans hB2 hs4) hs5))))))
                clear hol2 hol3 hown1 hg1 hg2 hg3 o1 hA4 hX4 hM4 hB4 h4 h5 hmu hM5 hg5 hA5 hX5 hB5 hs5 hs4 h0 h0b HKP
                go_wp2
                go_roundw
                case rel => exact ⟨i + 1, by go_num, by omega, by rw [HPi.out]; exact HEND.out.1, HEND.out.2.1, by rw [HMi.out]; exact HEND.out.2.2.1, HEND.out.2.2.2.1, HEND.out.2.2.2.2.1, HEND.out.2.2.2.2.2⟩
                case measure => simp [intOf] <;> omega
              | false =>
                rw [hT2] at hhd
                rw [hhd, if_neg (by decide)] at hPi hMi
                rw [List.append_nil] at hPi
                have HPi := hid hPi
                have HMi := hid hMi
                have HEND := hid (And.intro (hol.mono (Nat.le_refl _) hsw1) (And.intro hA (And.intro (hM.mono (Nat.le_succ i)) (And.intro hXb (And.intro hB (Nat.le_trans hws hsw1))))))
                clear hp hb hA hM hXb hB hhd hPi hMi hol
                go_wp2
                go_roundw
                case rel => exact ⟨i + 1, by go_num, by omega, by rw [HPi.out]; exact HEND.out.1, HEND.out.2.1, by rw [HMi.out]; exact HEND.out.2.2.1, HEND.out.2.2.2.1, HEND.out.2.2.2.2.1, HEND.out.2.2.2.2.2⟩
                case measure => simp [intOf] <;> omega
        · obtain rfl : i = m := by omega
          have hili : ¬ (i : Int) < (i : Int) := by omega
          have hpl := HPL.out i
          have hpp := HPP.out
          have hol' := hol.mono (Nat.le_refl _) (Nat.le_refl _)
          obtain ⟨g, cc, hv, hg, HS⟩ := sortL_ok (W0.heap.size + 2) (W0.heap.size + 1) W0.heap.size i (MP i) u10 (PT i) wr hol hpp (by omega) (fun mm hmm => by have := HPM.out mm hmm; omega) (fun k => by have := HML.out i k; omega) (by omega) (by omega) hX hM
          subst hv
          have HX := hid hB
          have HS2 := hid HS
          have hHd : Hid (W0.heap.size + 2 ≤ g) := hid hg
          have hlen := HPL.out i
          clear hol hA hM hX hB hol' HS
          go_wp2_with fail
          refine HS2.out.mono ?_
          rintro e w6 ⟨rfl, h6, hg6⟩
          have HEND := hid (And.intro h6 (HX.out.grown hg6 HX.out.size (fun k e => by cases e; omega)))
          clear h6 hg6 HS2
          go_wp2
          go_ret2
          exact ⟨⟨_, rfl, by rw [HSR.out]; exact HEND.out.1.mono (by omega) (Nat.le_refl _)⟩, HEND.out.2⟩
end Go.Proofs.Ythbpdfkaacgpoaa
