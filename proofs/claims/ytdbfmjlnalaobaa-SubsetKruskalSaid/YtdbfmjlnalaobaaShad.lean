/-
  The walks over subset.Shadow and parterreref4.ShadowOf. Conditions: the slice can be read; a family where it is said.
-/
import Derived.Test.YtdbfmjlnalaobaaShadP
import Derived.Test.YtdbfmjlnalaobaaArr
import Derived.RegionTactic
namespace Go.Proofs.Ytdbfmjlnalaobaa
set_option linter.unusedVariables false
open Go.RowKit

theorem zero4096 (w : World) : (zeroValue 53).run Try.prog w = .ok (.agg (Array.replicate 4096 (.bool false))) w := by kernel_rfl
theorem arr_rep (n : Nat) : Array.replicate n (Value.bool false) = (boolS n fun _ => false).toArray := by rw [boolS_none]; simp
theorem zeroS (w : World) : (zeroValue 53).run Try.prog w = .ok (.agg (boolS 4096 (fun _ => false)).toArray) w := by
  rw [zero4096, arr_rep]

theorem Shadow_bad (n : Int) (v : Value) (l : List Int) (w : World) (hl : Sl w v l) (hb : ∀ x ∈ l, I64 x) (h : famE n l ≠ 0) :
    Calls Try.prog 13 #[.int .i64 n, v] w fun e w' => e = .returned (.tuple #[.slice none 0 0, .int .i64 (famE n l)]) ∧ Below w.heap.size w w' := by
  have H := hid (check_fam n v l w hl hb)
  have hq : (famE n l != 0) = true := by simpa using h
  clear h hl hb
  generalize famE n l = z at *
  go_enter Try.func13, Try.ntmps13
  go_wp2_with fail
  refine H.out.mono ?_
  rintro e w1 ⟨rfl, hb1⟩
  have HB := hid hb1
  clear hb1
  go_wp2
  go_ret2
  exact ⟨rfl, HB.out⟩

set_option maxRecDepth 100000 in
set_option maxHeartbeats 2000000 in
theorem Shadow_ok (n : Nat) (v : Value) (l : List Int) (F : Nat → Nat) (N : Nat) (w : World) (hl : Sl w v l) (hb : ∀ x ∈ l, I64 x) (h : famE n l = 0) (hF : Fam n l F N) :
    Calls Try.prog 13 #[.int .i64 n, v] w fun e w' => (∃ u, e = .returned (.tuple #[u, .int .i64 0]) ∧ OI w.heap.size w' u (outS (shB F n N 0) 4096)) ∧ Below w.heap.size w w' := by
  have H := hid (check_fam n v l w hl hb)
  rw [h] at H
  have hn := hF.n12
  have HA := hid hF.fam.at'
  have HBD := hid hF.fam.bd
  obtain ⟨a, cp, N', rfl, hN, hl1, hl2⟩ := hl.open
  obtain rfl : N' = N := by rw [← hN.out, hF.fam.len]
  have HZ := zeroS
  clear hb h hF hl
  go_enter Try.func13, Try.ntmps13
  go_wp2_with fail
  refine H.out.mono ?_
  rintro e w1 ⟨rfl, hb1⟩
  have HB1 := hid hb1
  have hs1 := hb1.size
  clear hb1
  go_wp2
  have hA : Arr (w1.alloc (.cells (boolS 4096 fun _ => false).toArray 53)) w1.heap.size 53 (boolS 4096 (shB F n 0 0)) := by rw [shB_zero]; exact Arr.new w1 _ _
  have hb0 : Below w.heap.size w (w1.alloc (.cells (boolS 4096 fun _ => false).toArray 53)) := HB1.out.alloc hs1 _
  have HS0 := hid (And.intro hA hb0)
  clear hA hb0 HZ H
  go_loopw [22] (fun i wr => ∃ k : Nat, k ≤ N' ∧ i = .int .i64 k ∧ Arr wr w1.heap.size 53 (boolS 4096 (shB F n k 0)) ∧ Below w.heap.size w wr) (fun i _ => N' - (intOf i).toNat)
  case atStart => exact ⟨0, Nat.zero_le _, rfl, HS0.out.1, HS0.out.2⟩
  case round =>
    obtain ⟨k, hk, rfl, hA, hb⟩ := hrel
    clear HS0
    by_cases hlt : k < N'
    · obtain ⟨b, off, rfl, hblt, hc⟩ := hl2 (by omega)
      have c1 := (hb.cell (p := ⟨b, off + k, none⟩) hblt).trans (hc k hlt)
      rw [HA.out k hlt] at c1
      have hx := HBD.out k hlt
      have HON := hid (fun i (h : F k / 2 ^ i % 2 = 1) => shB_on (F := F) (n := n) h)
      have HOFF := hid (fun i (h : ¬ F k / 2 ^ i % 2 = 1) => shB_off (F := F) (n := n) h)
      have HROW := hid (shB_row F n k)
      have HK := hid (And.intro hA hb)
      clear hc hl2 hA hb
      generalize shB F n k = SB at *
      generalize F k = x at *
      go_wp2
      go_loopw [27] (fun i wr => ∃ t : Nat, t ≤ n ∧ i = .int .i64 t ∧ Arr wr w1.heap.size 53 (boolS 4096 (SB t)) ∧ Below w.heap.size w wr) (fun i _ => n - (intOf i).toNat)
      case atStart => exact ⟨0, Nat.zero_le _, rfl, HK.out.1, HK.out.2⟩
      case round =>
        obtain ⟨t, ht, rfl, hA, hb⟩ := hrel
        clear HK
        by_cases htn : t < n
        · have h2 : (2 : Int) ^ t = ((2 ^ t : Nat) : Int) := by simp
          obtain ⟨p1, p2⟩ := pow12 (n := t) (by omega)
          have hsh : (x : Int) / ((2 ^ t : Nat) : Int) = ((x / 2 ^ t : Nat) : Int) := (Int.natCast_ediv x (2 ^ t)).symm
          have hq : x / 2 ^ t ≤ x := Nat.div_le_self _ _
          have han : bits .and .i64 ((x / 2 ^ t : Nat) : Int) 1 = ((x / 2 ^ t % 2 : Nat) : Int) := by rw [← Nat.and_one_is_mod]; exact and_i64 (x / 2 ^ t) 1 (by omega) (by omega)
          have hon := HON.out t
          have hoff := HOFF.out t
          have hno := andNot_i64 t x (by omega) hx
          have hyb : x - 2 ^ t ≤ x := Nat.sub_le _ _
          have HX := hid (And.intro hA hb)
          by_cases hm : x / 2 ^ t % 2 = 1
          · have HE := hid (hon hm)
            have hno' := hno hm
            have hcell := hA.cell (x - 2 ^ t)
            rw [boolS_get (by omega)] at hcell
            have hfz := hA.frozen (x - 2 ^ t)
            obtain ⟨hs, hg⟩ := hA.stored (x - 2 ^ t) (.bool true)
            rw [boolS_set (by omega), HE.out] at hs
            have HY := hid (And.intro hs (hb.grown hg hb.size (fun b e => by cases e; exact hs1)))
            have han1 : bits .and .i64 ((x / 2 ^ t : Nat) : Int) 1 = 1 := by rw [han, hm]; rfl
            clear han
            clear hon hoff hno hA hb hs hg hm
            generalize x - 2 ^ t = y at *
            generalize x / 2 ^ t = q at *
            generalize 2 ^ t = P at *
            generalize SB t y = old at *
            go_wp2
            go_roundw
            case rel => exact ⟨t + 1, by omega, by go_num, HY.out.1, HY.out.2⟩
            case measure => simp [intOf] <;> omega
          · have HE := hid (hoff hm)
            have hm0 : x / 2 ^ t % 2 = 0 := by omega
            have han1 : bits .and .i64 ((x / 2 ^ t : Nat) : Int) 1 = 0 := by rw [han, hm0]; rfl
            clear han
            clear hon hoff hno hA hb hm hm0 hyb
            generalize x / 2 ^ t = q at *
            generalize 2 ^ t = P at *
            go_wp2
            go_roundw
            case rel => exact ⟨t + 1, by omega, by go_num, by rw [HE.out]; exact HX.out.1, HX.out.2⟩
            case measure => simp [intOf] <;> omega
        · obtain rfl : t = n := by omega
          rw [HROW.out] at hA
          have HX := hid (And.intro hA hb)
          clear hA hb
          go_wp2
          go_roundw
          case rel => exact ⟨k + 1, by omega, by go_num, HX.out.1, HX.out.2⟩
          case measure => simp [intOf] <;> omega
    · obtain rfl : k = N' := by omega
      have HX := hid (And.intro hA hb)
      have r2 := hA.range
      have i1 : (Try.prog.info? 53).map (·.size) = some (boolS 4096 (shB F n k 0)).length := by rw [boolS_len]; kernel_rfl
      clear hA hb
      obtain ⟨SB, hSB⟩ : ∃ SB, SB = shB F n k 0 := ⟨_, rfl⟩
      rw [← hSB] at r2 i1
      have HSB := hid hSB
      clear hSB
      go_wp2_with (refine wpList_load_mid rfl 53 _ rfl w1.heap.size 0 rfl (boolS 4096 SB) _ r2 Try.underlying53 rfl i1 ?_)
      have HRB : Hid (∀ c, c < 4096 → (boolS 4096 SB)[c]? = some (.bool (SB c))) := hid (fun c hc => boolS_get hc)
      have HOL := hid (outS_len SB)
      have HON := hid (fun t (h : SB t = true) => outS_on h)
      have HOFF := hid (fun t (h : SB t = false) => outS_off h)
      have H0 : Hid (outS SB 0 = []) := hid rfl
      have HIX := hid (fun (t : Nat) (w : World) (h : t < 4096) => run_index_cell (P := Try.prog) 53 4 4096 t (boolS 4096 SB) (.bool (SB t)) w Try.underlying53 Try.isAgg4 Try.sizeOf4 h (boolS_get h))
      have HFIN : Hid (outS (shB F n k 0) 4096 = outS SB 4096) := hid (by rw [HSB.out])
      generalize boolS 4096 SB = BL at *
      generalize outS SB = O at *
      go_loopw [11, 43] (fun o i wr => ∃ t : Nat, t ≤ 4096 ∧ i = .int .i64 t ∧ OI w1.heap.size wr o (O t) ∧ Below w.heap.size w wr ∧ Hid (w1.heap.size ≤ wr.heap.size)) (fun _ i _ => 4096 - (intOf i).toNat)
      case atStart => exact ⟨0, Nat.zero_le _, rfl, by rw [H0.out]; exact OI.nil _ _, HX.out.2, hid (Nat.le_of_lt HX.out.1.lt)⟩
      case round =>
        obtain ⟨t, ht, rfl, ho, hb, HSZ⟩ := hrel
        clear HX r2 i1
        by_cases hlt : t < 4096
        · have hget := HIX.out t wr hlt
          have hti : (t : Int) < 4096 := by omega
          cases hS : SB t with
          | true =>
            rw [hS] at hget
            have HE := hid (HON.out t hS)
            clear hS
            have hl2 : (O t).length ≤ 1000000000000 := Nat.le_trans (HOL.out t) (by omega)
            have hsz : w1.heap.size ≤ wr.heap.size := HSZ.out
            go_wp2_with (at_builtin; refine wpList_appi wr _ _ 22 rfl rfl Try.underlying22 Try.info3 w1.heap.size _ _ rfl ho rfl hl2 hsz ?_; intro g c w4 hown1 hg1 hg2 hg3)
            have HY := hid (And.intro (hown1.cast HE.out.symm) (And.intro ((ho.mono hs1).grown hb hg1 (Nat.le_trans hs1 hsz)) (Nat.le_trans hsz hg1.size)))
            clear hown1 hg1 hg2 hg3 ho hb
            go_roundw
            case rel => exact ⟨t + 1, by omega, by go_num, HY.out.1, HY.out.2.1, hid HY.out.2.2⟩
            case measure => simp [intOf] <;> omega
          | false =>
            rw [hS] at hget
            have HE := hid (HOFF.out t hS)
            have HY := hid (And.intro ho hb)
            clear hS ho hb
            go_wp2
            go_roundw
            case rel => exact ⟨t + 1, by omega, by go_num, by rw [HE.out]; exact HY.out.1, HY.out.2, HSZ⟩
            case measure => simp [intOf] <;> omega
        · obtain rfl : t = 4096 := by omega
          have HY := hid (And.intro (ho.mono hs1) hb)
          clear ho hb
          go_wp2
          go_ret2
          refine ⟨⟨_, rfl, ?_⟩, HY.out.2⟩
          rw [HFIN.out]
          exact HY.out.1

theorem Try.info4 : (Try.prog.info? 4).map (fun i => (i.zero, i.size, i.bytes)) = some (some (.bool false), 1, 1) := by kernel_rfl

set_option maxRecDepth 100000 in
set_option maxHeartbeats 2000000 in
theorem ShadowOf_ok (n : Nat) (v : Value) (l : List Int) (F : Nat → Nat) (N : Nat) (w : World) (hl : Sl w v l) (hF : Fam n l F N) :
    Calls Try.prog 16 #[.int .i64 n, v] w fun e w' => (∃ u, e = .returned u ∧ OI w.heap.size w' u (outS (shB F n N 0) 4096)) ∧ Below w.heap.size w w' := by
  have hn := hF.n12
  have HA := hid hF.fam.at'
  have HBD := hid hF.fam.bd
  have HLT := hid hF.lt
  obtain ⟨PP1, PP2⟩ := pow12 hn
  have HFAR := hid (outS_far (shB_bd (F := F) (n := n) hF.lt) 4096 PP2)
  have h2n : (2 : Int) ^ n = ((2 ^ n : Nat) : Int) := by simp
  obtain ⟨a, cp, N', rfl, hN, hl1, hl2⟩ := hl.open
  obtain rfl : N' = N := by rw [← hN.out, hF.fam.len]
  rw [HFAR.out]
  obtain ⟨P, hP⟩ : ∃ P, P = 2 ^ n := ⟨_, rfl⟩
  rw [← hP] at HLT PP1 PP2 h2n ⊢
  have HP := hid hP
  clear hF hl HFAR hP
  go_enter Try.func16, Try.ntmps16
  go_wp2_with (at_make; refine wpList_mk (w := w) _ _ 49 4 (.bool false) 1 rfl rfl Try.underlying49 Try.info4 rfl (by decide) w.heap.size _ P rfl rfl rfl (by omega) (Nat.le_refl _) ?_; intro w6 hs6 hgr6 hz6)
  have hs0 : Ow 4 w.heap.size w6 (.slice (some ⟨w.heap.size, 0, none⟩) P P) (boolS P (shB F n 0 0)) := by rw [shB_zero, boolS_none]; exact hs6
  have HS0 := hid (And.intro hs0 (And.intro ((Below.refl w.heap.size w).grown hgr6 (Nat.le_refl _) (fun k h => by cases h)) hz6))
  clear hs0 hs6 hgr6 hz6
  go_loopw [6] (fun i wr => ∃ k : Nat, k ≤ N' ∧ i = .int .i64 k ∧ Ow 4 w.heap.size wr (.slice (some ⟨w.heap.size, 0, none⟩) P P) (boolS P (shB F n k 0)) ∧ Below w.heap.size w wr ∧ Hid (w.heap.size < wr.heap.size)) (fun i _ => N' - (intOf i).toNat)
  case atStart => exact ⟨0, Nat.zero_le _, rfl, HS0.out.1, HS0.out.2.1, hid HS0.out.2.2⟩
  case round =>
    obtain ⟨k, hk, rfl, hA, hb, HSZ⟩ := hrel
    clear HS0
    by_cases hlt : k < N'
    · obtain ⟨b, off, rfl, hblt, hc⟩ := hl2 (by omega)
      have HC1 : Hid (w.cell? ⟨b, off + k, none⟩ = some (.int .i64 (F k : Int))) := hid ((hc k hlt).trans (by rw [HA.out k hlt]))
      have hx := HBD.out k hlt
      have hxP := HLT.out k hlt
      have HON := hid (fun i (h : F k / 2 ^ i % 2 = 1) => shB_on (F := F) (n := n) h)
      have HOFF := hid (fun i (h : ¬ F k / 2 ^ i % 2 = 1) => shB_off (F := F) (n := n) h)
      have HROW := hid (shB_row F n k)
      have HK := hid (And.intro hA hb)
      have hHkN := hid hlt
      clear hc hl2 hA hb
      generalize shB F n k = SB at *
      generalize F k = x at *
      go_wp2
      go_loopw [7] (fun i wr => ∃ t : Nat, t ≤ n ∧ i = .int .i64 t ∧ Ow 4 w.heap.size wr (.slice (some ⟨w.heap.size, 0, none⟩) P P) (boolS P (SB t)) ∧ Below w.heap.size w wr ∧ Hid (w.heap.size < wr.heap.size)) (fun i _ => n - (intOf i).toNat)
      case atStart => exact ⟨0, Nat.zero_le _, rfl, HK.out.1, HK.out.2, HSZ⟩
      case round =>
        clear HSZ
        obtain ⟨t, ht, rfl, hA, hb, HSZ⟩ := hrel
        clear HK
        by_cases htn : t < n
        · have h2 : (2 : Int) ^ t = ((2 ^ t : Nat) : Int) := by simp
          obtain ⟨p1, p2⟩ := pow12 (n := t) (by omega)
          have hsh : (x : Int) / ((2 ^ t : Nat) : Int) = ((x / 2 ^ t : Nat) : Int) := (Int.natCast_ediv x (2 ^ t)).symm
          have hq : x / 2 ^ t ≤ x := Nat.div_le_self _ _
          have han : bits .and .i64 ((x / 2 ^ t : Nat) : Int) 1 = ((x / 2 ^ t % 2 : Nat) : Int) := by rw [← Nat.and_one_is_mod]; exact and_i64 (x / 2 ^ t) 1 (by omega) (by omega)
          have hon := HON.out t
          have hoff := HOFF.out t
          have hyb : x - 2 ^ t ≤ x := Nat.sub_le _ _
          have c1 := (hb.cell (p := ⟨b, off + k, none⟩) hblt).trans HC1.out
          have hkc : (k : Int) < (N' : Int) := by have := hHkN.out; omega
          by_cases hm : x / 2 ^ t % 2 = 1
          · have HE := hid (hon hm)
            have hge : 2 ^ t ≤ x := by
              rcases Nat.lt_or_ge x (2 ^ t) with h | h
              · rw [Nat.div_eq_of_lt h] at hm; omega
              · exact h
            have hsub : (x : Int) - ((2 ^ t : Nat) : Int) = ((x - 2 ^ t : Nat) : Int) := by omega
            have hcell := hA.cell (x - 2 ^ t) (by rw [boolS_len]; omega)
            rw [boolS_get (by omega)] at hcell
            have hfz := hA.frozen (x - 2 ^ t)
            obtain ⟨hs, hg⟩ := hA.stored (x - 2 ^ t) (.bool true)
            rw [boolS_set (by omega), HE.out] at hs
            have HY := hid (And.intro hs (And.intro (hb.grown hg hb.size (fun b e => by cases e; exact Nat.le_refl _)) (Nat.lt_of_lt_of_le HSZ.out hg.size)))
            have han1 : bits .and .i64 ((x / 2 ^ t : Nat) : Int) 1 = 1 := by rw [han, hm]; rfl
            have hyP : x - 2 ^ t < P := by omega
            clear han hon hoff hA hb hs hg hm
            generalize x - 2 ^ t = y at *
            generalize x / 2 ^ t = q at *
            generalize 2 ^ t = p at *
            generalize SB t y = old at *
            go_wp2
            go_region
            all_goals
              go_wp2
              go_roundw
            case rel => exact ⟨t + 1, by omega, by go_num, HY.out.1, HY.out.2.1.drew, hid HY.out.2.2⟩
            case measure => simp [intOf] <;> omega
          · have HE := hid (hoff hm)
            have hm0 : x / 2 ^ t % 2 = 0 := by omega
            have han1 : bits .and .i64 ((x / 2 ^ t : Nat) : Int) 1 = 0 := by rw [han, hm0]; rfl
            have HX := hid (And.intro hA hb)
            clear han hon hoff hA hb hm hm0 hyb
            generalize x / 2 ^ t = q at *
            generalize 2 ^ t = p at *
            go_wp2
            go_roundw
            case rel => exact ⟨t + 1, by omega, by go_num, by rw [HE.out]; exact HX.out.1, HX.out.2, HSZ⟩
            case measure => simp [intOf] <;> omega
        · obtain rfl : t = n := by omega
          rw [HROW.out] at hA
          have HX := hid (And.intro hA hb)
          clear hA hb
          go_wp2
          go_roundw
          case rel => exact ⟨k + 1, by omega, by go_num, HX.out.1, HX.out.2, HSZ⟩
          case measure => simp [intOf] <;> omega
    · obtain rfl : k = N' := by omega
      have HX := hid (And.intro hA (And.intro hb HSZ.out))
      clear hA hb HSZ
      obtain ⟨SB, hSB⟩ : ∃ SB, SB = shB F n k 0 := ⟨_, rfl⟩
      rw [← hSB] at HX
      have HOL := hid (outS_len SB)
      have HON := hid (fun t (h : SB t = true) => outS_on h)
      have HOFF := hid (fun t (h : SB t = false) => outS_off h)
      have H0 : Hid (outS SB 0 = []) := hid rfl
      have HFIN : Hid (outS (shB F n k 0) P = outS SB P) := hid (by rw [hSB])
      clear hSB
      generalize outS SB = O at *
      go_wp2
      go_loopw [8, 9] (fun o i wr => ∃ t : Nat, t ≤ P ∧ i = .int .i64 t ∧ OI (w.heap.size + 1) wr o (O t) ∧ Ow 4 w.heap.size wr (.slice (some ⟨w.heap.size, 0, none⟩) P P) (boolS P SB) ∧ Below w.heap.size w wr ∧ Hid (w.heap.size < wr.heap.size)) (fun _ i _ => P - (intOf i).toNat)
      case atStart => exact ⟨0, Nat.zero_le _, rfl, by rw [H0.out]; exact OI.nil _ _, HX.out.1, HX.out.2.1, hid HX.out.2.2⟩
      case round =>
        obtain ⟨t, ht, rfl, ho, hA, hb, HSZ⟩ := hrel
        clear HX
        by_cases hlt : t < P
        · have hcell := hA.cell t (by rw [boolS_len]; omega)
          rw [boolS_get (by omega)] at hcell
          cases hS : SB t with
          | true =>
            rw [hS] at hcell
            have HE := hid (HON.out t hS)
            clear hS
            have hl2 : (O t).length ≤ 1000000000000 := Nat.le_trans (HOL.out t) (by omega)
            have hsz : w.heap.size + 1 ≤ wr.heap.size := HSZ.out
            go_wp2_with (at_builtin; refine wpList_appi wr _ _ 22 rfl rfl Try.underlying22 Try.info3 (w.heap.size + 1) _ _ rfl ho rfl hl2 hsz ?_; intro g c w4 hown1 hg1 hg2 hg3)
            have HY := hid (And.intro (hown1.cast HE.out.symm) (And.intro (hA.kept_other rfl ho hg1) (And.intro ((ho.mono (Nat.le_succ _)).grown hb hg1 (by omega)) (Nat.lt_of_lt_of_le HSZ.out hg1.size))))
            clear hown1 hg1 hg2 hg3 ho hb hA
            go_roundw
            case rel => exact ⟨t + 1, by omega, by go_num, HY.out.1, HY.out.2.1, HY.out.2.2.1, hid HY.out.2.2.2⟩
            case measure => simp [intOf] <;> omega
          | false =>
            rw [hS] at hcell
            have HE := hid (HOFF.out t hS)
            have HY := hid (And.intro ho (And.intro hA hb))
            clear hS ho hb hA
            go_wp2
            go_roundw
            case rel => exact ⟨t + 1, by omega, by go_num, by rw [HE.out]; exact HY.out.1, HY.out.2.1, HY.out.2.2, HSZ⟩
            case measure => simp [intOf] <;> omega
        · obtain rfl : t = P := by omega
          have HY := hid (And.intro (ho.mono (Nat.le_succ w.heap.size)) hb)
          clear ho hb hA
          go_wp2
          go_ret
          refine ⟨⟨_, rfl, ?_⟩, HY.out.2⟩
          rw [HFIN.out]
          exact HY.out.1
end Go.Proofs.Ytdbfmjlnalaobaa
