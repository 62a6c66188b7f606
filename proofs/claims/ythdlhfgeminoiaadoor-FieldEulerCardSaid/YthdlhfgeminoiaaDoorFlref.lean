/-
  The walks over parterreref1.LeastField and Fields; the same divisors are found both ways: by the kernel. Conditions: the numbers are of 64 bits.
-/
import Derived.Test.YthdlhfgeminoiaaDoorFfault
import Derived.Test.YthdlhfgeminoiaaDoorWints
namespace Go.Proofs.YthdlhfgeminoiaaDoor
set_option linter.unusedVariables false
open Go.RowKit

theorem ir_rd_all : ∀ K, K < 7 → ∀ P, P < 9 → 2 ≤ K → 2 ≤ P → P ^ K ≤ 64 → ((List.range (P ^ K)).all fun n => irB P K (dgL P n 7) == rdF P K (dgL P n K)) = true := by decide +kernel
theorem ir_one (P : Nat) (l : List Nat) : irB P 1 l = true := rfl
theorem rd_one (P : Nat) (l : List Nat) : rdF P 1 l = true := rfl
theorem pow_small {P K : Nat} (hK : 2 ≤ K) (h : P ^ K ≤ 64) : P < 9 := by
  rcases Nat.lt_or_ge P 9 with h1 | h1
  · exact h1
  · have h2 : P ^ 2 ≤ P ^ K := Nat.pow_le_pow_right (by omega) hK
    have h3 : 9 ^ 2 ≤ P ^ 2 := Nat.pow_le_pow_left h1 2
    omega
theorem ir_rd {P K n : Nat} (h : ordF P K ≠ 0) (hn : n < ordF P K) : irB P K (dgL P n 7) = rdF P K (dgL P n K) := by
  obtain ⟨P', K', e1, e2, hpr, hp2, hp61, hk1, hk6, hq64, hord⟩ := ord_pos h
  obtain rfl : P = P' := by omega
  obtain rfl : K = K' := by omega
  by_cases hk : K = 1
  · subst hk; rw [ir_one, rd_one]
  · have := ir_rd_all K (by omega) P (pow_small (by omega) hq64) (by omega) hp2 hq64
    rw [List.all_eq_true] at this
    have := this n (List.mem_range.2 (by omega))
    simpa using this
theorem ir_ex_all : ∀ K, K < 7 → ∀ P, P < 9 → (!(decide (2 ≤ K) && decide (2 ≤ P) && decide (P ^ K ≤ 64) && primeB P) || ((List.range (P ^ K)).any fun n => irB P K (dgL P n 7))) = true := by decide +kernel
theorem least_ex (p : Nat → Bool) : ∀ n, p n = true → ∃ m, m ≤ n ∧ p m = true ∧ ∀ k, k < m → p k = false := by
  intro n
  induction n using Nat.strongRecOn with
  | _ n ih =>
    intro h
    by_cases hx : ∃ k, k < n ∧ p k = true
    · obtain ⟨k, hk, hpk⟩ := hx
      obtain ⟨m, h1, h2, h3⟩ := ih k hk hpk
      exact ⟨m, by omega, h2, h3⟩
    · refine ⟨n, Nat.le_refl _, h, fun k hk => ?_⟩
      cases hpk : p k with
      | false => rfl
      | true => exact absurd ⟨k, hk, hpk⟩ hx
/-- There is a first field of each order. -/
theorem ir_ex {P K : Nat} (h : ordF P K ≠ 0) : ∃ n0, n0 < ordF P K ∧ irB P K (dgL P n0 7) = true ∧ ∀ n, n < n0 → irB P K (dgL P n 7) = false := by
  obtain ⟨P', K', e1, e2, hpr, hp2, hp61, hk1, hk6, hq64, hord⟩ := ord_pos h
  obtain rfl : P = P' := by omega
  obtain rfl : K = K' := by omega
  have hex : ∃ n, n < P ^ K ∧ irB P K (dgL P n 7) = true := by
    by_cases hk : K = 1
    · subst hk
      exact ⟨0, by simp; omega, ir_one _ _⟩
    · have hp : primeB P = true := by rw [pr_same P (by omega)]; exact decide_eq_true hpr
      have := ir_ex_all K (by omega) P (pow_small (by omega) hq64)
      rw [decide_eq_true (show 2 ≤ K by omega), decide_eq_true hp2, decide_eq_true hq64, hp] at this
      simp only [Bool.and_self, Bool.not_true, Bool.false_or] at this
      obtain ⟨n, hn, hb⟩ := List.any_eq_true.1 this
      exact ⟨n, List.mem_range.1 hn, hb⟩
  obtain ⟨n, hn, hb⟩ := hex
  obtain ⟨m, h1, h2, h3⟩ := least_ex (fun n => irB P K (dgL P n 7)) n hb
  exact ⟨m, by omega, h2, h3⟩
theorem toN_of (l : List Nat) : toN (nZ l) = l := by simp [toN, nZ, List.map_map, Function.comp_def]
theorem fa_dg {P K n : Nat} (h : ordF P K ≠ 0) (hn : n < ordF P K) : faE P K (nZ (dgL P n K)) = if irB P K (dgL P n 7) = true then 0 else 4 := by
  obtain ⟨P', K', e1, e2, hpr, hp2, hp61, hk1, hk6, hq64, hord⟩ := ord_pos h
  obtain rfl : P = P' := by omega
  obtain rfl : K = K' := by omega
  have := fa_in h (low := nZ (dgL P n K)) (by rw [nZ_len, dgL_len, Int.toNat_natCast]) (fun i hi => by
    rw [← List.getD_eq_getElem?_getD, nZ_getD]
    have := dgL_lt (P := P) (n := n) hp2 K i
    unfold ofF
    rw [decide_eq_false (by omega), decide_eq_false (by omega)]
    rfl)
  rw [this, Int.toNat_natCast, Int.toNat_natCast, toN_of, ir_rd h hn]

set_option maxHeartbeats 1000000 in
set_option maxRecDepth 100000 in
theorem LeastField_bad (p k : Int) (w : World) (ip : I64 p) (ik : I64 k) (h : ordF p k = 0) :
    Calls Tryd.prog 12 #[.int .i64 p, .int .i64 k] w fun e w' => e = .returned (.tuple #[fldV 0 0 (.slice none 0 0), .int .i64 1]) ∧ Below w.heap.size w w' := by
  have HO := hid (fun w1 => OrderOf_any p k w1 ip ik)
  rw [h] at HO
  clear h
  have hb0 : Below w.heap.size w (w.alloc (.cells #[.int .i64 0, .int .i64 0, .slice none 0 0] 24)) := (Below.refl _ _).alloc (Nat.le_refl _) _
  have HB := hid hb0
  clear hb0
  go_enter Tryd.func12, Tryd.ntmps12
  go_wp2_with fail
  refine (HO.out _).mono ?_
  rintro e w1 ⟨rfl, rfl⟩
  go_wp2
  have hA : Arr (w.alloc (.cells #[.int .i64 0, .int .i64 0, .slice none 0 0] 24)) w.heap.size 24 [.int .i64 0, .int .i64 0, .slice none 0 0] := Arr.new w _ _
  have hld := run_loadVar_mid (P := Tryd.prog) _ _ _ 24 _ _ hA.range Tryd.underlying24 rfl (by kernel_rfl)
  refine ⟨rfl, .tuple #[fldV 0 0 (.slice none 0 0), .int .i64 1], ?_, rfl, HB.out⟩
  show ((results _ _).run _ _) = _
  simp [results, Tryd.f12, asAddr, hld, fldV]

set_option maxHeartbeats 1000000 in
set_option maxRecDepth 100000 in
theorem LeastField_ok (P K n0 : Nat) (w : World) (h : ordF P K ≠ 0) (hn0 : n0 < ordF P K) (hy : irB P K (dgL P n0 7) = true) (hno : ∀ n, n < n0 → irB P K (dgL P n 7) = false) :
    Calls Tryd.prog 12 #[.int .i64 P, .int .i64 K] w fun e w' => (∃ u, e = .returned (.tuple #[fldV P K u, .int .i64 0]) ∧ OI w.heap.size w' u (nZ (dgL P n0 K))) ∧ Below w.heap.size w w' := by
  obtain ⟨P', K', e1, e2, hpr, h2, h61, hk1, hk6, hq64, hord⟩ := ord_pos h
  obtain rfl : P = P' := by omega
  obtain rfl : K = K' := by omega
  have HO := hid (fun w1 => OrderOf_any P K w1 (by unfold I64; omega) (by unfold I64; omega))
  have HDIG := hid (fun n w1 (hn : n ≤ 64) => Digits_ok P n K w1 (by omega) (by omega) (by omega) (by omega))
  have HFA := hid (fun n (u : Value) (w1 : World) (hu : Sl w1 u (nZ (dgL P n K))) (hn : n < ordF P K) => Fault_ok P K u (nZ (dgL P n K)) w1 hu h (by rw [nZ_len, dgL_len]) (fun x hx => by
    simp only [nZ, List.mem_map, dgL, List.mem_range] at hx
    obtain ⟨y, ⟨i, _, rfl⟩, rfl⟩ := hx
    have : dg P n i < P := Nat.mod_lt _ (by omega)
    unfold I64
    omega))
  have HFE := hid (fun n (hn : n < ordF P K) => fa_dg h hn)
  have hz : (((ordF (P : Int) (K : Int) : Nat) : Int) == 0) = false := by rw [beq_eq_false_iff_ne]; omega
  have hqs : ordF (P : Int) (K : Int) ≤ 64 := by omega
  have HNO := hid hno
  have HYE := hid hy
  have HLN : Hid (∀ n, (nZ (dgL P n K)).length = K) := hid (fun n => by rw [nZ_len, dgL_len])
  have hAn : Arr (w.alloc (.cells #[.int .i64 0, .int .i64 0, .slice none 0 0] 24)) w.heap.size 24 [.int .i64 0, .int .i64 0, .slice none 0 0] := Arr.new w _ _
  have HB := hid (And.intro hAn ((Below.refl w.heap.size w).alloc (Nat.le_refl _) (.cells #[.int .i64 0, .int .i64 0, .slice none 0 0] 24)))
  clear hAn hy hno hord hpr hq64
  generalize ordF (P : Int) (K : Int) = q at *
  clear h
  go_enter Tryd.func12, Tryd.ntmps12
  go_wp2_with fail
  refine (HO.out _).mono ?_
  rintro e w1 ⟨rfl, rfl⟩
  go_wp2
  go_loopw [7, 8, 9, 10] (fun i _ _ _ wr => ∃ n : Nat, n ≤ n0 ∧ i = .int .i64 n ∧ Arr wr w.heap.size 24 [.int .i64 0, .int .i64 0, .slice none 0 0] ∧ Below w.heap.size w wr) (fun i _ _ _ _ => n0 - (intOf i).toNat)
  case atStart => exact ⟨0, Nat.zero_le _, rfl, HB.out.1, HB.out.2⟩
  case round =>
    clear HB
    obtain ⟨n, hn, rfl, hA, hb⟩ := hrel
    have hnq : (n : Int) < (q : Int) := by omega
    have HDG := hid (HDIG.out n wr (by omega))
    have HFF := hid (fun (u : Value) (w1 : World) hu => HFA.out n u w1 hu (by omega))
    have HFEN := hid (HFE.out n (by omega))
    have HA := hid (And.intro hA hb)
    have hB : Hid (n = n0 ∧ irB P K (dgL P n 7) = true ∨ n < n0 ∧ irB P K (dgL P n 7) = false) := hid (by
      rcases Nat.lt_or_ge n n0 with hl | hl
      · exact .inr ⟨hl, HNO.out n hl⟩
      · obtain rfl : n = n0 := by omega
        exact .inl ⟨rfl, HYE.out⟩)
    have HLNN := hid (HLN.out n)
    clear hA hb
    go_wp2_with fail
    refine HDG.out.mono ?_
    rintro e w2 ⟨⟨u2, rfl, hu2⟩, hb2⟩
    have hu2 : OI wr.heap.size w2 u2 (nZ (dgL P n K)) := hu2
    obtain ⟨a2, c2, e2⟩ := hu2.len
    rw [HLNN.out] at e2
    subst e2
    have hA2 := HA.out.1.below hb2
    have hbb := HA.out.2.trans (hb2.mono HA.out.2.size)
    have hS3 : Arr (w2.alloc (.cells #[.int .i64 (P : Int), .int .i64 (K : Int), .slice a2 K c2] 24)) w2.heap.size 24 [.int .i64 (P : Int), .int .i64 (K : Int), .slice a2 K c2] := Arr.new w2 _ _
    have H3 := hid (And.intro hS3 (And.intro (hA2.alloc (.cells #[.int .i64 (P : Int), .int .i64 (K : Int), .slice a2 K c2] 24)) (And.intro (hbb.alloc hbb.size (.cells #[.int .i64 (P : Int), .int .i64 (K : Int), .slice a2 K c2] 24)) (And.intro (hu2.alloc (.cells #[.int .i64 (P : Int), .int .i64 (K : Int), .slice a2 K c2] 24)) (And.intro HA.out.2.size hA2.lt)))))
    have HFC := hid (HFF.out (.slice a2 K c2) (w2.alloc (.cells #[.int .i64 (P : Int), .int .i64 (K : Int), .slice a2 K c2] 24)) (OI.sl H3.out.2.2.2.1 (by rw [HLNN.out]; omega)))
    rw [HFEN.out] at HFC
    unfold fldV at HFC
    have HU := hid hu2
    clear hu2 hb2 hA2 hbb hS3
    rcases hB.out with ⟨rfl, hBt⟩ | ⟨hl, hBf⟩
    · rw [hBt, if_pos rfl] at HFC
      clear hBt
      go_wp2_with fail
      refine HFC.out.mono ?_
      rintro e w6 ⟨rfl, hb6⟩
      have hS6 := H3.out.1.below hb6
      have hA6 := H3.out.2.1.below hb6
      have hu6 := H3.out.2.2.2.1.below hb6
      have hb6' := H3.out.2.2.1.trans (hb6.mono H3.out.2.2.1.size)
      have r6 := hS6.range
      have i9 : (Tryd.prog.info? 24).map (·.size) = some 3 := by kernel_rfl
      have t8 : w6.there w.heap.size 0 (#[Value.int .i64 (P : Int), Value.int .i64 (K : Int), Value.slice a2 K c2] : Array Value).size := hA6.there
      have H8 := hid (And.intro hA6 (And.intro hb6' hu6))
      clear hb6 hS6 hA6 hu6 hb6'
      go_wp2_with (first
        | (refine wpList_load_mid rfl 24 _ rfl w2.heap.size 0 rfl [.int .i64 (P : Int), .int .i64 (K : Int), .slice a2 K c2] _ r6 Tryd.underlying24 rfl i9 ?_)
        | (refine wpList_store_mid rfl 24 _ _ rfl w.heap.size 0 #[Value.int .i64 (P : Int), Value.int .i64 (K : Int), Value.slice a2 K c2] rfl rfl t8 i9 (fld_one _ _ _ _ _) ?_; show wpList _ _ _ _ _ (w6.setCells w.heap.size 0 [Value.int .i64 (P : Int), Value.int .i64 (K : Int), Value.slice a2 K c2])))
      have hF9 : Arr (w6.setCells w.heap.size 0 [Value.int .i64 (P : Int), Value.int .i64 (K : Int), Value.slice a2 K c2]) w.heap.size 24 [Value.int .i64 (P : Int), Value.int .i64 (K : Int), Value.slice a2 K c2] := Arr.setCells [Value.int .i64 (P : Int), Value.int .i64 (K : Int), Value.slice a2 K c2] [] _ w6 H8.out.1 rfl
      have hg9 := grown_setCells (b := w.heap.size) [Value.int .i64 (P : Int), Value.int .i64 (K : Int), Value.slice a2 K c2] 0 w6
      have hb9 := H8.out.2.1.grown hg9 H8.out.2.1.size (fun k h => by cases h; exact Nat.le_refl _)
      have hwr : w.heap.size < wr.heap.size := HA.out.1.lt
      have ho9 := (H8.out.2.2.kept hg9 (.inr (fun e => by
        have := (H8.out.2.2.lt _ e).1
        omega))).mono HA.out.2.size
      have hld := run_loadVar_mid (P := Tryd.prog) _ _ _ 24 _ _ hF9.range Tryd.underlying24 rfl i9
      refine ⟨rfl, .tuple #[fldV P K (.slice a2 K c2), .int .i64 0], ?_, ⟨_, rfl, ho9⟩, hb9⟩
      show ((results _ _).run _ _) = _
      simp [results, Tryd.f12, asAddr, hld, fldV]
    · rw [hBf, if_neg (by decide)] at HFC
      clear hBf
      go_wp2_with fail
      refine HFC.out.mono ?_
      rintro e w6 ⟨rfl, hb6⟩
      have HX := hid (And.intro (H3.out.2.1.below hb6) (H3.out.2.2.1.trans (hb6.mono H3.out.2.2.1.size)))
      clear hb6
      go_wp2
      go_roundw
      case rel => exact ⟨n + 1, by omega, by go_num, HX.out.1, HX.out.2⟩
      case measure => simp [intOf] <;> omega
end Go.Proofs.YthdlhfgeminoiaaDoor
