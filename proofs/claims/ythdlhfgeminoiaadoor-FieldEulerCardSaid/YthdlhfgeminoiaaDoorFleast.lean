/-
  The walk over field.Least. Conditions: the numbers are of 64 bits; the primes are laid.
-/
import Derived.Test.YthdlhfgeminoiaaDoorFirr
import Derived.Test.YthdlhfgeminoiaaDoorForder
namespace Go.Proofs.YthdlhfgeminoiaaDoor
set_option linter.unusedVariables false
open Go.RowKit

/-- A field's value. -/
def fldV (p k : Int) (u : Value) : Value := .agg #[.int .i64 p, .int .i64 k, u]

set_option maxHeartbeats 1000000 in
set_option maxRecDepth 100000 in
theorem Least_bad (p k : Int) (w : World) (ik : I64 k) (hp : Prs w) (h : ordF p k = 0) :
    Calls Tryd.prog 11 #[.int .i64 p, .int .i64 k] w fun e w' => e = .returned (.tuple #[fldV 0 0 (.slice none 0 0), .int .i64 1]) ∧ Below w.heap.size w w' := by
  have HO := hid (fun w1 (hb : Below w.heap.size w w1) => order_any p k w1 ik (hp.below hb))
  rw [h] at HO
  clear h hp ik
  have hb0 : Below w.heap.size w (w.alloc (.cells #[.int .i64 0, .int .i64 0, .slice none 0 0] 24)) := (Below.refl _ _).alloc (Nat.le_refl _) _
  have HB := hid hb0
  have HC := hid (HO.out _ hb0)
  clear hb0
  go_enter Tryd.func11, Tryd.ntmps11
  go_wp2_with fail
  refine HC.out.mono ?_
  rintro e w1 ⟨rfl, rfl⟩
  go_wp2
  have hA : Arr (w.alloc (.cells #[.int .i64 0, .int .i64 0, .slice none 0 0] 24)) w.heap.size 24 [.int .i64 0, .int .i64 0, .slice none 0 0] := Arr.new w _ _
  have hld := run_loadVar_mid (P := Tryd.prog) _ _ _ 24 _ _ hA.range Tryd.underlying24 rfl (by kernel_rfl)
  refine ⟨rfl, .tuple #[fldV 0 0 (.slice none 0 0), .int .i64 1], ?_, rfl, HB.out⟩
  show ((results _ _).run _ _) = _
  simp [results, Tryd.f11, asAddr, hld, fldV]

theorem dgL_take (P n : Nat) {k : Nat} (hk : k ≤ 7) : (dgL P n 7).take k = dgL P n k := by
  unfold dgL
  rw [← List.map_take, List.take_range]
  congr 2
  omega
theorem dgL_lt {P n : Nat} (hP : 2 ≤ P) (m : Nat) : ∀ j, (dgL P n m).getD j 0 < P := by
  intro j
  rw [List.getD_eq_getElem?_getD]
  by_cases h : j < m
  · simp [dgL, h]
    exact Nat.mod_lt _ (by omega)
  · simp [dgL, h]
    omega
theorem fld_one (p k : Int) (a : Option Addr) (n c : Nat) : (#[Value.int .i64 p, Value.int .i64 k, Value.slice a n c] : Array Value).all (·.oneCell') = true := by simp [Value.oneCell']
def nZ (l : List Nat) : List Int := l.map fun x : Nat => (x : Int)
theorem pv_nZ (l : List Nat) : pv l = (nZ l).map (Value.int .i64) := by simp [pv, nZ]

set_option maxHeartbeats 1000000 in
set_option maxRecDepth 100000 in
theorem Least_ok (P K n0 : Nat) (w : World) (hp : Prs w) (h : ordF P K ≠ 0) (hn0 : n0 < ordF P K) (hy : irB P K (dgL P n0 7) = true) (hno : ∀ n, n < n0 → irB P K (dgL P n 7) = false) :
    Calls Tryd.prog 11 #[.int .i64 P, .int .i64 K] w fun e w' => (∃ u, e = .returned (.tuple #[fldV P K u, .int .i64 0]) ∧ OI w.heap.size w' u (nZ (dgL P n0 K))) ∧ Below w.heap.size w w' := by
  obtain ⟨P', K', e1, e2, hpr, h2, h61, hk1, hk6, hq64, hord⟩ := ord_pos h
  obtain rfl : P = P' := by omega
  obtain rfl : K = K' := by omega
  have HO := hid (fun w1 (hb : Below w.heap.size w w1) => order_any P K w1 (by unfold I64; omega) (hp.below hb))
  have hz : (!(ordF P K == 0)) = true := by simp [h]
  rw [hz, hord] at HO
  rw [hord] at hn0
  have HDIG := hid (fun n w1 (h : n < 128) => digits_ok P n w1 h2 (by omega) h)
  have HIRR := hid (fun n w1 => irreducible_ok P K (dgL P n 7) w1 h2 (by omega) hk1 hk6 hq64 (dgL_len P n 7) (dgL_lt h2 7))
  have HNO := hid hno
  have HYE := hid hy
  have HDL7 : Hid (∀ n, (dgL P n 7).length = 7) := hid (fun n => dgL_len P n 7)
  have HTK : Hid (∀ n, (dgL P n 7).take K = dgL P n K) := hid (fun n => dgL_take P n (by omega))
  have hAn : Arr (w.alloc (.cells #[.int .i64 0, .int .i64 0, .slice none 0 0] 24)) w.heap.size 24 [.int .i64 0, .int .i64 0, .slice none 0 0] := Arr.new w _ _
  have hb0 : Below w.heap.size w (w.alloc (.cells #[.int .i64 0, .int .i64 0, .slice none 0 0] 24)) := (Below.refl _ _).alloc (Nat.le_refl _) _
  have HB := hid (And.intro hAn hb0)
  have HC := hid (HO.out _ hb0)
  have hK7 : (K : Int) ≤ 7 := by omega
  clear hb0 hAn h hp hy hno hz hord hpr
  generalize P ^ K = q at *
  go_enter Tryd.func11, Tryd.ntmps11
  go_wp2_with fail
  refine HC.out.mono ?_
  rintro e w1 ⟨rfl, rfl⟩
  clear HC
  go_wp2
  go_loopw [8, 9, 20] (fun _ _ i wr => ∃ n : Nat, n ≤ n0 ∧ i = .int .i64 n ∧ Arr wr w.heap.size 24 [.int .i64 0, .int .i64 0, .slice none 0 0] ∧ Below w.heap.size w wr) (fun _ _ i _ => n0 - (intOf i).toNat)
  case atStart => exact ⟨0, Nat.zero_le _, rfl, HB.out.1, HB.out.2⟩
  case round =>
    clear HB
    obtain ⟨n, hn, rfl, hA, hb⟩ := hrel
    have hnq : (n : Int) < (q : Int) := by omega
    have HDG := hid (HDIG.out n wr (by omega))
    have HII := hid (HIRR.out n)
    have HA := hid (And.intro hA hb)
    have hd7 := HDL7.out n
    have HTN := hid (HTK.out n)
    clear hA hb
    have hB : Hid (n = n0 ∧ irB P K (dgL P n 7) = true ∨ n < n0 ∧ irB P K (dgL P n 7) = false) := hid (by
      rcases Nat.lt_or_ge n n0 with hl | hl
      · exact .inr ⟨hl, HNO.out n hl⟩
      · obtain rfl : n = n0 := by omega
        exact .inl ⟨rfl, HYE.out⟩)
    generalize irB P K (dgL P n 7) = B at *
    generalize dgL P n 7 = D at *
    go_wp2_with fail
    refine HDG.out.mono ?_
    rintro e w2 ⟨rfl, hb2⟩
    have hA2 := HA.out.1.below hb2
    have hbb := HA.out.2.trans (hb2.mono HA.out.2.size)
    have hwz : w.heap.size < w2.heap.size := hA2.lt
    have hA3 := hA2.alloc (.cells (pv (List.replicate 7 0)).toArray 50)
    have hN3 : Arr (w2.alloc (.cells (pv (List.replicate 7 0)).toArray 50)) w2.heap.size 50 ([] ++ pv (List.replicate 7 0)) := Arr.new w2 _ _
    have t1 := hN3.there
    have t2 : (w2.alloc (.cells (pv (List.replicate 7 0)).toArray 50)).there w2.heap.size 0 (pv D).toArray.size := by
      rw [show (pv D).toArray.size = 7 from List.size_toArray.trans ((pv_len D).trans hd7)]
      exact t1
    have i2 : (Tryd.prog.info? 50).map (·.size) = some (pv D).toArray.size := by rw [show (pv D).toArray.size = 7 from List.size_toArray.trans ((pv_len D).trans hd7)]; kernel_rfl
    have hr4 : Arr ((w2.alloc (.cells (pv (List.replicate 7 0)).toArray 50)).setCells w2.heap.size 0 (pv D)) w2.heap.size 50 (pv D) := Arr.setCells (pv D) [] (pv (List.replicate 7 0)) _ hN3 (by rw [pv_len, pv_len, hd7, List.length_replicate])
    have hg4 := grown_setCells (b := w2.heap.size) (pv D) 0 (w2.alloc (.cells (pv (List.replicate 7 0)).toArray 50))
    have hA4 := hA3.kept hg4 (fun e => by have := Option.some.inj e; omega)
    have hb4 := (hbb.alloc hbb.size (.cells (pv (List.replicate 7 0)).toArray 50)).grown hg4 (Nat.le_trans hbb.size (by simp)) (fun k h => by cases h; omega)
    have H4 := hid (And.intro hr4 (And.intro hA4 hb4))
    have i5 : (Tryd.prog.info? 50).map (·.size) = some (pv D).length := by rw [pv_len, hd7]; kernel_rfl
    clear hA2 hbb hA3 hN3 t1 hr4 hg4 hA4 hb4 hb2
    go_wp2_with (first
      | (refine wpList_store_mid rfl 50 _ _ rfl w2.heap.size 0 (pv D).toArray rfl rfl t2 i2 (pv_one D) ?_; show wpList _ _ _ _ _ ((w2.alloc (.cells (pv (List.replicate 7 0)).toArray 50)).setCells w2.heap.size 0 (pv D)); generalize ((w2.alloc (.cells (pv (List.replicate 7 0)).toArray 50)).setCells w2.heap.size 0 (pv D)) = w4 at H4 ⊢; have r5 := H4.out.1.range; clear t2 i2)
      | (refine wpList_load_mid rfl 50 _ rfl w2.heap.size 0 rfl (pv D) _ r5 Tryd.underlying50 rfl i5 ?_))
    refine (HII.out _).mono ?_
    rintro e w6 ⟨rfl, hb6⟩
    have H6 := hid (And.intro (H4.out.1.below hb6) (And.intro (H4.out.2.1.below hb6) (H4.out.2.2.trans (hb6.mono H4.out.2.2.size))))
    clear hb6 r5
    rcases hB.out with ⟨rfl, rfl⟩ | ⟨hl, rfl⟩
    · have ho7 := OI.lit0 w.heap.size w6 H6.out.2.2.size
      have hb7 := H6.out.2.2.alloc H6.out.2.2.size (.cells #[] 3)
      have hP7 := H6.out.1.alloc (.cells #[] 3)
      have hF7 := H6.out.2.1.alloc (.cells #[] 3)
      have H7 := hid (And.intro hF7 hb7)
      have hlp := hP7.lt
      have hrd : Rd (w6.alloc (.cells #[] 3)) (.slice (some ⟨w2.heap.size, 0, none⟩) K 7) ((pv D).take K) := by
        refine ⟨some ⟨w2.heap.size, 0, none⟩, 7, by rw [List.length_take, pv_len, hd7]; congr 1; omega, by rw [List.length_take, pv_len, hd7]; omega, fun _ => ⟨w2.heap.size, 0, rfl, hlp, fun i hi => ?_⟩⟩
        rw [List.length_take] at hi
        rw [Nat.zero_add, hP7.cell, List.getElem?_take, if_pos (by omega)]
      have hone : ∀ x ∈ (pv D).take K, x.oneCell' = true := fun x hx => by
        have := List.mem_of_mem_take hx
        simp only [pv, List.mem_map] at this
        obtain ⟨y, _, rfl⟩ := this
        rfl
      have hlt7 : (([] : List Int).map (Value.int .i64)).length + ((pv D).take K).length ≤ 1000000000000 := by simp [pv_len, hd7]; omega
      have hbs7 : w.heap.size ≤ (w6.alloc (.cells #[] 3)).heap.size := hb7.size
      clear hP7 hF7 hb7
      have hlen8 : (([] : List Int).map (Value.int .i64) ++ (pv D).take K).length = K := by simp [pv_len, hd7]; omega
      have H8L : Hid (w.heap.size < w6.heap.size) := hid H6.out.2.1.lt
      have i9 : (Tryd.prog.info? 24).map (·.size) = some 3 := by kernel_rfl
      go_wp2_with (first
        | (at_builtin; refine wpList_apps (w := w6.alloc (.cells #[] 3)) _ _ 22 3 (.int .i64 0) 8 rfl rfl Tryd.underlying22 Tryd.info3 rfl (by decide) w.heap.size (.slice (some ⟨w6.heap.size, 0, none⟩) 0 0) (.slice (some ⟨w2.heap.size, 0, none⟩) K 7) (([] : List Int).map (Value.int .i64)) ((pv D).take K) rfl ho7 rfl hrd hone hlt7 hbs7 ?_; intro v8 w8 hown8 hgr8 hnb8; obtain ⟨a8, c8, e8⟩ := hown8.len; rw [hlen8] at e8; subst e8; have hF8 := H7.out.1.kept hgr8 (fun e => by simp only [Value.ownBlock, Option.some.injEq] at e; have := H8L.out; omega); have t8 : w8.there w.heap.size 0 (#[Value.int .i64 (P : Int), Value.int .i64 (K : Int), Value.slice a8 K c8] : Array Value).size := hF8.there; have H8 := hid (And.intro hF8 (And.intro (H7.out.2.grown hgr8 hbs7 (fun k h => by simp only [Value.ownBlock, Option.some.injEq] at h; have := H8L.out; omega)) (And.intro hown8 hnb8))); clear hF8 hown8 hgr8 hnb8 ho7 hrd hone)
        | (refine wpList_store_mid rfl 24 _ _ rfl w.heap.size 0 #[Value.int .i64 (P : Int), Value.int .i64 (K : Int), Value.slice a8 K c8] rfl rfl t8 i9 (fld_one _ _ _ _ _) ?_; show wpList _ _ _ _ _ (w8.setCells w.heap.size 0 [Value.int .i64 (P : Int), Value.int .i64 (K : Int), Value.slice a8 K c8])))
      have hF9 : Arr (w8.setCells w.heap.size 0 [Value.int .i64 (P : Int), Value.int .i64 (K : Int), Value.slice a8 K c8]) w.heap.size 24 [Value.int .i64 (P : Int), Value.int .i64 (K : Int), Value.slice a8 K c8] := Arr.setCells [Value.int .i64 (P : Int), Value.int .i64 (K : Int), Value.slice a8 K c8] [] _ w8 H8.out.1 rfl
      have hg9 := grown_setCells (b := w.heap.size) [Value.int .i64 (P : Int), Value.int .i64 (K : Int), Value.slice a8 K c8] 0 w8
      have hb9 := H8.out.2.1.grown hg9 H8.out.2.1.size (fun k h => by cases h; exact Nat.le_refl _)
      have ho9 := H8.out.2.2.1.kept hg9 (.inr (fun e => by
        rcases H8.out.2.2.2 _ e with h | h
        · simp only [Value.ownBlock, Option.some.injEq] at h
          have := H8L.out; omega
        · have h5 := H8L.out
          rw [World.size_alloc] at h
          omega))
      have hld := run_loadVar_mid (P := Tryd.prog) _ _ _ 24 _ _ hF9.range Tryd.underlying24 rfl i9
      refine ⟨rfl, .tuple #[fldV P K (.slice a8 K c8), .int .i64 0], ?_, ⟨_, rfl, ?_⟩, hb9⟩
      · show ((results _ _).run _ _) = _
        simp [results, Tryd.f11, asAddr, hld, fldV]
      · unfold OI
        rw [← pv_nZ, ← HTN.out]
        have e : (pv D).take K = pv (D.take K) := by simp [pv, List.map_take]
        rw [← e]
        exact ho9
    · have HX := hid (And.intro H6.out.2.1 H6.out.2.2)
      go_wp2
      go_roundw
      case rel => exact ⟨n + 1, by omega, by go_num, HX.out.1, HX.out.2⟩
      case measure => simp [intOf] <;> omega
end Go.Proofs.YthdlhfgeminoiaaDoor
