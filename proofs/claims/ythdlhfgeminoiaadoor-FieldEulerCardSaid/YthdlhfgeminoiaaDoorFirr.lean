/-
  The walk over field.irreducible. Conditions: the order fits, all digits are below the prime.
-/
import Derived.Test.YthdlhfgeminoiaaDoorFdiv
namespace Go.Proofs.YthdlhfgeminoiaaDoor
set_option linter.unusedVariables false
open Go.RowKit

/-- The n-th divisor of degree g. -/
def dvN (P g n : Nat) : List Nat := (dgL P n 7).set g 1
def irD (P k : Nat) (lk : List Nat) (g : Nat) : Bool := (List.range (P ^ g)).all fun n => !(dvB P g k (dvN P g n) lk)
def irB (P k : Nat) (low : List Nat) : Bool := (List.range (k / 2)).all fun i => irD P k (low.set k 1) (i + 1)
theorem irD_no {P k g n : Nat} {lk : List Nat} (hn : n < P ^ g) (h : dvB P g k (dvN P g n) lk = true) : irD P k lk g = false := by
  rw [Bool.eq_false_iff]
  intro hc
  have := List.all_eq_true.1 hc n (List.mem_range.2 hn)
  rw [h] at this
  cases this
theorem irD_yes {P k g : Nat} {lk : List Nat} (h : ∀ n, n < P ^ g → dvB P g k (dvN P g n) lk = false) : irD P k lk g = true :=
  List.all_eq_true.2 fun n hn => by rw [h n (List.mem_range.1 hn)]; rfl
theorem irB_no {P k g : Nat} {low : List Nat} (h1 : 1 ≤ g) (h2 : 2 * g ≤ k) (h : irD P k (low.set k 1) g = false) : irB P k low = false := by
  rw [Bool.eq_false_iff]
  intro hc
  have := List.all_eq_true.1 hc (g - 1) (List.mem_range.2 (by omega))
  rw [show g - 1 + 1 = g by omega, h] at this
  cases this
theorem irB_yes {P k : Nat} {low : List Nat} (h : ∀ g, 1 ≤ g → 2 * g ≤ k → irD P k (low.set k 1) g = true) : irB P k low = true :=
  List.all_eq_true.2 fun i hi => h (i + 1) (by omega) (by have := List.mem_range.1 hi; omega)
theorem dvN_lt {P g n : Nat} (hP : 2 ≤ P) : ∀ j, (dvN P g n).getD j 0 < P := by
  refine getD_set_lt (fun j => ?_) (by omega)
  rw [List.getD_eq_getElem?_getD]
  by_cases h : j < 7
  · simp [dgL, h]
    exact Nat.mod_lt _ (by omega)
  · simp [dgL, h]
    omega
theorem dvN_len (P g n : Nat) : (dvN P g n).length = 7 := by simp [dvN, dgL]

set_option maxHeartbeats 1000000 in
set_option maxRecDepth 100000 in
theorem irreducible_ok (P k : Nat) (low : List Nat) (w : World) (hP : 2 ≤ P) (hP2 : P ≤ 64) (hk1 : 1 ≤ k) (hk6 : k ≤ 6) (hq : P ^ k ≤ 64) (hl : low.length = 7) (hlt : ∀ j, low.getD j 0 < P) :
    Calls Tryd.prog 37 #[.int .i64 P, .int .i64 k, .agg (pv low).toArray] w fun e w' => e = .returned (.bool (irB P k low)) ∧ Below w.heap.size w w' := by
  have hll : (low.set k 1).length = 7 := by rw [List.length_set, hl]
  have hs1 : (pv low).set k (Value.int .i64 1) = pv (low.set k 1) := pv_set low k 1
  have HS : Hid (Arr (w.alloc (.cells ((pv low).set k (Value.int .i64 1)).toArray 50)) w.heap.size 50 (pv (low.set k 1)) ∧ Below w.heap.size w (w.alloc (.cells ((pv low).set k (Value.int .i64 1)).toArray 50))) := hid ⟨by rw [hs1]; exact Arr.new w _ _, (Below.refl w.heap.size w).alloc (Nat.le_refl _) _⟩
  have hpk : (pv low)[k]? = some (.int .i64 ((low.getD k 0 : Nat) : Int)) := pv_get (by omega)
  have hlk : ∀ j, (low.set k 1).getD j 0 < P := getD_set_lt hlt (by omega)
  have HDIG := hid (fun n w1 (h : n < 128) => digits_ok P n w1 hP hP2 h)
  have HDIV := hid (fun g n w1 (h1 : 1 ≤ g) (h2 : g ≤ k) => fdivides_ok P g k (dvN P g n) (low.set k 1) w1 hP hP2 (dvN_len P g n) hll (dvN_lt hP) hlk h1 h2 hk6)
  have HDN := hid (fun g n h1 h => irD_no (P := P) (k := k) (g := g) (n := n) (lk := low.set k 1) h1 h)
  have HDY := hid (fun g h => irD_yes (P := P) (k := k) (g := g) (lk := low.set k 1) h)
  have HBN := hid (fun g h1 h2 h => irB_no (P := P) (k := k) (g := g) (low := low) h1 h2 h)
  have HBY := hid (fun h => irB_yes (P := P) (k := k) (low := low) h)
  have HPS : Hid (∀ i, P ^ (i + 1) = P ^ i * P) := hid fun i => rfl
  have HP0 : Hid (P ^ 0 = 1) := hid rfl
  have HPK : Hid (∀ i, i ≤ k → P ^ i ≤ 64) := hid (fun i hi => Nat.le_trans (Nat.pow_le_pow_right (by omega) hi) hq)
  have HDL7 : Hid (∀ n, (dgL P n 7).length = 7) := hid (fun n => dgL_len P n 7)
  have HDVN : Hid (∀ g n, (dgL P n 7).set g 1 = dvN P g n) := hid fun g n => rfl
  have HDVL := hid (fun g n => dvN_len P g n)
  have hk7 : (k : Int) < 7 := by omega
  generalize irB P k low = R at *
  obtain ⟨f, hf⟩ : ∃ f : Nat → Nat, f = fun i => P ^ i := ⟨_, rfl⟩
  have HF : Hid (∀ i, P ^ i = f i) := hid (fun i => by rw [hf])
  generalize low.set k 1 = lk at *
  generalize low.getD k 0 = old at *
  clear hf hlk hlt hq hs1
  go_enter Tryd.func37, Tryd.ntmps37
  go_wp2
  go_loopw [7, 8, 9, 10, 20, 27] (fun x _ _ _ _ _ wr => ∃ g : Nat, 1 ≤ g ∧ 2 * g ≤ k + 2 ∧ x = .int .i64 g ∧ Hid (∀ g', 1 ≤ g' → g' < g → irD P k lk g' = true) ∧ Arr wr w.heap.size 50 (pv lk) ∧ Below w.heap.size w wr) (fun x _ _ _ _ _ _ => k + 2 - (intOf x).toNat)
  case atStart => exact ⟨1, by omega, by omega, rfl, hid (fun g h1 h2 => by omega), HS.out.1, HS.out.2⟩
  case round =>
    clear HS hpk
    obtain ⟨g, hg1, hg2, rfl, hH, hA, hb⟩ := hrel
    by_cases hge : 2 * g ≤ k
    · have hgi : 2 * (g : Int) ≤ (k : Int) := by omega
      have HW := hid (And.intro hA hb)
      have HHH := hid hH.out
      clear hA hb hH
      go_wp2
      go_loop [8, 20] (fun q i => ∃ j : Nat, j ≤ g ∧ i = .int .i64 j ∧ q = .int .i64 (f j : Nat)) (fun _ i => g - (intOf i).toNat)
      case atStart => exact ⟨0, Nat.zero_le _, rfl, by rw [← HF.out, HP0.out]; rfl⟩
      case round =>
        obtain ⟨j, hj, rfl, rfl⟩ := hrel
        have hle := HPK.out j (by omega)
        rw [HF.out] at hle
        by_cases hjl : j < g
        · have hs := HPS.out j
          rw [HF.out, HF.out] at hs
          have hle2 := HPK.out (j + 1) (by omega)
          rw [HF.out] at hle2
          have n1 : (f j : Int) * (P : Int) = ((f (j + 1) : Nat) : Int) := by rw [hs]; simp
          have hji : (j : Int) < (g : Int) := by omega
          clear hs
          obtain ⟨y, hy⟩ : ∃ y, y = f (j + 1) := ⟨_, rfl⟩
          rw [← hy] at n1 hle2
          have HY := hid hy
          clear hy
          generalize f j = x at *
          go_wp2
          go_round
          case rel => exact ⟨j + 1, by omega, by go_num, by rw [HY.out]⟩
          case measure => simp [intOf] <;> omega
        · obtain rfl : j = g := by omega
          have hji : ¬ (j : Int) < (j : Int) := by omega
          go_wp2
          go_loopw [9, 10, 27] (fun _ _ i wq => ∃ n : Nat, n ≤ f j ∧ i = .int .i64 n ∧ Hid (∀ n', n' < n → dvB P j k (dvN P j n') lk = false) ∧ Arr wq w.heap.size 50 (pv lk) ∧ Below w.heap.size w wq) (fun _ _ i _ => f j - (intOf i).toNat)
          case atStart => exact ⟨0, Nat.zero_le _, rfl, hid (fun n h => by omega), HW.out.1, HW.out.2⟩
          case round =>
            clear HW
            obtain ⟨n, hn, rfl, hN, hA, hb⟩ := hrel
            by_cases hnl : n < f j
            · have hni : (n : Int) < (f j : Int) := by omega
              have HDG := hid (HDIG.out n wr (by omega))
              have HDD := hid (fun w1 => HDIV.out j n w1 hg1 (by omega))
              have HNN := hid (HDN.out j n (by rw [HF.out]; exact hnl))
              have HNX : Hid (dvB P j k (dvN P j n) lk = false → ∀ n', n' < n + 1 → dvB P j k (dvN P j n') lk = false) := hid (fun h n' hn' => by
                by_cases e : n' = n
                · rw [e]; exact h
                · exact hN.out n' (by omega))
              have HBNJ := hid (HBN.out j hg1 hge)
              have HA := hid (And.intro hA hb)
              have hd7 := HDL7.out n
              have hdvn := HDVN.out j n
              have hdl := HDVL.out j n
              have hj7 : (j : Int) < 7 := by omega
              have hj7' : j < 7 := by omega
              clear hN hA hb
              generalize dvB P j k (dvN P j n) lk = B at *
              generalize dvN P j n = DN at *
              generalize dgL P n 7 = D at *
              go_wp2_with fail
              refine HDG.out.mono ?_
              rintro e w2 ⟨rfl, hb2⟩
              have hA2 := HA.out.1.below hb2
              have hbb := HA.out.2.trans (hb2.mono HA.out.2.size)
              have hwz : w.heap.size < w2.heap.size := hA2.lt
              have hA3 := hA2.alloc (.cells (pv (List.replicate 7 0)).toArray 50)
              have hN3 : Arr (w2.alloc (.cells (pv (List.replicate 7 0)).toArray 50)) w2.heap.size 50 ([] ++ pv (List.replicate 7 0)) := Arr.new w2 _ _
              have t1 := hN3.there
              have t2 : (w2.alloc (.cells (pv (List.replicate 7 0)).toArray 50)).there w2.heap.size 0 (pv D).toArray.size := by
                rw [show (pv D).toArray.size = 7 from List.size_toArray.trans ((pv_len D).trans hd7)]
                exact t1
              have i2 : (Tryd.prog.info? 50).map (·.size) = some (pv D).toArray.size := by rw [show (pv D).toArray.size = 7 from List.size_toArray.trans ((pv_len D).trans hd7)]; kernel_rfl
              have hr4 : Arr ((w2.alloc (.cells (pv (List.replicate 7 0)).toArray 50)).setCells w2.heap.size 0 (pv D)) w2.heap.size 50 (pv D) := Arr.setCells (pv D) [] (pv (List.replicate 7 0)) _ hN3 (by rw [pv_len, pv_len, hd7, List.length_replicate])
              have hg4 := grown_setCells (b := w2.heap.size) (pv D) 0 (w2.alloc (.cells (pv (List.replicate 7 0)).toArray 50))
              have hA4 := hA3.kept hg4 (fun e => by have := Option.some.inj e; omega)
              have hb4 := (hbb.alloc hbb.size (.cells (pv (List.replicate 7 0)).toArray 50)).grown hg4 (Nat.le_trans hbb.size (by simp)) (fun k h => by cases h; omega)
              have H4 := hid (And.intro hr4 (And.intro hA4 hb4))
              have i5 : (Tryd.prog.info? 50).map (·.size) = some (pv DN).length := by rw [pv_len, hdl]; kernel_rfl
              have i6 : (Tryd.prog.info? 50).map (·.size) = some (pv lk).length := by rw [pv_len, hll]; kernel_rfl
              clear hA2 hbb hA3 hN3 t1 hr4 hg4 hA4 hb4 hb2
              go_wp2_with (first
                | (refine wpList_store_mid rfl 50 _ _ rfl w2.heap.size 0 (pv D).toArray rfl rfl t2 i2 (pv_one D) ?_; show wpList _ _ _ _ _ ((w2.alloc (.cells (pv (List.replicate 7 0)).toArray 50)).setCells w2.heap.size 0 (pv D)); generalize ((w2.alloc (.cells (pv (List.replicate 7 0)).toArray 50)).setCells w2.heap.size 0 (pv D)) = w4 at H4 ⊢; have c14 := H4.out.1.cell j; rw [pv_get (by omega)] at c14; have f14 := H4.out.1.frozen j; have q5 : Arr (w4.setCell ⟨w2.heap.size, j, none⟩ (.int .i64 1)) w2.heap.size 50 (pv DN) ∧ w4.grownBy (w4.setCell ⟨w2.heap.size, j, none⟩ (.int .i64 1)) (some w2.heap.size) := (by have := Arr.stored (w := w4) (b := w2.heap.size) (xs := pv D) H4.out.1 j (.int .i64 ((1 : Nat) : Int)); rw [pv_set, hdvn] at this; exact this); have q6 := H4.out.2.1.kept q5.2 (fun e => by have := Option.some.inj e; omega); have r5 := q5.1.range; have r6 := q6.range; have H5 := hid (And.intro q6 (H4.out.2.2.grown q5.2 H4.out.2.2.size (fun k h => by cases h; omega))); clear t2 i2 q5 q6)
                | (refine wpList_load_mid rfl 50 _ rfl w2.heap.size 0 rfl (pv DN) _ r5 Tryd.underlying50 rfl i5 ?_)
                | (refine wpList_load_mid rfl 50 _ rfl w.heap.size 0 rfl (pv lk) _ r6 Tryd.underlying50 rfl i6 ?_))
              refine (HDD.out _).mono ?_
              rintro e w6 ⟨rfl, hb6⟩
              have HX := hid (And.intro (H5.out.1.below hb6) (H5.out.2.trans (hb6.mono H5.out.2.size)))
              clear hb6 r5 r6 c14 f14
              cases B with
              | true =>
                have hR : R = false := HBNJ.out (HNN.out rfl)
                subst hR
                go_wp2
                go_ret
                exact ⟨rfl, HX.out.2⟩
              | false =>
                have HNX2 := hid (HNX.out rfl)
                go_wp2
                go_roundw
                case rel => exact ⟨n + 1, by omega, by go_num, HNX2, HX.out.1, HX.out.2⟩
                case measure => simp [intOf] <;> omega
            · obtain rfl : n = f j := by omega
              have HD := hid (HDY.out j (fun n' hn' => hN.out n' (by rw [← HF.out]; exact hn')))
              have HX := hid (And.intro hA hb)
              clear hA hb hN
              go_wp2
              go_roundw
              case rel =>
                refine ⟨j + 1, by omega, by omega, by go_num, hid (fun g' h1 h2 => ?_), HX.out.1, HX.out.2⟩
                by_cases e : g' = j
                · rw [e]; exact HD.out
                · exact HHH.out g' h1 (by omega)
              case measure => simp [intOf] <;> omega
    · have hgi : ¬ 2 * (g : Int) ≤ (k : Int) := by omega
      have hR : R = true := HBY.out (fun g' h1 h2 => hH.out g' h1 (by omega))
      subst hR
      have HX := hid hb
      clear hA hb hH
      go_wp2
      go_ret
      exact ⟨rfl, HX.out⟩
end Go.Proofs.YthdlhfgeminoiaaDoor
