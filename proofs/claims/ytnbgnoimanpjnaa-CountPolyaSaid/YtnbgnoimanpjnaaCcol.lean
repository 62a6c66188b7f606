/-
  The walk over count.Colourings. Conditions: the slices can be read; numbers of 64 bits.
-/
import Derived.Test.YtnbgnoimanpjnaaCsum
namespace Go.Proofs.Ytnbgnoimanpjnaa
set_option linter.unusedVariables false
open Go.RowKit Go.Maps

theorem sumN_mono (g : Nat → Nat) {a b : Nat} (h : a ≤ b) : sumN g a ≤ sumN g b := by
  induction b with
  | zero => rw [show a = 0 by omega]; exact Nat.le_refl _
  | succ b ih =>
    by_cases e : a = b + 1
    · rw [e]; exact Nat.le_refl _
    · have := ih (by omega)
      simp only [sumN]
      omega
/-- One more factor. -/
theorem pw_step (c k e : Nat) : c * k ^ e * k = c * k ^ (e + 1) := by rw [Nat.pow_succ, Nat.mul_assoc]
theorem pw_le {c k e E : Nat} (hk : 1 ≤ k) (h : e ≤ E) : c * k ^ e ≤ c * k ^ E := Nat.mul_le_mul (Nat.le_refl _) (Nat.pow_le_pow_right hk h)

theorem col_bad (n k : Int) (v : Value) (ll : List (List Int)) (w : World) (hl : RL w v ll) (hE : grpE n ll ≠ 0) :
    Calls Try.prog 43 #[.int .i64 n, v, .int .i64 k] w fun e w' => e = .returned (.tuple #[.int .i64 0, .int .i64 (grpE n ll)]) ∧ Below w.heap.size w w' := by
  have HO := hid (kinds_bad n v ll w hl hE)
  obtain ⟨a, c, N, rfl, hN, hc1, hc2⟩ := hl.open
  have hb : (grpE n ll != 0) = true := bne_iff_ne.2 hE
  clear hE hl hc2
  generalize grpE n ll = E at *
  go_enter Try.func43, Try.ntmps43
  go_wp2_with fail
  refine HO.out.mono ?_
  rintro e w1 ⟨rfl, hb1⟩
  have HB := hid hb1
  clear hb1
  go_wp2
  go_ret2
  exact ⟨rfl, HB.out⟩

theorem col_far (n : Nat) (k : Int) (v : Value) (ll : List (List Int)) (w : World) (hl : RL w v ll) (hE : grpE (n : Int) ll = 0) (hk : k < 1 ∨ 200 < k) :
    Calls Try.prog 43 #[.int .i64 n, v, .int .i64 k] w fun e w' => e = .returned (.tuple #[.int .i64 0, .int .i64 1]) ∧ Below w.heap.size w w' := by
  have HO := hid (kinds_ok n v ll w hl hE)
  obtain ⟨a, c, N, rfl, hN, hc1, hc2⟩ := hl.open
  clear hE hl hc2
  generalize GL n (msL n ll) = L at *
  generalize skS n L L.length = SK at *
  generalize ckN n L L.length = CK at *
  generalize L.length = M at *
  go_enter Try.func43, Try.ntmps43
  go_wp2_with fail
  refine HO.out.mono ?_
  rintro e w1 ⟨⟨b, rfl, _, hkc⟩, hb1⟩
  have HB := hid hb1
  clear hb1 hkc
  rcases hk with hk | hk
  · go_wp2
    go_ret2
    exact ⟨rfl, HB.out⟩
  · by_cases hk1 : k < 1
    · omega
    · go_wp2
      go_ret2
      exact ⟨rfl, HB.out⟩

set_option maxHeartbeats 4000000 in
set_option maxRecDepth 100000 in
theorem col_ok (n k : Nat) (v : Value) (ll : List (List Int)) (w : World) (hl : RL w v ll) (hE : grpE (n : Int) ll = 0) (hk1 : 1 ≤ k) (hk : k ≤ 200) :
    Calls Try.prog 43 #[.int .i64 n, v, .int .i64 k] w fun e w' => e = .returned (.tuple #[.int .i64 (colS n (GL n (msL n ll)) k / (GL n (msL n ll)).length : Nat), .int .i64 0]) ∧ Below w.heap.size w w' := by
  have HO := hid (kinds_ok n v ll w hl hE)
  obtain ⟨n', hn', hG⟩ := gok_of hE
  obtain rfl : n = n' := by omega
  have hn7 := hG.n7
  have hlen := GL_len9 hG
  have hfb := fac7 n hn7
  have hLm := GL_mv hG
  have hnd := GL_nodup n (msL n ll)
  obtain ⟨a, c, N, rfl, hN, hc1, hc2⟩ := hl.open
  clear hE hl hc2 hG hn'
  generalize GL n (msL n ll) = L at *
  have hbd := colS_bd hn7 hLm hnd (by omega) hk1 hk
  have HSUM := hid (sum_col (n := n) (L := L) k)
  have HTE := hid (fun (T : List (List Int)) y (h : y ∈ T) => sum_erase (fun y => cnN n L y * k ^ cyI y) T h)
  have HTM := hid (fun (T : List (List Int)) y (h : y ∈ T) => sum_mem (fun y => cnN n L y * k ^ cyI y) T h)
  have HSK := hid (fun y (h : y ∈ skS n L L.length) => skS_of h)
  have HCK := hid (fun y => ckN_all (n := n) (L := L) y)
  have HM1 : L.length ≠ 0 := by omega
  generalize colS n L k = TOT at *
  generalize skS n L L.length = SK at *
  generalize ckN n L L.length = CK at *
  generalize L.length = M at *
  go_enter Try.func43, Try.ntmps43
  have hk1i : ¬ (k : Int) < 1 := by omega
  have hk2i : ¬ (200 : Int) < (k : Int) := by omega
  go_wp2_with fail
  refine HO.out.mono ?_
  rintro e w1 ⟨⟨b, rfl, hbs, hkc⟩, hb1⟩
  have H1 := hid (And.intro hkc hb1)
  clear hkc hb1
  go_wp2_with (first
    | (at_range; refine wpList_krange rfl _ rfl rfl H1.out.1 ?_; intro w2 cnt2 hrg2 hg2 hz2)
    | fail)
  go_frame
  have hR : Below w.heap.size w w2 := H1.out.2.grown hg2 H1.out.2.size (fun b e => by cases e)
  have H2 := hid (And.intro hrg2 hR)
  have hw1 : w1.heap.size < w2.heap.size := by omega
  have hwr := H1.out.2.size
  clear hrg2 hR hg2 hz2
  go_loopw [11] (fun s wr => ∃ (T : List (List Int)) (cnt sv : Nat), s = .int .i64 (sv : Nat) ∧ KR wr b w1.heap.size (3 * M) T CK cnt ∧ Hid (∀ y ∈ T, y ∈ SK) ∧ Hid (sv + (T.map fun y => cnN n L y * k ^ cyI y).sum = TOT) ∧ Below w.heap.size w wr) (fun _ wr => wr.rangeLeft b w1.heap.size)
  case atStart => exact ⟨SK, _, 0, rfl, H2.out.1, hid (fun y h => h), hid (by rw [HSUM.out, Nat.zero_add]), H2.out.2⟩
  case round =>
    clear H2 H1
    obtain ⟨T, cnt, sv, rfl, hrg, HT, HSV, hb⟩ := hrel
    have HI := hid (And.intro hrg hb)
    clear hrg hb
    go_wp2_with (first
      | (at_next; refine wpList_knext rfl _ rfl rfl HI.out.1 ?_ ?_)
      | fail)
    · intro hT
      have hsv := HSV.out
      rw [hT] at hsv
      simp only [List.map_nil, List.sum_nil, Nat.add_zero] at hsv
      have HB := hid HI.out.2
      clear HI HSV HT
      subst hsv
      have hM0 : (M : Int) ≠ 0 := by omega
      have hq : wrap64 (((sv : Nat) : Int) / ((M : Nat) : Int)) = ((sv / M : Nat) : Int) := by
        have hz := Nat.div_le_self sv M
        rw [← Int.natCast_ediv]
        generalize sv / M = z at hz ⊢
        exact IntWalk.wrap64_in _ (by omega)
      go_wp2
      go_ret2
      refine ⟨?_, HB.out⟩
      show Ending.returned (.tuple #[.int .i64 (wrap64 (((sv : Nat) : Int) / ((M : Nat) : Int))), .int .i64 0]) = _
      rw [hq]
    · intro y w3 cnt3 hy hrg3 hlt3 hg3 hz3 hen
      obtain ⟨f, hf, hf7⟩ : ∃ f : Nat → Nat, y = kdI f ∧ ∀ i, f i ≤ 7 := by
        obtain ⟨x, _, e⟩ := HSK.out y (HT.out y hy)
        exact ⟨_, e, fun i => Nat.le_trans (kd_le x n n i) hn7⟩
      have HF7 := hid hf7
      have hcyf : cyI y = sumN f 8 := by
        rw [hf]
        exact sumN_congr 8 fun i hi => by simp [kdI, hi]
      have hkf : kF y = .agg (kdC f).toArray := by rw [hf]; rfl
      rw [HCK.out, hkf] at hen
      have hte := HTE.out T y hy
      have htm := HTM.out T y hy
      have hsv := HSV.out
      simp only [hcyf] at hte htm
      obtain ⟨cn, hcn⟩ : ∃ cn, cnN n L y = cn := ⟨_, rfl⟩
      rw [hcn] at hte htm hen
      have HPB : Hid (∀ e, e ≤ sumN f 8 → cn * k ^ e ≤ 400000000000000000) := hid (fun e he => by
        have := pw_le (c := cn) hk1 he
        omega)
      have HSM := hid (fun a b h => sumN_mono f (a := a) (b := b) h)
      have hw3 : w1.heap.size < w3.heap.size := by
        have := HI.out.2.size
        have := hrg3.lt.2
        omega
      have hb3 := HI.out.2.grown hg3 HI.out.2.size (fun b e => by cases e; exact hwr)
      have HTY : Hid (∀ z ∈ T.erase y, z ∈ SK) := hid (fun z hz => HT.out z (List.mem_of_mem_erase hz))
      have HSV2 : Hid (sv + cn * k ^ sumN f 8 + ((T.erase y).map fun y => cnN n L y * k ^ cyI y).sum = TOT) := hid (by omega)
      have hsvb : sv + cn * k ^ sumN f 8 ≤ 400000000000000000 := by have := HSV2.out; omega
      have HAZ := hid (Arr.new w3 85 (kdC fun _ => 0))
      have HI3 := hid (And.intro hrg3 hb3)
      have ix : (Try.prog.info? 85).map (·.size) = some (kdC f).length := by rw [kdC_len]; kernel_rfl
      have h1c := kdC_one f
      have hll : (kdC fun _ => 0).length = (kdC f).length := by rw [kdC_len, kdC_len]
      have hP0 : Hid (cn * k ^ sumN f 0 = cn) := hid (by rw [sumN, Nat.pow_zero, Nat.mul_one])
      have HGX : Hid (∀ q, q < 8 → (kdC f)[q]? = some (.int .i64 ((f q : Nat) : Int))) := hid (fun q hq => kdC_get hq)
      have hmeas : w3.rangeLeft b w1.heap.size < wr.rangeLeft b w1.heap.size := by rw [HI3.out.1.left_eq, HI.out.1.left_eq]; exact hlt3
      clear HI hrg3 hb3 hg3 hz3 hkf hte htm hsv HSV HT hcyf hcn hy hlt3
      generalize hcs : kdC f = cs at *
      go_wp2_with (first
        | (refine wpList_store_arr rfl 85 _ _ rfl w3.heap.size cs rfl rfl HAZ.out hll ix h1c ?_
           intro w5 hA5 hg5
           have hB5 : Below w3.heap.size w3 w5 := ((Below.refl _ _).alloc (Nat.le_refl _) _).grown hg5 (by simp) (fun b e => by cases e; exact Nat.le_refl _)
           have H5 := hid (And.intro hA5 hB5)
           have r5 := hA5.range
           clear hA5 hg5 hB5)
        | (refine wpList_load_mid rfl 85 _ rfl w3.heap.size 0 rfl cs _ r5 Try.underlying85 rfl ix ?_; clear r5)
        | fail)
      have HB5 := hid (And.intro (HI3.out.1.below H5.out.2) (HI3.out.2.trans (H5.out.2.mono HI3.out.2.size)))
      have hmeas5 : w5.rangeLeft b w1.heap.size < wr.rangeLeft b w1.heap.size := by rw [HB5.out.1.left_eq, ← HI3.out.1.left_eq]; exact hmeas
      clear HI3 HAZ
      go_loopw [13, 15, 42, 46] (fun v13 _ v42 _ wq => ∃ q : Nat, v42 = .int .i64 q ∧ q ≤ 8 ∧ v13 = .int .i64 (cn * k ^ sumN f q : Nat) ∧ wq = w5) (fun _ _ v42 _ _ => 8 - (intOf v42).toNat)
      case atStart => exact ⟨0, rfl, Nat.zero_le _, by rw [hP0.out], rfl⟩
      case round =>
        obtain ⟨q, rfl, hq, rfl, hw⟩ := hrel
        subst hw
        by_cases hql : q < 8
        · have hqi : (q : Int) < 8 := by omega
          have hgx := HGX.out q hql
          have hix := fun w => run_index_arr (P := Try.prog) Try.underlying85 Try.sizeOf3 Try.isAgg3 hql hgx w
          have HFQ : Hid (sumN f (q + 1) = sumN f q + f q) := hid rfl
          have hmono := HSM.out (q + 1) 8 hql
          rw [HFQ.out] at hmono
          have hfq7 := HF7.out q
          obtain ⟨fq, hfq⟩ : ∃ fq, f q = fq := ⟨_, rfl⟩
          rw [hfq] at hmono hix hgx HFQ hfq7
          obtain ⟨sq, hsq⟩ : ∃ sq, sumN f q = sq := ⟨_, rfl⟩
          rw [hsq] at hmono HFQ ⊢
          clear hfq hsq
          have HPB2 := hid (fun e (he : e ≤ sq + fq) => HPB.out e (by omega))
          have HPS : Hid (∀ e, cn * k ^ e * k = cn * k ^ (e + 1)) := hid (fun e => pw_step cn k e)
          obtain ⟨PW, hpw⟩ : ∃ PW : Nat → Nat, ∀ e, cn * k ^ e = PW e := ⟨_, fun e => rfl⟩
          have HPW := hid hpw
          simp only [hpw] at HPB2 HPS ⊢
          clear hpw
          go_wp2_with fail
          go_loopw [13, 46] (fun v13 v46 wq => ∃ t : Nat, v46 = .int .i64 t ∧ t ≤ fq ∧ v13 = .int .i64 (PW (sq + t) : Nat) ∧ wq = wr) (fun _ v46 _ => fq - (intOf v46).toNat)
          case atStart => exact ⟨0, rfl, Nat.zero_le _, by rw [Nat.add_zero], rfl⟩
          case round =>
            obtain ⟨t, rfl, ht, rfl, hw⟩ := hrel
            subst hw
            by_cases htl : t < fq
            · have hti : (t : Int) < (fq : Int) := by omega
              have hb1 := HPB2.out (sq + t) (by omega)
              have hb2 := HPB2.out (sq + t + 1) (by omega)
              have hmul : ((PW (sq + t) : Nat) : Int) * (k : Int) = ((PW (sq + t + 1) : Nat) : Int) := by rw [← HPS.out, Int.natCast_mul]
              have HE : Hid (sq + (t + 1) = sq + t + 1) := hid (by omega)
              go_wp2
              go_roundw
              case rel => exact ⟨t + 1, by go_num, by omega, by rw [HE.out], trivial⟩
              case measure => simp [intOf] <;> omega
            · obtain rfl : t = fq := by omega
              have hti : ¬ (t : Int) < (t : Int) := by omega
              go_wp2
              go_roundw
              case rel => exact ⟨q + 1, by go_num, by omega, by rw [HFQ.out], trivial⟩
              case measure => simp [intOf] <;> omega
        · obtain rfl : q = 8 := by omega
          have hqi : ¬ ((8 : Nat) : Int) < 8 := by omega
          have HE : Hid (sv + cn * k ^ sumN f 8 + ((T.erase y).map fun y => cnN n L y * k ^ cyI y).sum = TOT) := HSV2
          generalize cn * k ^ sumN f 8 = add at *
          go_wp2
          go_roundw
          case rel => exact ⟨T.erase y, cnt3, sv + add, by go_num, HB5.out.1, HTY, HE, HB5.out.2⟩
          case measure => exact hmeas5
end Go.Proofs.Ytnbgnoimanpjnaa
