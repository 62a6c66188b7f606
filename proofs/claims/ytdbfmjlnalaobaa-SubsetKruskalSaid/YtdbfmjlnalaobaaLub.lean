/-
  The walk over the law SubsetLubell; parterreref1.Factorial. Condition: the slice can be read.
-/
import Derived.Test.YtdbfmjlnalaobaaLym
import Derived.Test.YtdbfmjlnalaobaaSfact
import Derived.Test.YtdbfmjlnalaobaaSpair2
namespace Go.Proofs.Ytdbfmjlnalaobaa
set_option linter.unusedVariables false
open Go.RowKit

theorem facN_bd : ∀ n, n ≤ 12 → 1 ≤ facN n ∧ facN n ≤ 479001600 := by
  intro n hn
  have h : ∀ n, n < 13 → 1 ≤ facN n ∧ facN n ≤ 479001600 := by decide +kernel
  exact h n (by omega)
theorem factorialN_ok (n : Nat) (w : World) (hn : n ≤ 12) :
    Calls Try.prog 33 #[.int .i64 n] w fun e w' => e = .returned (.int .i64 (facN n : Nat)) ∧ w = w' := by
  have HF := hid facN_bd
  have H1 : Hid (∀ k, facN (k + 1) = (k + 1) * facN k) := hid (fun k => rfl)
  have H0 : Hid (facN 0 = 1 ∧ facN 1 = 1) := hid ⟨rfl, rfl⟩
  generalize facN = F at *
  go_enter Try.func33, Try.ntmps33
  go_wp2
  go_loop [3, 4] (fun f i => ∃ k : Nat, 1 ≤ k ∧ (k ≤ n ∨ k = 1) ∧ i = .int .i64 (k + 1 : Nat) ∧ f = .int .i64 (F k : Nat)) (fun _ i => n + 2 - (intOf i).toNat)
  case atStart => exact ⟨1, Nat.le_refl _, .inr rfl, rfl, by rw [H0.out.2]; rfl⟩
  case round =>
    obtain ⟨k, hk1, hk, rfl, rfl⟩ := hrel
    obtain ⟨b1, b2⟩ := HF.out k (by omega)
    by_cases hlt : k + 1 ≤ n
    · have HX : Hid (F (k + 1) = (k + 1) * F k) := hid (H1.out k)
      obtain ⟨b3, b4⟩ := HF.out (k + 1) (by omega)
      rw [HX.out] at b3 b4
      have hc : (((k + 1) * F k : Nat) : Int) = (F k : Int) * ((k : Int) + 1) := by rw [Int.natCast_mul, Int.mul_comm]; rfl
      have HC := hid hc
      have hb : 1 ≤ (F k : Int) * ((k : Int) + 1) ∧ (F k : Int) * ((k : Int) + 1) ≤ 479001600 := by omega
      clear hc b3 b4
      go_wp2
      go_round
      case rel => exact ⟨k + 1, by omega, by omega, by go_num, by rw [HX.out, HC.out]⟩
      case measure => simp [intOf] <;> omega
    · go_wp2
      go_ret
      refine ⟨?_, rfl⟩
      by_cases h0 : n = 0
      · obtain rfl : k = 1 := by omega
        rw [h0, H0.out.1, H0.out.2]; rfl
      · obtain rfl : k = n := by omega
        rfl

theorem popF_count : ∀ (f s : Nat), popF f s = cG (List.range f) s
  | 0, s => rfl
  | f + 1, s => by
    unfold cG
    rw [List.range_succ_eq_map, List.countP_cons, List.countP_map]
    have ih := popF_count f (s / 2)
    unfold cG at ih
    rw [show (s.testBit ∘ Nat.succ) = (s / 2).testBit by funext i; simp [Nat.testBit_succ], ← ih]
    simp only [popF, Nat.testBit_zero]
    by_cases h : s % 2 = 1
    · simp [h]; omega
    · have : s % 2 = 0 := by omega
      simp [this]
theorem cG_far {s n : Nat} (h : s < 2 ^ n) : ∀ f, n ≤ f → cG (List.range f) s = cG (List.range n) s
  | 0, hf => by rw [show n = 0 by omega]
  | f + 1, hf => by
    by_cases e : n = f + 1
    · rw [e]
    · have ih := cG_far h f (by omega)
      unfold cG at ih ⊢
      have hb : s.testBit f = false := Nat.testBit_lt_two_pow (Nat.lt_of_lt_of_le h (Nat.pow_le_pow_right (by omega) (by omega)))
      rw [List.range_succ, List.countP_append, ih]
      simp [hb]
theorem pop_count {s n : Nat} (hn : n ≤ 12) (h : s < 2 ^ n) : pop s = cG (List.range n) s := by
  show popF 13 s = _
  rw [popF_count, cG_far h 13 (by omega)]
theorem sub_and {n a b : Nat} (ha : a < 2 ^ n) (h : subG (List.range n) a b) : a &&& b = a := by
  apply Nat.eq_of_testBit_eq
  intro i
  rw [Nat.testBit_and]
  by_cases hi : i < n
  · cases hx : a.testBit i with
    | false => rfl
    | true => rw [h i (List.mem_range.2 hi) hx]; rfl
  · rw [Nat.testBit_lt_two_pow (Nat.lt_of_lt_of_le ha (Nat.pow_le_pow_right (by omega) (by omega)))]
    rfl
/-- The terms of the sum; the sum of the first k. -/
def lubT (n a : Nat) : Nat := facN (pop a) * facN (n - pop a)
def lubS (n : Nat) (F : Nat → Nat) (k : Nat) : Nat := sumA (lubT n) ((List.range k).map F)
theorem lubS_succ (n : Nat) (F : Nat → Nat) (k : Nat) : lubS n F (k + 1) = lubS n F k + lubT n (F k) := by simp [lubS, sumA, List.range_succ]
theorem lub_anti {l : List Int} {n N : Nat} {F : Nat → Nat} (hF : Fam n l F N) (hp : pairB F apartB N = true) : antiG (List.range n) ((List.range N).map F) := by
  unfold antiG
  rw [List.pairwise_map]
  refine List.Pairwise.imp_of_mem ?_ List.pairwise_lt_range
  intro i j hi hj hij
  have hj' := List.mem_range.1 hj
  have h1 := List.all_eq_true.1 hp j hj
  have h2 := List.all_eq_true.1 h1 i (List.mem_range.2 hij)
  simp only [apartB, Bool.and_eq_true, Bool.not_eq_true', beq_eq_false_iff_ne, ne_eq] at h2
  refine ⟨fun h => h2.2 ?_, fun h => h2.1 ?_⟩
  · rw [Nat.and_comm]; exact sub_and (hF.lt i (by omega)) h
  · exact sub_and (hF.lt j hj') h
theorem lub_le {l : List Int} {n N : Nat} {F : Nat → Nat} (hF : Fam n l F N) (hp : pairB F apartB N = true) : lubS n F N ≤ facN n := by
  have h := lym n (List.range n) _ List.nodup_range List.length_range (lub_anti hF hp)
  unfold lubS
  rw [sumA_congr (g := fun a => facN (cG (List.range n) a) * facN (n - cG (List.range n) a))]
  · exact h
  · intro a ha
    obtain ⟨i, hi, rfl⟩ := List.mem_map.1 ha
    unfold lubT
    rw [pop_count hF.n12 (hF.lt i (List.mem_range.1 hi))]
theorem mid_least : ∀ n, n < 13 → ∀ c, c < n + 1 → facN (n / 2) * facN (n - n / 2) ≤ facN c * facN (n - c) := by decide +kernel
theorem pop_le {n a : Nat} (hn : n ≤ 12) (h : a < 2 ^ n) : pop a ≤ n := by
  rw [pop_count hn h]
  have := cG_le (List.range n) a
  rwa [List.length_range] at this
theorem sperner {l : List Int} {n N : Nat} {F : Nat → Nat} (hF : Fam n l F N) (hp : pairB F apartB N = true) : N ≤ bin n (n / 2) := by
  have h1 := lub_le hF hp
  have h2 : N * (facN (n / 2) * facN (n - n / 2)) ≤ lubS n F N := by
    have := sumA_le (f := fun _ => facN (n / 2) * facN (n - n / 2)) (g := lubT n) (A := (List.range N).map F) (fun a ha => by
      obtain ⟨i, hi, rfl⟩ := List.mem_map.1 ha
      have hn := hF.n12
      exact mid_least n (by omega) _ (by have := pop_le hn (hF.lt i (List.mem_range.1 hi)); omega))
    rw [sumA_const, List.length_map, List.length_range] at this
    exact this
  have h3 := bin_fac n (n / 2) (by omega)
  rw [← h3] at h1
  exact Nat.le_of_mul_le_mul_right (Nat.le_trans h2 h1) (Nat.mul_pos (facN_pos _) (facN_pos _))
theorem lubT_bd {n a : Nat} (hn : n ≤ 12) (h : a < 2 ^ n) : lubT n a ≤ 479001600 := by
  unfold lubT
  exact Nat.le_trans (fac_le (pop_le hn h)) (facN_bd n hn).2
theorem lubS_bd {l : List Int} {n N : Nat} {F : Nat → Nat} (hF : Fam n l F N) : ∀ k, k ≤ N → lubS n F k ≤ k * 479001600
  | 0, _ => by rw [Nat.zero_mul]; exact Nat.le_refl 0
  | k + 1, hk => by
    have h1 := lubS_bd hF k (by omega)
    have h2 := lubT_bd hF.n12 (hF.lt k (by omega))
    rw [lubS_succ]
    omega

set_option maxHeartbeats 1000000 in
theorem subsetLubell_ok (w : World) (n : Nat) (v : Value) (l : List Int) (F : Nat → Nat) (N : Nat) (hl : Sl w v l) (hb : ∀ x ∈ l, I64 x) (hz : famE n l = 0) (hF : Fam n l F N) (hp : pairB F apartB N = true) :
    Calls Try.prog 7 #[.int .i64 n, v] w fun e w' => e = .returned (.bool true) ∧ Below w.heap.size w w' := by
  have HFA := hid (fact_any w)
  have HAP := hid (fun w1 (h : Below w.heap.size w w1) => Apart_ok n v l F N w1 (hl.below h) hb hz hF.fam)
  rw [hp] at HAP
  have hn := hF.n12
  have hNb := hF.le
  have HAT := hid hF.fam.at'
  have HBD := hid hF.fam.bd
  have HPL := hid (fun k (hk : k < N) => pop_le hn (hF.lt k hk))
  have HFN := hid (fun (m : Nat) (w1 : World) (hm : m ≤ 12) => factorialN_ok m w1 hm)
  have HTH := hid (fun (s : Nat) (w1 : World) (hs : s < 8192) => things_ok s w1 hs)
  have HLT := hid (fun k (hk : k < N) => lubT_bd hn (hF.lt k hk))
  have HLS := hid (lubS_bd hF)
  have HL1 := hid (lubS_succ n F)
  have HL0 : Hid (lubS n F 0 = 0) := hid rfl
  have HTT : Hid (∀ a, lubT n a = facN (pop a) * facN (n - pop a)) := hid (fun a => rfl)
  have hfin := lub_le hF hp
  have hsp := sperner hF hp
  have HW := hid (fun w1 => Ways_ok n (n / 2) w1 (by omega) (by omega))
  have hbw := bin61 n (n / 2) (by omega)
  have hfb := facN_bd n hn
  have HFB := hid facN_bd
  obtain ⟨a, cp, N', rfl, hN, hl1, hl2⟩ := hl.open
  obtain rfl : N' = N := by rw [← hN.out, hF.fam.len]
  have hnd : (n : Int).tdiv 2 = ((n / 2 : Nat) : Int) := (Int.ofNat_tdiv n 2).symm
  clear hF hp hz hb hl
  generalize lubS n F = LS at *
  generalize lubT n = LT at *
  generalize bin n (n / 2) = bw at *
  go_enter Try.func7, Try.ntmps7
  go_wp2_with fail
  refine HFA.out.mono ?_
  rintro e w1 ⟨rfl, hb1⟩
  have B1 := hid hb1
  clear hb1
  go_wp2_with fail
  refine (HAP.out _ B1.out).mono ?_
  rintro e w2 ⟨rfl, hb2⟩
  have B2 := hid (B1.out.trans (hb2.mono B1.out.size))
  clear hb2
  go_wp2_with fail
  refine (HFN.out n w2 hn).mono ?_
  rintro e w3 ⟨rfl, rfl⟩
  go_wp2
  go_loopw [9, 10] (fun o i wr => ∃ k : Nat, k ≤ N' ∧ i = .int .i64 k ∧ o = .int .i64 (LS k : Nat) ∧ wr = w2) (fun _ i _ => N' - (intOf i).toNat)
  case atStart => exact ⟨0, Nat.zero_le _, rfl, by rw [HL0.out]; rfl, rfl⟩
  case round =>
    obtain ⟨k, hk, rfl, rfl, rfl⟩ := hrel
    by_cases hlt : k < N'
    · obtain ⟨b, off, rfl, hblt, hc⟩ := hl2 (by omega)
      have c1 := (B2.out.cell (p := ⟨b, off + k, none⟩) hblt).trans (hc k hlt)
      rw [HAT.out k hlt] at c1
      have hx := HBD.out k hlt
      have hpl := HPL.out k hlt
      have hT := hid (HTH.out (F k) wr (by omega))
      have hF1 := hid (HFN.out (pop (F k)) wr (by omega))
      have hF2 := hid (HFN.out (n - pop (F k)) wr (by omega))
      have hlt1 := HLT.out k hlt
      have hls := HLS.out k hk
      have HL1K := hid (HL1.out k)
      have hmul : (facN (pop (F k)) : Int) * (facN (n - pop (F k)) : Int) = (LT (F k) : Int) := by rw [HTT.out, Int.natCast_mul]
      have hsub : (n : Int) - (pop (F k) : Int) = ((n - pop (F k) : Nat) : Int) := by omega
      clear hc hl2
      generalize facN (pop (F k)) = f1 at *
      generalize facN (n - pop (F k)) = f2 at *
      generalize LT (F k) = t at *
      obtain ⟨nd, hnd2⟩ : ∃ nd, nd = n - pop (F k) := ⟨_, rfl⟩
      rw [← hnd2] at hF2 hsub
      clear hnd2
      generalize pop (F k) = pk at *
      generalize F k = x at *
      go_wp2_with fail
      refine hT.out.mono ?_
      rintro e w4 ⟨rfl, rfl⟩
      go_wp2_with fail
      refine hF1.out.mono ?_
      rintro e w4 ⟨rfl, rfl⟩
      go_wp2_with fail
      refine hF2.out.mono ?_
      rintro e w4 ⟨rfl, rfl⟩
      go_wp2
      go_roundw
      case rel => exact ⟨k + 1, by omega, by go_num, by rw [HL1K.out]; go_num, by trivial⟩
      case measure => simp [intOf] <;> omega
    · obtain rfl : k = N' := by omega
      have HWW := hid (HW.out wr)
      have hc1 : (LS k : Int) ≤ (facN n : Int) := by omega
      have hc2 : (k : Int) ≤ (bw : Int) := by omega
      clear hl2
      generalize facN n = fn at *
      generalize LS k = sk at *
      go_wp2_with fail
      refine HWW.out.mono ?_
      rintro e w4 ⟨rfl, hb4⟩
      have B4 := hid (B2.out.trans (hb4.mono B2.out.size))
      clear hb4
      go_wp2
      go_ret
      exact ⟨rfl, B4.out⟩

theorem subsetLubell_walk (w : World) (n : Int) (_ : I64 n) (v : Value) (l : List Int) (hl : Sl w v l) (hb : ∀ x ∈ l, I64 x) :
    Calls Try.prog 7 #[.int .i64 n, v] w fun e w' => e = .returned (.bool true) ∧ Below w.heap.size w w' := by
  by_cases hz : famE n l = 0
  · obtain ⟨m, rfl, hF⟩ := fam_of hz
    obtain ⟨F, hFx⟩ : ∃ F : Nat → Nat, F = fun k : Nat => (l[k]?.getD (0 : Int)).toNat := ⟨_, rfl⟩
    rw [← hFx] at hF
    clear hFx
    cases hp : pairB F apartB l.length with
    | true => exact subsetLubell_ok w m v l F l.length hl hb hz hF hp
    | false =>
      have HFA := hid (fact_any w)
      have HAP := hid (fun w1 (h : Below w.heap.size w w1) => Apart_ok m v l F l.length w1 (hl.below h) hb hz hF.fam)
      rw [hp] at HAP
      clear hp hF hz hb hl
      go_enter Try.func7, Try.ntmps7
      go_wp2_with fail
      refine HFA.out.mono ?_
      rintro e w1 ⟨rfl, hb1⟩
      have B1 := hid hb1
      clear hb1
      go_wp2_with fail
      refine (HAP.out _ B1.out).mono ?_
      rintro e w2 ⟨rfl, hb2⟩
      have B2 := hid (B1.out.trans (hb2.mono B1.out.size))
      clear hb2
      go_wp2
      go_ret
      exact ⟨rfl, B2.out⟩
  · have HFA := hid (fact_any w)
    have HAP := hid (fun w1 (h : Below w.heap.size w w1) => Apart_bad n v l w1 (hl.below h) hb hz)
    have qz1 : (famE n l != 0) = true := by simpa using hz
    clear hz hb hl
    generalize famE n l = z at *
    go_enter Try.func7, Try.ntmps7
    go_wp2_with fail
    refine HFA.out.mono ?_
    rintro e w1 ⟨rfl, hb1⟩
    have B1 := hid hb1
    clear hb1
    go_wp2_with fail
    refine (HAP.out _ B1.out).mono ?_
    rintro e w2 ⟨rfl, hb2⟩
    have B2 := hid (B1.out.trans (hb2.mono B1.out.size))
    clear hb2
    go_wp2
    go_ret
    exact ⟨rfl, B2.out⟩
end Go.Proofs.Ytdbfmjlnalaobaa
