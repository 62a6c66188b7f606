/-
  The walks over recur.power and parterreref1.States, Number, PeriodOf. Conditions: the slices can be read; ranges as each theorem states.
-/
import Derived.Test.YtlnfkkapepgilaaPer
import Derived.Test.YtlnfkkapepgilaaRrow
namespace Go.Proofs.Ytlnfkkapepgilaa
set_option linter.unusedVariables false
open Go.RowKit

theorem rpower_ok (p z : Int) (k : Nat) (w : World) (hp : 2 ≤ p) (hp7 : p ≤ 7) (hz : z ≤ 20000) (h : p ^ k ≤ z) (hk : k ≤ 9223372036854775807) :
    Calls Try.prog 46 #[.int .i64 p, .int .i64 k, .int .i64 z] w fun e w' => e = .returned (.tuple #[.int .i64 (p ^ k), .bool true]) ∧ w = w' := by
  have HP := hid (fun j (hj : j ≤ k) => Int.le_trans (pow_le' (p := p) (by omega) hj) h)
  obtain ⟨r, hr⟩ : ∃ r, r = p ^ k := ⟨_, rfl⟩
  rw [← hr]
  have HR := hid hr
  clear hr h
  go_enter Try.func46, Try.ntmps46
  go_wp2
  go_loop [8, 10] (fun o i => ∃ (j : Nat) (q : Int), j ≤ k ∧ i = .int .i64 j ∧ o = .int .i64 q ∧ Hid (q = p ^ j) ∧ 1 ≤ q ∧ q ≤ 20000) (fun _ i => k - (intOf i).toNat)
  case atStart => exact ⟨0, 1, Nat.zero_le _, rfl, rfl, hid (by simp), by omega, by omega⟩
  case round =>
    obtain ⟨j, q, hj, rfl, rfl, hq, hq1, hq2⟩ := hrel
    by_cases hlt : j < k
    · have h1 := HP.out (j + 1) hlt
      rw [Int.pow_succ, ← hq.out] at h1
      have h2 : 1 * 1 ≤ q * p := Int.mul_le_mul hq1 (by omega) (by omega) (by omega)
      go_wp2
      go_round
      case rel => exact ⟨j + 1, q * p, by omega, by go_num, rfl, hid (by rw [Int.pow_succ, hq.out]), by omega, by omega⟩
      case measure => simp [intOf] <;> omega
    · obtain rfl : j = k := by omega
      obtain rfl : q = r := by rw [hq.out, HR.out]
      go_wp2
      go_ret2
      exact ⟨rfl, rfl⟩
theorem rpower_no (p z : Int) (k : Nat) (w : World) (hp : 2 ≤ p) (hp7 : p ≤ 7) (hz1 : 1 ≤ z) (hz : z ≤ 20000) (h : ¬ p ^ k ≤ z) (hk : k ≤ 9223372036854775807) :
    Calls Try.prog 46 #[.int .i64 p, .int .i64 k, .int .i64 z] w fun e w' => e = .returned (.tuple #[.int .i64 0, .bool false]) ∧ w = w' := by
  have H := hid h
  clear h
  go_enter Try.func46, Try.ntmps46
  go_wp2
  go_loop [8, 10] (fun o i => ∃ (j : Nat) (q : Int), j ≤ k ∧ i = .int .i64 j ∧ o = .int .i64 q ∧ Hid (q = p ^ j) ∧ 1 ≤ q ∧ q ≤ z) (fun _ i => k - (intOf i).toNat)
  case atStart => exact ⟨0, 1, Nat.zero_le _, rfl, rfl, hid (by simp), by omega, by omega⟩
  case round =>
    obtain ⟨j, q, hj, rfl, rfl, hq, hq1, hq2⟩ := hrel
    by_cases hlt : j < k
    · have h2 : 1 * 1 ≤ q * p := Int.mul_le_mul hq1 (by omega) (by omega) (by omega)
      have h3 : q * p ≤ 20000 * 7 := Int.mul_le_mul (by omega) hp7 (by omega) (by omega)
      by_cases h1 : z < q * p
      · go_wp2
        go_ret2
        exact ⟨rfl, rfl⟩
      · go_wp2
        go_round
        case rel => exact ⟨j + 1, q * p, by omega, by go_num, rfl, hid (by rw [Int.pow_succ, hq.out]), by omega, by omega⟩
        case measure => simp [intOf] <;> omega
    · exfalso
      obtain rfl : j = k := by omega
      have := H.out
      rw [← hq.out] at this
      omega
theorem states_ok (p z : Int) (k : Nat) (w : World) (hp : 2 ≤ p) (hp7 : p ≤ 7) (hz : z ≤ 20000) (h : p ^ k ≤ z) (hk : k ≤ 9223372036854775807) :
    Calls Try.prog 32 #[.int .i64 p, .int .i64 k, .int .i64 z] w fun e w' => e = .returned (.int .i64 (p ^ k)) ∧ w = w' := by
  have HP := hid (fun j (hj : j ≤ k) => Int.le_trans (pow_le' (p := p) (by omega) hj) h)
  obtain ⟨r, hr⟩ : ∃ r, r = p ^ k := ⟨_, rfl⟩
  rw [← hr]
  have HR := hid hr
  clear hr h
  go_enter Try.func32, Try.ntmps32
  go_wp2
  go_loop [7, 8] (fun o i => ∃ (j : Nat) (q : Int), j ≤ k ∧ i = .int .i64 j ∧ o = .int .i64 q ∧ Hid (q = p ^ j) ∧ 1 ≤ q ∧ q ≤ 20000) (fun _ i => k - (intOf i).toNat)
  case atStart => exact ⟨0, 1, Nat.zero_le _, rfl, rfl, hid (by simp), by omega, by omega⟩
  case round =>
    obtain ⟨j, q, hj, rfl, rfl, hq, hq1, hq2⟩ := hrel
    by_cases hlt : j < k
    · have h1 := HP.out (j + 1) hlt
      rw [Int.pow_succ, ← hq.out] at h1
      have h2 : 1 * 1 ≤ q * p := Int.mul_le_mul hq1 (by omega) (by omega) (by omega)
      go_wp2
      go_round
      case rel => exact ⟨j + 1, q * p, by omega, by go_num, rfl, hid (by rw [Int.pow_succ, hq.out]), by omega, by omega⟩
      case measure => simp [intOf] <;> omega
    · obtain rfl : j = k := by omega
      obtain rfl : q = r := by rw [hq.out, HR.out]
      go_wp2
      go_ret
      exact ⟨rfl, rfl⟩
theorem states_no (p z : Int) (k : Nat) (w : World) (hp : 2 ≤ p) (hp7 : p ≤ 7) (hz1 : 1 ≤ z) (hz : z ≤ 20000) (h : ¬ p ^ k ≤ z) (hk : k ≤ 9223372036854775807) :
    Calls Try.prog 32 #[.int .i64 p, .int .i64 k, .int .i64 z] w fun e w' => e = .returned (.int .i64 0) ∧ w = w' := by
  have H := hid h
  clear h
  go_enter Try.func32, Try.ntmps32
  go_wp2
  go_loop [7, 8] (fun o i => ∃ (j : Nat) (q : Int), j ≤ k ∧ i = .int .i64 j ∧ o = .int .i64 q ∧ Hid (q = p ^ j) ∧ 1 ≤ q ∧ q ≤ z) (fun _ i => k - (intOf i).toNat)
  case atStart => exact ⟨0, 1, Nat.zero_le _, rfl, rfl, hid (by simp), by omega, by omega⟩
  case round =>
    obtain ⟨j, q, hj, rfl, rfl, hq, hq1, hq2⟩ := hrel
    by_cases hlt : j < k
    · have h2 : 1 * 1 ≤ q * p := Int.mul_le_mul hq1 (by omega) (by omega) (by omega)
      have h3 : q * p ≤ 20000 * 7 := Int.mul_le_mul (by omega) hp7 (by omega) (by omega)
      by_cases h1 : z < q * p
      · go_wp2
        go_ret
        exact ⟨rfl, rfl⟩
      · go_wp2
        go_round
        case rel => exact ⟨j + 1, q * p, by omega, by go_num, rfl, hid (by rw [Int.pow_succ, hq.out]), by omega, by omega⟩
        case measure => simp [intOf] <;> omega
    · exfalso
      obtain rfl : j = k := by omega
      have := H.out
      rw [← hq.out] at this
      omega

theorem number_ok (p : Int) (v : Value) (l : List Int) (w : World) (hv : Sl w v l) (hp : 2 ≤ p) (hp7 : p ≤ 7) (hl : ∀ x ∈ l, 0 ≤ x ∧ x < p) (hz : p ^ l.length ≤ 20000) :
    Calls Try.prog 33 #[v, .int .i64 p] w fun e w' => e = .returned (.int .i64 (codeL p l)) ∧ w = w' := by
  obtain ⟨a, c, N, rfl, hN, h1, h2⟩ := hv.open
  have HB : Hid (∀ j, 0 ≤ codeL p (l.drop j) ∧ codeL p (l.drop j) < 20000) := hid (fun j => by
    have := codeL_bd (p := p) (by omega) (l.drop j) (fun x hx => hl x (List.mem_of_mem_drop hx))
    have h3 := pow_le' (p := p) (by omega) (show (l.drop j).length ≤ l.length by simp)
    omega)
  have HD := hid (fun j => getD_nn (p := p) (by omega) hl j)
  have HS := hid (fun m (h : m < l.length) => codeL_drop (p := p) h)
  obtain ⟨r, hr⟩ : ∃ r, r = codeL p l := ⟨_, rfl⟩
  rw [← hr]
  have HE : Hid (codeL p (l.drop 0) = r) := hid (by rw [hr]; simp)
  clear hr
  have HNL : Hid (codeL p (l.drop N) = 0) := hid (by rw [← hN.out]; simp [codeL, codeH])
  clear hv hl hz
  go_enter Try.func33, Try.ntmps33
  go_wp2
  go_loop [5, 6] (fun n i => ∃ j : Nat, j ≤ N ∧ i = .int .i64 ((j : Int) - 1) ∧ n = .int .i64 (codeL p (l.drop j))) (fun _ i => (intOf i + 1).toNat)
  case atStart => exact ⟨N, Nat.le_refl _, rfl, by rw [HNL.out]⟩
  case round =>
    obtain ⟨j, hj, rfl, rfl⟩ := hrel
    cases j with
    | zero =>
      have e : ((0 : Nat) : Int) - 1 = -1 := by omega
      rw [e, HE.out]
      clear e
      go_wp2
      go_ret
      exact ⟨rfl, rfl⟩
    | succ m =>
      have e : ((m + 1 : Nat) : Int) - 1 = (m : Int) := by omega
      rw [e]
      obtain ⟨b, off, rfl, _, hc⟩ := h2 (by omega)
      have c1 := hc m (by omega)
      have b1 := HD.out m
      obtain ⟨b2, b3⟩ := HB.out (m + 1)
      have hs := hid (HS.out m (by rw [hN.out]; omega))
      rw [getD_q] at b1
      clear hc h2 e
      generalize l[m]?.getD 0 = x at *
      generalize codeL p (l.drop (m + 1)) = z at *
      have h3 : 0 ≤ z * p := Int.mul_nonneg b2 (by omega)
      have h4 : z * p ≤ 20000 * 7 := Int.mul_le_mul (by omega) hp7 (by omega) (by omega)
      go_wp2
      go_round
      case rel => exact ⟨m, by omega, rfl, by rw [hs.out]⟩
      case measure => simp [intOf] <;> omega

theorem pow_toNat {p : Int} (hp : 2 ≤ p) (k : Nat) : ((p ^ k).toNat : Int) = p ^ k := by
  have := pow_pos' (p := p) (by omega) k
  omega
set_option maxHeartbeats 1000000 in
theorem periodof_ok (p : Int) (v u : Value) (taps seed : List Int) (a b : Nat) (w : World) (hv : Sl w v taps) (hu : Sl w u seed) (R : Recur p taps seed) (hz : p ^ seed.length ≤ 20000) (P : PerOf p taps seed a b) (hab : ((a + b : Nat) : Int) ≤ p ^ seed.length) :
    Calls Try.prog 31 #[.int .i64 p, v, u] w fun e w' => e = .returned (.tuple #[.int .i64 a, .int .i64 b, .int .i64 0]) ∧ Below w.heap.size w w' := by
  have hp2 := R.p2
  have hp7 := R.p7
  have hk1 := R.k1
  have hk8 := R.k8
  have hlen := R.len
  have hb1 := P.pos
  have HST := hid (fun (w : World) => states_ok p 20000 taps.length w hp2 hp7 (by omega) (by rw [← R.len]; exact hz) (by omega))
  have hpos := pow_pos' (p := p) (by omega) seed.length
  rw [← hlen] at HST
  obtain ⟨S, hS⟩ : ∃ S : Nat, p ^ seed.length = (S : Int) := ⟨(p ^ seed.length).toNat, by omega⟩
  have HROW := hid (fun w1 (h : Below w.heap.size w w1) => rowof_ok p v u taps seed (S + seed.length + 1) w1 (hv.below h) (hu.below h) R (by omega))
  have HLR := hid (rowL_len p taps seed (S + seed.length + 1))
  have HMID := hid (fun i (h : i + seed.length ≤ S + seed.length + 1) => win_mid (p := p) (taps := taps) (seed := seed) (n := S + seed.length + 1) (i := i) h)
  have HWM := hid (fun i => win_mem (p := p) (taps := taps) (seed := seed) (by omega) R.fs i)
  have HWL := hid (fun i => win_len p taps seed i)
  have HCB : Hid (∀ i, 0 ≤ codeL p (winL p taps seed i) ∧ codeL p (winL p taps seed i) < (S : Int)) := hid (fun i => by
    have := codeL_bd (p := p) (by omega) _ (HWM.out i)
    rw [win_len, hS] at this
    exact this)
  have HTN := hid (fun (c m : Nat) (hc : c < S) h => tab_none (z := 0) (d := 1) (code := fun i => codeL p (winL p taps seed i)) (S := S) (c := c) hc m h)
  have hinj : ∀ i j, i < j → j < a + b → (codeL p (winL p taps seed i)).toNat ≠ (codeL p (winL p taps seed j)).toNat := fun i j h1 h2 e => by
    have e1 := HCB.out i
    have e2 := HCB.out j
    exact P.alone i j h1 h2 (codeL_inj (p := p) (by omega) (by rw [win_len, win_len]) (HWM.out i) (HWM.out j) (by omega))
  have HINJ := hid hinj
  have HTS := hid (tab_some (z := 0) (d := 1) (code := fun i => codeL p (winL p taps seed i)) (S := S) (j := a) (a + b) (fun i _ => by have := HCB.out i; show (codeL p (winL p taps seed i)).toNat < S; omega) hinj (by omega))
  have HSAME := hid P.same
  have HTL := hid (fun m => tab_len 0 1 (fun i => codeL p (winL p taps seed i)) S m)
  have HT1 : Hid (∀ m, tab 0 1 (fun i => codeL p (winL p taps seed i)) S (m + 1) = (tab 0 1 (fun i => codeL p (winL p taps seed i)) S m).set (codeL p (winL p taps seed m)).toNat ((m : Int) + 1)) := hid (fun m => rfl)
  have HT0 : Hid (tab 0 1 (fun i => codeL p (winL p taps seed i)) S 0 = List.replicate S 0) := hid rfl
  rw [hS] at hz hab HST hpos
  have HSS := hid hS
  clear hinj P hS
  generalize tab 0 1 (fun i => codeL p (winL p taps seed i)) S = T at *
  obtain ⟨a1, c1, N, rfl, hN, hl1, _⟩ := hv.open
  rw [hlen, hN.out] at HST HROW HLR HMID HWL HSS
  rw [hN.out] at hk1 hk8
  have HL := hid hlen
  clear hlen hv hu
  generalize rowL p taps seed (S + N + 1) = xs at *
  go_enter Try.func31, Try.ntmps31
  have hS0 : ((S : Int) == 0) = false := by simp; omega
  go_wp2_with fail
  refine (HST.out _).mono ?_
  rintro e w' ⟨rfl, rfl⟩
  have hcast : (S : Int) + (N : Int) + 1 = ((S + N + 1 : Nat) : Int) := by omega
  have HC := hid hcast
  clear hcast
  go_wp2_with fail
  rw [HC.out]
  refine (HROW.out _ (Below.refl _ _)).mono ?_
  rintro e w1 ⟨⟨r, rfl, hr⟩, hb1'⟩
  obtain ⟨g, cr, rfl, hg1, hg2⟩ := hr.form (by rw [HLR.out]; omega)
  rw [HLR.out] at hr ⊢
  have HB1 := hid hb1'
  clear hb1'
  go_wp2_with (at_make; refine wpList_mk (w := w1) _ _ 30 3 (.int .i64 0) 8 rfl rfl Try.underlying30 Try.info3 rfl (by decide) w1.heap.size _ S rfl rfl rfl (by omega) (Nat.le_refl _) ?_; intro w3 hs3 hgr3 hz3)
  have hfirst : OI w1.heap.size w3 (.slice (some ⟨w1.heap.size, 0, none⟩) S S) (T 0) := by
    unfold OI
    rw [HT0.out, List.map_replicate]
    exact hs3
  have hr3 := hr.kept hgr3 (.inr (by simp [Value.ownBlock]))
  have hb3 : Below w.heap.size w w3 := HB1.out.grown hgr3 HB1.out.size (fun k h => by cases h)
  have hsz1 := HB1.out.size
  clear hs3 hgr3 hr
  go_loopw [13, 14] (fun i _ wr => ∃ k : Nat, k ≤ a + b ∧ i = .int .i64 k ∧ OI w1.heap.size wr (.slice (some ⟨w1.heap.size, 0, none⟩) S S) (T k) ∧ OI w.heap.size wr (.slice (some ⟨g, 0, none⟩) (S + N + 1) cr) xs ∧ Below w.heap.size w wr) (fun i _ _ => a + b + 1 - (intOf i).toNat)
  case atStart => exact ⟨0, Nat.zero_le _, rfl, hfirst, hr3, hb3⟩
  case round =>
    obtain ⟨k, hk, rfl, hf, hr, hb⟩ := hrel
    clear hfirst hr3 hb3
    have hmid := (hr.sl (by rw [HLR.out]; omega)).mid (i := k) (j := k + N) (by omega) (by omega)
    rw [Nat.add_sub_cancel_left, HMID.out k (by omega), Nat.zero_add] at hmid
    have HNUM := hid (number_ok p _ _ wr hmid hp2 hp7 (HWM.out k) (by rw [HWL.out, HSS.out]; omega))
    obtain ⟨k1, k2⟩ := HCB.out k
    have hkN : ¬ (cr = k) := by have := hr.cap; omega
    have hkc : k + N ≤ cr := by have := hr.cap; omega
    by_cases hkab : k = a + b
    · have hcode : codeL p (winL p taps seed k) = codeL p (winL p taps seed a) := by rw [hkab, ← HSAME.out]
      have hval := HTS.out
      rw [← hkab] at hval
      rw [← hcode] at hval
      have hcl : (codeL p (winL p taps seed k)).toNat < S := by omega
      have hcell := hf.cell _ (by rw [HTL.out]; exact hcl)
      rw [hval] at hcell
      have HK := hid hkab
      clear hval hcode hkab hmid hf hr HCB HTN HINJ HTS HSAME HTL HT1 HT0 HWM HWL HMID
      generalize codeL p (winL p taps seed k) = z at *
      obtain ⟨c, rfl⟩ : ∃ c : Nat, z = (c : Int) := ⟨z.toNat, by omega⟩
      rw [Int.toNat_natCast] at hcell hcl
      have f1 : IntKind.i64.wrap ((a : Int) + 1 - 1) = (a : Int) := by rw [IntWalk.i64_in _ (by omega)]; omega
      have f2 : IntKind.i64.wrap ((k : Int) + 1) = (k : Int) + 1 := IntWalk.i64_in _ (by omega)
      have f3 : IntKind.i64.wrap ((k : Int) + 1 - ((a : Int) + 1)) = (b : Int) := by
        have := HK.out
        rw [IntWalk.i64_in _ (by omega)]
        omega
      go_wp2_with fail
      refine HNUM.out.mono ?_
      rintro e w' ⟨rfl, rfl⟩
      go_wp2
      go_quiet (fail)
      go_wp2
      go_ret3
      exact ⟨rfl, below_drewN hb _⟩
    · have hnone := HTN.out (codeL p (winL p taps seed k)).toNat k (by omega) (fun j hj => HINJ.out j k hj (by omega))
      have hcl : (codeL p (winL p taps seed k)).toNat < S := by omega
      have hcell := hf.cell _ (by rw [HTL.out]; exact hcl)
      rw [hnone] at hcell
      have hfz := hf.frozen (codeL p (winL p taps seed k)).toNat
      have hst := hf.stored (codeL p (winL p taps seed k)).toNat ((k : Int) + 1)
      rw [← HT1.out] at hst
      obtain ⟨hst1, hst2⟩ := hst
      have hr4 := hr.kept hst2 (.inr (by simp [Value.ownBlock]; omega))
      have hb4 := hb.grown hst2 hb.size (fun k' e => by cases e; exact hsz1)
      clear hnone hmid hf hr HCB HTN HINJ HTS HSAME HTL HWM HWL HMID hst2 HT1
      generalize codeL p (winL p taps seed k) = z at *
      obtain ⟨c, rfl⟩ : ∃ c : Nat, z = (c : Int) := ⟨z.toNat, by omega⟩
      rw [Int.toNat_natCast] at hcell hcl hfz hst1 hr4 hb4
      have HX := hid (And.intro hst1 (And.intro hr4 hb4))
      clear hst1 hr4 hb4
      go_wp2_with fail
      refine HNUM.out.mono ?_
      rintro e w' ⟨rfl, rfl⟩
      go_wp2
      go_roundw
      case rel => exact ⟨k + 1, by omega, by go_num, HX.out.1, HX.out.2.1, HX.out.2.2⟩
      case measure => simp [intOf] <;> omega
end Go.Proofs.Ytlnfkkapepgilaa
