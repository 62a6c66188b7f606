/-
  The walk over the law RecurOnce. No condition.
-/
import Derived.Test.YtlnfkkapepgilaaRfull2
import Derived.Test.YtlnfkkapepgilaaRadds
namespace Go.Proofs.Ytlnfkkapepgilaa
set_option linter.unusedVariables false
open Go.RowKit

theorem Try.info4 : (Try.prog.info? 4).map (fun i => (i.zero, i.size, i.bytes)) = some (some (.bool false), 1, 1) := by kernel_rfl

theorem fit_true {p : Int} {l : List Int} (h : ∀ x ∈ l, 0 ≤ x ∧ x < p) : fitB p l = true := by
  simp only [fitB, Bool.not_eq_true', List.any_eq_false]
  intro x hx
  have := h x hx
  simp only [offB, Bool.or_eq_true, decide_eq_true_eq]
  omega
theorem recur_runE {p : Int} {taps seed : List Int} (hs : smallB p = true) (R : Recur p taps seed) : runE p taps seed = 0 := by
  have h1 := R.k1
  have h8 := R.k8
  have hl := R.len
  have ht : tapsE p taps = 0 := by
    unfold tapsE
    rw [hs, fit_true R.ft, if_neg (by simp), if_neg (by omega), if_neg (by simp)]
  unfold runE
  rw [ht, if_neg (by simp), if_neg (by omega), fit_true R.fs, if_neg (by simp)]

theorem dot_zero {taps : List Int} {k : Nat} : ∀ j, dot taps (List.replicate k 0) j = 0
  | 0 => rfl
  | j + 1 => by
    have : (List.replicate k (0 : Int)).getD (k - 1 - j) 0 = 0 := by
      rw [List.getD_eq_getElem?_getD, List.getElem?_replicate]
      split <;> rfl
    simp only [dot, List.length_replicate]
    rw [dot_zero j, this]
    simp
/-- Behind a window of noughts come noughts. -/
theorem win_zeros {p : Int} {taps seed : List Int} (hl : taps.length = seed.length) (hk : 1 ≤ seed.length) {m : Nat} (h : winL p taps seed m = List.replicate seed.length 0) : ∀ d, winL p taps seed (m + d) = List.replicate seed.length 0
  | 0 => h
  | d + 1 => by
    have ih := win_zeros hl hk h d
    rcases win_next p taps seed (m + d) hk with e | e
    · rw [← Nat.add_assoc, e, ih, dot_zero, Int.zero_emod, List.drop_replicate]
      have : List.replicate (seed.length - 1) (0 : Int) ++ [0] = List.replicate (seed.length - 1 + 1) 0 := by rw [List.replicate_succ']
      rw [this, Nat.sub_add_cancel hk]
    · exact absurd hl e
theorem codeH_zero {p : Int} (hp : 0 < p) : ∀ (l : List Int), (∀ x ∈ l, 0 ≤ x ∧ x < p) → codeH p l = 0 → l = List.replicate l.length 0
  | [], _, _ => rfl
  | x :: l, h, e => by
    have hx := h x (by simp)
    have hb := codeH_bd hp l fun y hy => h y (by simp [hy])
    have hpos := pow_pos' hp l.length
    rw [codeH_cons] at e
    have h1 : 0 ≤ x * p ^ l.length := Int.mul_nonneg hx.1 (by omega)
    have h2 : codeH p l = 0 := by omega
    have h3 : x * p ^ l.length = 0 := by omega
    have h4 : x = 0 := by
      rcases Int.mul_eq_zero.1 h3 with h | h
      · exact h
      · omega
    rw [h4, List.length_cons, List.replicate_succ, ← codeH_zero hp l (fun y hy => h y (by simp [hy])) h2]
theorem seed_ne (k : Nat) (hk : 1 ≤ k) : seedL k ≠ List.replicate k 0 := by
  intro h
  have h1 : (seedL k).getD (k - 1) 0 = 1 := by
    unfold seedL
    rw [List.getD_eq_getElem?_getD, List.getElem?_set_self (by simp; omega)]
    rfl
  rw [h, List.getD_eq_getElem?_getD, List.getElem?_replicate, if_pos (by omega)] at h1
  simp at h1

/-- What is known of a full row's windows. -/
structure OnceK (p : Int) (k S M : Nat) (xs : List Int) (c : Nat → Int) : Prop where
  len : xs.length = M
  win : ∀ i, i + k ≤ M → ((xs.drop i).take k).length = k ∧ (∀ x ∈ (xs.drop i).take k, 0 ≤ x ∧ x < p) ∧ codeL p ((xs.drop i).take k) = c i
  pos : ∀ i, i + k ≤ M → 0 < c i ∧ c i < S
  alone : ∀ i j, i < j → j + k ≤ M → c i ≠ c j
theorem onceK {p : Int} {k S N M : Nat} {aF bF : Nat → Nat} (hM : M + 2 = S + k) (F : FullK p k S N aF bF) (ha : aF N = 0) (hb : bF N = S - 1) : OnceK p k S M (rowL p (digL p N k) (seedL k) (M)) (fun i => codeL p (winL p (digL p N k) (seedL k) i)) := by
  have hp := small_cases F.sm
  have h1 := F.k1
  obtain ⟨P, _⟩ := F.per N (Nat.le_refl _)
  rw [ha, hb] at P
  have hpos := P.pos
  have hwm := fun i => win_mem (p := p) (taps := digL p N k) (seed := seedL k) (by omega) (seed_mem (by omega)) i
  have hwl := fun i => win_len p (digL p N k) (seedL k) i
  rw [seed_len] at hwl
  refine ⟨rowL_len _ _ _ _, fun i hi => ?_, fun i hi => ?_, fun i j hij hj e => ?_⟩
  · have e : ((rowL p (digL p N k) (seedL k) (M)).drop i).take k = winL p (digL p N k) (seedL k) i := by
      have := win_mid (p := p) (taps := digL p N k) (seed := seedL k) (n := M) (i := i) (by rw [seed_len]; omega)
      rw [seed_len] at this
      exact this
    rw [e]
    exact ⟨hwl i, hwm i, rfl⟩
  · have hb2 := codeL_bd (p := p) (by omega) _ (hwm i)
    rw [hwl, F.hS] at hb2
    refine ⟨?_, hb2.2⟩
    have hne : codeL p (winL p (digL p N k) (seedL k) i) ≠ 0 := by
      intro h0
      have h2 := codeH_zero (p := p) (by omega) _ (fun x hx => hwm i x (by simpa using hx)) h0
      rw [List.length_reverse, hwl] at h2
      have h3 : winL p (digL p N k) (seedL k) i = List.replicate k 0 := by
        have := congrArg List.reverse h2
        simpa using this
      have h4 := win_zeros (p := p) (taps := digL p N k) (seed := seedL k) (m := i) (by rw [dig_len, seed_len]) (by rw [seed_len]; omega) (by rw [seed_len]; exact h3) (S - 1 - i)
      rw [show i + (S - 1 - i) = S - 1 by omega, seed_len] at h4
      have h5 := P.same
      rw [Nat.zero_add, win_zero, h4] at h5
      exact seed_ne k h1 h5
    omega
  · exact P.alone i j hij (by omega) (codeL_inj (p := p) (by omega) (by rw [hwl, hwl]) (hwm i) (hwm j) e)

theorem full_any (p k : Int) (hk : I64 k) :
    (∃ z : Int, z ≠ 0 ∧ ∀ w, Calls Try.prog 22 #[.int .i64 p, .int .i64 k] w fun e w' => e = .returned (.tuple #[.slice none 0 0, .int .i64 z]) ∧ Below w.heap.size w w') ∨
    (∃ (n S N : Nat) (aF bF : Nat → Nat), k = (n : Int) ∧ FullK p n S N aF bF ∧ aF N = 0 ∧ bF N = S - 1 ∧ ∀ w, Calls Try.prog 22 #[.int .i64 p, .int .i64 k] w fun e w' => (∃ v, e = .returned (.tuple #[v, .int .i64 0]) ∧ OI w.heap.size w' v (digL p N n)) ∧ Below w.heap.size w w') := by
  by_cases hr : smallB p = false ∨ k < 1
  · refine .inl ⟨1, by omega, fun w1 => (full_range p k w1 hr).mono ?_⟩
    rintro e w' ⟨rfl, rfl⟩
    exact ⟨rfl, Below.refl _ _⟩
  · have hs : smallB p = true := by cases h : smallB p with | true => rfl | false => exact absurd (.inl h) hr
    have hk1 : ¬ k < 1 := fun h => hr (.inr h)
    have hkb := hk.2
    obtain ⟨n, rfl⟩ : ∃ n : Nat, k = (n : Int) := ⟨k.toNat, by omega⟩
    have hp := small_cases hs
    by_cases hf : ¬ p ^ n ≤ 2000 ∨ 8 < n
    · refine .inl ⟨3, by omega, fun w1 => (full_full p n w1 hs (by omega) (by omega) hf).mono ?_⟩
      rintro e w' ⟨rfl, rfl⟩
      exact ⟨rfl, Below.refl _ _⟩
    · have hz : p ^ n ≤ 2000 := Classical.byContradiction fun h => hf (.inl h)
      have h8 : ¬ 8 < n := fun h => hf (.inr h)
      obtain ⟨S, N, aF, bF, F, hN⟩ := full_choice hs (by omega) (by omega) hz
      have hNS := F.nN
      by_cases hNe : N = S
      · refine .inl ⟨4, by omega, fun w1 => (full_ok p n S N aF bF w1 F hN).mono ?_⟩
        rintro e w' ⟨⟨h1, h2⟩, hb⟩
        exact ⟨h1 hNe, hb⟩
      · have h2 := hN.resolve_left hNe
        refine .inr ⟨n, S, N, aF, bF, rfl, F, h2.1, h2.2, fun w1 => (full_ok p n S N aF bF w1 F hN).mono ?_⟩
        rintro e w' ⟨⟨h1, h2⟩, hb⟩
        exact ⟨h2 (by omega), hb⟩

theorem recurOnce_no (w : World) (p k z : Int) (hz : z ≠ 0) (H : ∀ w, Calls Try.prog 22 #[.int .i64 p, .int .i64 k] w fun e w' => e = .returned (.tuple #[.slice none 0 0, .int .i64 z]) ∧ Below w.heap.size w w') :
    Calls Try.prog 11 #[.int .i64 p, .int .i64 k] w fun e w' => e = .returned (.bool true) ∧ Below w.heap.size w w' := by
  have HH := hid H
  have q : (z != 0) = true := by simpa using hz
  clear H hz
  go_enter Try.func11, Try.ntmps11
  go_wp2_with fail
  refine (runs_any w).mono ?_
  rintro e w1 ⟨rfl, hb1⟩
  have B1 := hid hb1
  clear hb1
  go_wp2_with fail
  refine (HH.out _).mono ?_
  rintro e w2 ⟨rfl, hb2⟩
  have B2 := hid (B1.out.trans (hb2.mono B1.out.size))
  clear hb2
  go_wp2
  go_ret
  exact ⟨rfl, B2.out⟩

set_option maxHeartbeats 1000000 in
theorem recurOnce_yes (w : World) (p : Int) (k S N : Nat) (aF bF : Nat → Nat) (F : FullK p k S N aF bF) (ha : aF N = 0) (hb : bF N = S - 1) (H : ∀ w, Calls Try.prog 22 #[.int .i64 p, .int .i64 k] w fun e w' => (∃ v, e = .returned (.tuple #[v, .int .i64 0]) ∧ OI w.heap.size w' v (digL p N k)) ∧ Below w.heap.size w w') :
    Calls Try.prog 11 #[.int .i64 p, .int .i64 k] w fun e w' => e = .returned (.bool true) ∧ Below w.heap.size w w' := by
  obtain ⟨M, hM⟩ : ∃ M : Nat, M + 2 = S + k := ⟨S + k - 2, by have := F.k1; have := F.hS; have := pow_pos' (p := p) (by have := small_cases F.sm; omega) k; omega⟩
  have HO := hid (onceK hM F ha hb)
  have hp := small_cases F.sm
  have h1 := F.k1
  have h8 := F.k8
  have hs2 := F.s2
  have hS2 : 2 ≤ S := by
    have h := pow_le' (p := p) (by omega) h1
    rw [F.hS] at h
    have : p ^ 1 = p := by rw [Int.pow_succ, Int.pow_zero, Int.one_mul]
    omega
  have HH := hid H
  have HT := hid (fun w => states_ok p 2000 k w (by omega) (by omega) (by omega) (by rw [F.hS]; omega) (by omega))
  rw [F.hS] at HT
  have HRE := recur_runE F.sm (full_recur F.sm h1 h8 N)
  have HRUN := hid (fun (w : World) (v u : Value) hv hu => Run_ok p v u (digL p N k) (seedL k) M w hv hu (fun x hx => by have := dig_mem (p := p) (by omega) x hx; exact ⟨by omega, by omega⟩) (fun x hx => by have := seed_mem (p := p) (by omega) x hx; exact ⟨by omega, by omega⟩) HRE (by omega) (by omega))
  have HNUM := hid (fun (v : Value) (l : List Int) (w : World) hv hl (h : l.length = k) => number_ok p v l w hv (by omega) (by omega) hl (by rw [h, F.hS]; omega))
  have HDL := hid (dig_len p N k)
  obtain ⟨hp2, hp7⟩ : 2 ≤ p ∧ p ≤ 7 := by omega
  clear hp F ha hb H HRE
  generalize rowL p (digL p N k) (seedL k) M = xs at *
  generalize (fun i => codeL p (winL p (digL p N k) (seedL k) i)) = c at *
  go_enter Try.func11, Try.ntmps11
  go_wp2_with fail
  refine (runs_any w).mono ?_
  rintro e w1 ⟨rfl, hb1⟩
  have B1 := hid hb1
  clear hb1
  go_wp2_with fail
  refine (HH.out _).mono ?_
  rintro e w2 ⟨⟨v, rfl, hv⟩, hb2⟩
  have B2 := hid (B1.out.trans (hb2.mono B1.out.size))
  have hz1 := B1.out.size
  have hz2 := hb2.size
  clear hb2
  go_wp2_with (at_make; refine wpList_mk (w := w2) _ _ 30 3 (.int .i64 0) 8 rfl rfl Try.underlying30 Try.info3 rfl (by decide) w2.heap.size _ k rfl rfl rfl (by omega) (Nat.le_refl _) ?_; intro w3 hs3 hgr3 hz3; have ho3 := seed_made hs3; have hf3 := ho3.frozen (k - 1); have hc3 := ho3.cell (k - 1) (by simp; omega))
  have hb3 := B2.out.grown hgr3 B2.out.size (fun k h => by cases h)
  obtain ⟨gv, cv, rfl, hgv1, hgv2⟩ := hv.form (by rw [HDL.out]; omega)
  rw [HDL.out] at hv ⊢
  obtain ⟨ho4, hg4⟩ := ho3.stored (k - 1) 1
  have hv4 := (hv.kept hgr3 (.inr (by simp [Value.ownBlock]))).kept hg4 (.inr (by simp [Value.ownBlock]; omega))
  have B4 := hid (hb3.grown hg4 hb3.size (fun k h => by cases h; omega))
  have ho5 : OI w2.heap.size _ _ (seedL k) := ho4
  have HR := hid (HRUN.out _ _ _ (hv4.sl (by rw [HDL.out]; omega)) (ho5.sl (by rw [seed_len]; omega)))
  have hM3 : (S : Int) + (k : Int) - 2 = (M : Int) := by omega
  have HM3 := hid hM3
  have HM := hid hM
  have hM4 : ((M : Int) != (S : Int) + (k : Int) - 2) = false := by rw [hM3]; simp
  clear hM hM3 hs3 hgr3 hz3 ho3 hf3 hc3 hb3 hg4 ho4 ho5 hv hv4
  go_wp2_with fail
  refine (HT.out _).mono ?_
  rintro e w' ⟨rfl, rfl⟩
  go_wp2_with fail
  rw [HM3.out]
  refine HR.out.mono ?_
  rintro e w5 ⟨⟨r, rfl, hr⟩, hb5⟩
  have hxl := HO.out.len
  obtain ⟨g, cr, rfl, hg1, hg2⟩ := hr.form (by rw [hxl]; have := HM.out; omega)
  rw [hxl] at hr ⊢
  have HXL := hid hxl
  have B5 := hid (B4.out.trans (hb5.mono B4.out.size))
  clear hb5 hxl
  go_wp2_with (at_make; refine wpList_mk (w := w5) _ _ 47 4 (.bool false) 1 rfl rfl Try.underlying47 Try.info4 rfl (by decide) w5.heap.size _ S rfl rfl rfl (by omega) (Nat.le_refl _) ?_; intro w6 hs6 hgr6 hz6)
  have hs0 : Ow 4 w5.heap.size w6 (.slice (some ⟨w5.heap.size, 0, none⟩) S S) ((List.replicate S false).map Value.bool) := by rw [List.map_replicate]; exact hs6
  have hr6 := hr.kept hgr6 (.inr (by simp [Value.ownBlock]))
  have hb6 : Below w.heap.size w w6 := B5.out.grown hgr6 B5.out.size (fun k h => by cases h)
  have h5s := B5.out.size
  have HMK : Hid (∀ i : Nat, i < S - 1 → i + k ≤ M) := hid (fun i hi => by have := HM.out; omega)
  have hMb : M ≤ 3000 := by have := HM.out; omega
  have HML : Hid (∀ i : Nat, i ≤ S - 1 → ¬ i < S - 1 → (M : Int) < (i : Int) + (k : Int)) := hid (fun i hi hn => by have := HM.out; omega)
  clear hs6 hgr6 hr hM4
  go_loopw [12] (fun i wr => ∃ (t : Nat) (bl : List Bool), t ≤ S - 1 ∧ i = .int .i64 t ∧ Hid (bl.length = S ∧ ∀ x : Nat, x < S → (∀ j, j < t → c j ≠ x) → bl[x]? = some false) ∧ OI (w3.setCell ⟨w2.heap.size, k - 1, none⟩ (.int .i64 1)).heap.size wr (.slice (some ⟨g, 0, none⟩) M cr) xs ∧ Ow 4 w5.heap.size wr (.slice (some ⟨w5.heap.size, 0, none⟩) S S) (bl.map Value.bool) ∧ Below w.heap.size w wr) (fun i _ => S - (intOf i).toNat)
  case atStart => exact ⟨0, List.replicate S false, Nat.zero_le _, rfl, hid ⟨by simp, fun x hx _ => by simp [hx]⟩, hr6, hs0, hb6⟩
  case round =>
    obtain ⟨t, bl, ht, rfl, hbl, hr, hse, hb⟩ := hrel
    clear hr6 hs0 hb6
    by_cases hlt : t < S - 1
    · have htk := HMK.out t hlt
      have hmid := (hr.sl (by rw [HXL.out]; omega)).mid (i := t) (j := t + k) (by omega) (by omega)
      obtain ⟨x1, x2, x3⟩ := HO.out.win t htk
      obtain ⟨x4, x5⟩ := HO.out.pos t htk
      rw [Nat.add_sub_cancel_left, Nat.zero_add] at hmid
      have hN := HNUM.out _ _ wr hmid x2 x1
      rw [x3] at hN
      have HN := hid hN
      have hal := fun j (h : j < t) => HO.out.alone j t h htk
      have hkN : ¬ (cr = t) := by have := hr.cap; omega
      have hkc : t + k ≤ cr := by have := hr.cap; omega
      obtain ⟨q, hq⟩ : ∃ q : Nat, c t = (q : Int) := ⟨(c t).toNat, by omega⟩
      have hqS : q < S := by omega
      have hfalse := hbl.out.2 q hqS (fun j hj e => hal j hj (by rw [e, hq]))
      have HBL : Hid ((bl.set q true).length = S ∧ ∀ x : Nat, x < S → (∀ j, j < t + 1 → c j ≠ x) → (bl.set q true)[x]? = some false) := hid (by
        refine ⟨by simp [hbl.out.1], fun x hx h => ?_⟩
        have hne : q ≠ x := fun e => h t (by omega) (by rw [hq, e])
        rw [List.getElem?_set_ne hne]
        exact hbl.out.2 x hx (fun j hj => h j (by omega)))
      have hcell := hse.cell q (by rw [List.length_map, hbl.out.1]; exact hqS)
      rw [List.getElem?_map, hfalse, Option.map_some] at hcell
      have hfz := hse.frozen q
      have hst := hse.stored q (.bool true)
      rw [← List.map_set] at hst
      obtain ⟨hst1, hst2⟩ := hst
      have ho4 := hr.kept hst2 (.inr (by simp [Value.ownBlock]; omega))
      have hbs := hb.grown hst2 hb.size (fun k' e => by cases e; exact h5s)
      rw [hq] at HN x4
      have HX := hid (And.intro ho4 (And.intro hst1 hbs))
      clear hst2 ho4 hst1 hbs hbl hfalse hal hN x1 x2 x3 hmid hr hse hb hq x5
      have hq0 : ¬ (q : Int) ≤ 0 := by omega
      go_wp2_with fail
      refine HN.out.mono ?_
      rintro e w' ⟨rfl, rfl⟩
      go_wp2
      go_roundw
      case rel => exact ⟨t + 1, bl.set q true, by omega, by go_num, HBL, HX.out.1, HX.out.2.1, HX.out.2.2⟩
      case measure => simp [intOf]; omega
    · have hM5 := HML.out t ht hlt
      have HB := hid hb
      clear hr hse hb hbl
      go_wp2
      go_ret
      exact ⟨rfl, HB.out⟩

theorem recurOnce_walk (w : World) (p : Int) (_ : I64 p) (k : Int) (hk : I64 k) :
    Calls Try.prog 11 #[.int .i64 p, .int .i64 k] w fun e w' => e = .returned (.bool true) ∧ Below w.heap.size w w' := by
  rcases full_any p k hk with ⟨z, hz, H⟩ | ⟨n, S, N, aF, bF, rfl, F, ha, hb, H⟩
  · exact recurOnce_no w p k z hz H
  · exact recurOnce_yes w p n S N aF bF F ha hb H
end Go.Proofs.Ytlnfkkapepgilaa
