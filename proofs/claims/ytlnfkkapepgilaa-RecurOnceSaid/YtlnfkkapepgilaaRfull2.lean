/-
  The walks over recur.Full and the law RecurFull. Conditions: ranges as each theorem states.
-/
import Derived.Test.YtlnfkkapepgilaaRfull
namespace Go.Proofs.Ytlnfkkapepgilaa
set_option linter.unusedVariables false
open Go.RowKit

theorem full_range (p k : Int) (w : World) (h : smallB p = false ∨ k < 1) :
    Calls Try.prog 22 #[.int .i64 p, .int .i64 k] w fun e w' => e = .returned (.tuple #[.slice none 0 0, .int .i64 1]) ∧ w = w' := by
  have HS := hid (modulo_any p w)
  cases hs : smallB p with
  | false =>
    rw [hs] at HS
    clear h hs
    go_enter Try.func22, Try.ntmps22
    go_wp2_with fail
    refine HS.out.mono ?_
    rintro e w' ⟨rfl, rfl⟩
    go_wp2
    go_ret2
    exact ⟨rfl, rfl⟩
  | true =>
    rw [hs] at HS
    have hk : k < 1 := by rcases h with h | h; rw [hs] at h; cases h; exact h
    clear h hs
    go_enter Try.func22, Try.ntmps22
    go_wp2_with fail
    refine HS.out.mono ?_
    rintro e w' ⟨rfl, rfl⟩
    go_wp2
    go_ret2
    exact ⟨rfl, rfl⟩

theorem full_full (p : Int) (k : Nat) (w : World) (hs : smallB p = true) (h1 : 1 ≤ k) (hk : k ≤ 9223372036854775807) (h : ¬ p ^ k ≤ 2000 ∨ 8 < k) :
    Calls Try.prog 22 #[.int .i64 p, .int .i64 k] w fun e w' => e = .returned (.tuple #[.slice none 0 0, .int .i64 3]) ∧ w = w' := by
  have HS := hid (modulo_any p w)
  have hp := small_cases hs
  rw [hs] at HS
  by_cases h8 : 8 < k
  · clear h
    go_enter Try.func22, Try.ntmps22
    go_wp2_with fail
    refine HS.out.mono ?_
    rintro e w' ⟨rfl, rfl⟩
    go_wp2
    go_ret2
    exact ⟨rfl, rfl⟩
  · have hz := h.resolve_right h8
    have HT := hid (rpower_no p 2000 k w (by omega) (by omega) (by omega) (by omega) hz hk)
    clear h hz
    go_enter Try.func22, Try.ntmps22
    go_wp2_with fail
    refine HS.out.mono ?_
    rintro e w' ⟨rfl, rfl⟩
    go_wp2_with fail
    refine HT.out.mono ?_
    rintro e w' ⟨rfl, rfl⟩
    go_wp2
    go_ret2
    exact ⟨rfl, rfl⟩

set_option maxHeartbeats 1000000 in
theorem full_ok (p : Int) (k S N : Nat) (aF bF : Nat → Nat) (w : World) (F : FullK p k S N aF bF) (hN : N = S ∨ (aF N = 0 ∧ bF N = S - 1)) :
    Calls Try.prog 22 #[.int .i64 p, .int .i64 k] w fun e w' =>
      ((N = S → e = .returned (.tuple #[.slice none 0 0, .int .i64 4])) ∧ (N < S → ∃ v, e = .returned (.tuple #[v, .int .i64 0]) ∧ OI w.heap.size w' v (digL p N k))) ∧ Below w.heap.size w w' := by
  have HS := hid (modulo_any p w)
  have hp := small_cases F.sm
  have h1 := F.k1
  have h8 := F.k8
  have hs2 := F.s2
  rw [F.sm] at HS
  have HT := hid (rpower_ok p 2000 k w (by omega) (by omega) (by omega) (by rw [F.hS]; omega) (by omega))
  rw [F.hS] at HT
  have hpos := pow_pos' (p := p) (by omega) k
  rw [F.hS] at hpos
  have HP := hid (fun (n : Nat) (w : World) (v u : Value) (hn : n ≤ N) hv hu => period_ok p v u (digL p n k) (seedL k) (aF n) (bF n) S w hv hu (full_recur F.sm h1 h8 n) (by rw [seed_len, F.hS]) (by omega) (F.per n hn).1 (F.per n hn).2)
  have HF := hid F
  have HN := hid hN
  have hNS := F.nN
  have HDL := hid (fun n : Nat => dig_len p n k)
  have hpp : 2 ≤ p ∧ p ≤ 7 := by omega
  obtain ⟨hp2, hp7⟩ := hpp
  clear hp F hN hpos
  go_enter Try.func22, Try.ntmps22
  go_wp2_with fail
  refine HS.out.mono ?_
  rintro e w' ⟨rfl, rfl⟩
  go_wp2_with fail
  refine HT.out.mono ?_
  rintro e w' ⟨rfl, rfl⟩
  go_wp2_with (at_make; refine wpList_mk (w := w) _ _ 30 3 (.int .i64 0) 8 rfl rfl Try.underlying30 Try.info3 rfl (by decide) w.heap.size _ k rfl rfl rfl (by omega) (Nat.le_refl _) ?_; intro w3 hs3 hgr3 hz3; have ho3 := seed_made hs3; have hf3 := ho3.frozen (k - 1); have hc3 := ho3.cell (k - 1) (by simp; omega))
  have hb3 : Below w.heap.size w w3 := (Below.refl _ _).grown hgr3 (Nat.le_refl _) (fun k h => by cases h)
  obtain ⟨ho4, hg4⟩ := ho3.stored (k - 1) 1
  have hb4 := hb3.grown hg4 hb3.size (fun k h => by cases h; exact Nat.le_refl _)
  have ho5 : OI w.heap.size _ _ (seedL k) := ho4
  clear hs3 hgr3 hz3 ho3 hf3 hc3 hb3 hg4 ho4
  go_loopw [39] (fun i wr => ∃ n : Nat, n ≤ N ∧ i = .int .i64 n ∧ OI w.heap.size wr (.slice (some ⟨w.heap.size, 0, none⟩) k k) (seedL k) ∧ Below w.heap.size w wr) (fun i _ => S - (intOf i).toNat)
  case atStart => exact ⟨0, Nat.zero_le _, rfl, ho5, hb4⟩
  case round =>
    obtain ⟨n, hn, rfl, ho, hb⟩ := hrel
    obtain ⟨w0, rfl⟩ : ∃ w0, w0 = wr := ⟨wr, rfl⟩
    clear ho5 hb4
    by_cases hlt : n < S
    · have HO := hid ho
      have HB := hid hb
      have hwr := hb.size
      have hwlt := (ho.lt w.heap.size rfl).2
      clear ho hb
      go_wp2_with (at_make; refine wpList_mk (w := w0) _ _ 30 3 (.int .i64 0) 8 rfl rfl Try.underlying30 Try.info3 rfl (by decide) w0.heap.size _ k rfl rfl rfl (by omega) (Nat.le_refl _) ?_; intro w4 hs4 hgr4 hz4)
      have HB4 := hid (HB.out.grown hgr4 hwr (fun k h => by cases h))
      have HO4 := hid (HO.out.kept hgr4 (.inr (by simp [Value.ownBlock])))
      have ht4 : OI w0.heap.size w4 (.slice (some ⟨w0.heap.size, 0, none⟩) k k) (partL p n k 0) := by rw [part_zero]; exact seed_made hs4
      have HT4 := hid ht4
      clear hs4 hgr4 ht4
      have HQ := hid (dq_bd (p := p) (n := n) hp2 (by omega))
      have hp0 : ¬ p = 0 := by omega
      have hpl0 : ¬ p ≤ 0 := by omega
      go_loopw [11, 12] (fun i m wq => ∃ j : Nat, j ≤ k ∧ i = .int .i64 j ∧ m = .int .i64 (dq p n j) ∧ OI w0.heap.size wq (.slice (some ⟨w0.heap.size, 0, none⟩) k k) (partL p n k j) ∧ OI w.heap.size wq (.slice (some ⟨w.heap.size, 0, none⟩) k k) (seedL k) ∧ Below w.heap.size w wq) (fun i _ _ => k - (intOf i).toNat)
      case atStart => exact ⟨0, Nat.zero_le _, rfl, rfl, HT4.out, HO4.out, HB4.out⟩
      case round =>
        obtain ⟨j, hj, rfl, rfl, ht, ho, hb⟩ := hrel
        clear HT4 HO4 HB4
        by_cases hjk : j < k
        · obtain ⟨q1, q2⟩ := HQ.out j
          have H1J : Hid (dq p n (j + 1) = dq p n j / p) := hid rfl
          have HSJ := hid (part_set (p := p) (n := n) hjk)
          have hc := ht.cell j (by rw [part_len hj]; exact hjk)
          have hf := ht.frozen j
          obtain ⟨ht2, hg2⟩ := ht.stored j (dq p n j % p)
          have HT2 := hid (ht2.cast HSJ.out)
          have HO2 := hid (ho.kept hg2 (.inr (by simp [Value.ownBlock]; omega)))
          have HB2 := hid (hb.grown hg2 hb.size (fun k h => by cases h; exact hwr))
          clear ht ho hb ht2 hg2 HSJ
          generalize dq p n j = q at *
          generalize (partL p n k j).getD j 0 = old at *
          have htm : q.tmod p = q % p := Int.tmod_eq_emod_of_nonneg q1
          have htd : q.tdiv p = q / p := Int.tdiv_eq_ediv_of_nonneg q1
          have q3 : 0 ≤ q % p := Int.emod_nonneg _ hp0
          have q4 : q % p < p := Int.emod_lt_of_pos _ (by omega)
          have q5 : 0 ≤ q / p := Int.ediv_nonneg q1 (by omega)
          have q6 : q / p ≤ q := Int.ediv_le_self _ q1
          go_wp2
          go_region
          all_goals
            go_wp2
            go_roundw
          case rel => exact ⟨j + 1, by omega, by go_num, by rw [H1J.out], HT2.out, HO2.out, HB2.out.drew⟩
          case measure => simp [intOf]; omega
        · obtain rfl : j = k := by omega
          rw [part_all] at ht
          have HT5 := hid ht
          have HO5 := hid ho
          have HB5 := hid hb
          have hwq := hb.size
          have hPP := hid (HP.out n wr _ _ hn (ht.sl (by rw [HDL.out]; omega)) (ho.sl (by rw [seed_len]; omega)))
          clear ht ho hb
          go_wp2_with fail
          refine hPP.out.mono ?_
          rintro e w2 ⟨rfl, hb2⟩
          have HO2 := hid (HO5.out.below hb2)
          have HV2 := hid (HT5.out.below hb2)
          have HB2 := hid (HB5.out.trans (hb2.mono (by omega)))
          clear hb2
          by_cases ha : aF n = 0
          · by_cases hbb : bF n = S - 1
            · have hnN : n = N := by
                rcases Nat.lt_or_ge n N with h | h
                · exact absurd ⟨ha, hbb⟩ (HF.out.no n h)
                · omega
              have q1 : ((aF n : Int) == 0) = true := by simp; omega
              have q2 : ((bF n : Int) == (S : Int) - 1) = true := by simp; omega
              generalize (aF n : Int) = xa at *
              generalize (bF n : Int) = xb at *
              have HNN := hid hnN
              clear ha hbb hnN
              go_wp2
              go_ret2
              have e := HNN.out
              subst e
              exact ⟨⟨fun h => by omega, fun _ => ⟨_, rfl, HV2.out.mono hwr⟩⟩, HB2.out⟩
            · have hnN : n + 1 ≤ N := by
                rcases Nat.lt_or_ge n N with h | h
                · omega
                · rcases HN.out with h1 | h1
                  · omega
                  · have : n = N := by omega
                    subst this
                    exact absurd h1.2 hbb
              have q1 : ((aF n : Int) == 0) = true := by simp; omega
              have q2 : ((bF n : Int) == (S : Int) - 1) = false := by simp; omega
              generalize (aF n : Int) = xa at *
              generalize (bF n : Int) = xb at *
              clear ha hbb
              go_wp2
              go_roundw
              case rel => exact ⟨n + 1, hnN, by go_num, HO2.out, HB2.out⟩
              case measure => simp [intOf]; omega
          · have hnN : n + 1 ≤ N := by
              rcases Nat.lt_or_ge n N with h | h
              · omega
              · rcases HN.out with h1 | h1
                · omega
                · have : n = N := by omega
                  subst this
                  exact absurd h1.1 ha
            have q1 : ((aF n : Int) == 0) = false := by simp; omega
            generalize (aF n : Int) = xa at *
            generalize (bF n : Int) = xb at *
            clear ha
            go_wp2
            go_roundw
            case rel => exact ⟨n + 1, hnN, by go_num, HO2.out, HB2.out⟩
            case measure => simp [intOf]; omega
    · obtain rfl : S = n := by omega
      have HX := hid (And.intro hn hb)
      clear ho hb hn
      go_wp2
      go_ret2
      have e : N = S := by have := HX.out.1; omega
      exact ⟨⟨fun _ => rfl, fun h => by omega⟩, HX.out.2⟩

theorem recurFull_gen (w : World) (p k z : Int) (xs : List Int) (hl : xs.length ≤ 1000)
    (Q1 : ∀ w1, Below w.heap.size w w1 → Calls Try.prog 22 #[.int .i64 p, .int .i64 k] w1 fun e w' => (∃ v, e = .returned (.tuple #[v, .int .i64 z]) ∧ OI w1.heap.size w' v xs) ∧ Below w1.heap.size w1 w')
    (Q2 : ∀ w1, Below w.heap.size w w1 → Calls Try.prog 23 #[.int .i64 p, .int .i64 k] w1 fun e w' => (∃ v, e = .returned (.tuple #[v, .int .i64 z]) ∧ OI w1.heap.size w' v xs) ∧ Below w1.heap.size w1 w') :
    Calls Try.prog 6 #[.int .i64 p, .int .i64 k] w fun e w' => e = .returned (.bool true) ∧ Below w.heap.size w w' := by
  have H1 := hid Q1
  have H2 := hid Q2
  have e3 : (z == z) = true := by simp
  clear Q1 Q2
  have B0 := hid (Below.refl w.heap.size w)
  go_enter Try.func6, Try.ntmps6
  go_wp2_with fail
  refine (H1.out _ B0.out).mono ?_
  rintro e w1 ⟨⟨v, rfl, hv⟩, hb1⟩
  have B1 := hid (B0.out.trans hb1)
  have HV := hid hv
  clear hb1 hv
  go_wp2_with fail
  refine (H2.out _ B1.out).mono ?_
  rintro e w2 ⟨⟨u, rfl, hu⟩, hb2⟩
  have HV2 := hid (HV.out.below (hb2.mono (Nat.le_refl _)))
  have B2 := hid (B1.out.trans (hb2.mono B1.out.size))
  have HU := hid hu
  clear hb2 hu
  go_wp2_with fail
  refine (ints_any _ _ xs xs _ (HV2.out.sl (by omega)) (HU.out.sl (by omega))).mono ?_
  rintro e w6 ⟨rfl, m6, rfl⟩
  have hd : decide (xs = xs) = true := by simp
  go_wp2
  go_ret
  exact ⟨rfl, below_drewN B2.out _⟩

theorem full_choice {p : Int} {k : Nat} (hs : smallB p = true) (h1 : 1 ≤ k) (h8 : k ≤ 8) (hz : p ^ k ≤ 2000) : ∃ (S N : Nat) (aF bF : Nat → Nat), FullK p k S N aF bF ∧ (N = S ∨ (aF N = 0 ∧ bF N = S - 1)) := by
  have hp := small_cases hs
  have hpos := pow_pos' (p := p) (by omega) k
  obtain ⟨S, hS⟩ : ∃ S : Nat, p ^ k = (S : Int) := ⟨(p ^ k).toNat, by omega⟩
  have hper : ∀ n : Nat, ∃ ab : Nat × Nat, PerOf p (digL p n k) (seedL k) ab.1 ab.2 ∧ ab.1 + ab.2 ≤ S := fun n => by
    obtain ⟨a, b, P, hab⟩ := per_ex (p := p) (taps := digL p n k) (seed := seedL k) (by omega) (seed_mem (by omega))
    rw [seed_len, hS] at hab
    exact ⟨(a, b), P, by omega⟩
  have hch : ∃ f : Nat → Nat × Nat, ∀ n : Nat, PerOf p (digL p n k) (seedL k) (f n).1 (f n).2 ∧ (f n).1 + (f n).2 ≤ S := ⟨fun n => (hper n).choose, fun n => (hper n).choose_spec⟩
  obtain ⟨f, hf⟩ := hch
  obtain ⟨N, hN, hno⟩ := least_of (P := fun n => n = S ∨ ((f n).1 = 0 ∧ (f n).2 = S - 1)) ⟨S, .inl rfl⟩
  refine ⟨S, N, fun n => (f n).1, fun n => (f n).2, ⟨hs, h1, h8, hS, by omega, fun n _ => hf n, ?_, fun m hm h => hno m hm (.inr h)⟩, hN⟩
  rcases Nat.lt_or_ge S N with h | h
  · exact absurd (.inl rfl) (hno S h)
  · exact h

theorem recurFull_walk (w : World) (p : Int) (_ : I64 p) (k : Int) (hk : I64 k) :
    Calls Try.prog 6 #[.int .i64 p, .int .i64 k] w fun e w' => e = .returned (.bool true) ∧ Below w.heap.size w w' := by
  by_cases hr : smallB p = false ∨ k < 1
  · refine recurFull_gen w p k 1 [] (by simp) (fun w1 h1 => (full_range p k w1 hr).mono ?_) (fun w1 h1 => (fullof_range p k w1 hr).mono ?_)
    · rintro e w' ⟨rfl, rfl⟩
      exact ⟨⟨_, rfl, OI.nil _ _⟩, Below.refl _ _⟩
    · rintro e w' ⟨rfl, rfl⟩
      exact ⟨⟨_, rfl, OI.nil _ _⟩, Below.refl _ _⟩
  · have hs : smallB p = true := by cases h : smallB p with | true => rfl | false => exact absurd (.inl h) hr
    have hk1 : ¬ k < 1 := fun h => hr (.inr h)
    have hkb := hk.2
    obtain ⟨n, rfl⟩ : ∃ n : Nat, k = (n : Int) := ⟨k.toNat, by omega⟩
    have hp := small_cases hs
    by_cases hf : ¬ p ^ n ≤ 2000 ∨ 8 < n
    · refine recurFull_gen w p n 3 [] (by simp) (fun w1 h1 => (full_full p n w1 hs (by omega) (by omega) hf).mono ?_) (fun w1 h1 => (fullof_full p n w1 hs (by omega) (by omega) hf).mono ?_)
      · rintro e w' ⟨rfl, rfl⟩
        exact ⟨⟨_, rfl, OI.nil _ _⟩, Below.refl _ _⟩
      · rintro e w' ⟨rfl, rfl⟩
        exact ⟨⟨_, rfl, OI.nil _ _⟩, Below.refl _ _⟩
    · have hz : p ^ n ≤ 2000 := Classical.byContradiction fun h => hf (.inl h)
      have h8 : ¬ 8 < n := fun h => hf (.inr h)
      obtain ⟨S, N, aF, bF, F, hN⟩ := full_choice hs (by omega) (by omega) hz
      have hNS := F.nN
      by_cases hNe : N = S
      · refine recurFull_gen w p n 4 [] (by simp) (fun w1 h1 => (full_ok p n S N aF bF w1 F hN).mono ?_) (fun w1 h1 => (fullof_ok p n S N aF bF w1 F hN).mono ?_)
        · rintro e w' ⟨⟨h1, h2⟩, hb⟩
          exact ⟨⟨_, h1 hNe, OI.nil _ _⟩, hb⟩
        · rintro e w' ⟨⟨h1, h2⟩, hb⟩
          exact ⟨⟨_, h1 hNe, OI.nil _ _⟩, hb⟩
      · refine recurFull_gen w p n 0 (digL p N n) (by rw [dig_len]; omega) (fun w1 h1 => (full_ok p n S N aF bF w1 F hN).mono ?_) (fun w1 h1 => (fullof_ok p n S N aF bF w1 F hN).mono ?_)
        · rintro e w' ⟨⟨h1, h2⟩, hb⟩
          exact ⟨h2 (by omega), hb⟩
        · rintro e w' ⟨⟨h1, h2⟩, hb⟩
          exact ⟨h2 (by omega), hb⟩
end Go.Proofs.Ytlnfkkapepgilaa
