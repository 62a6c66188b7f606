/-
  The walks over parterreref1.FullOf and recur.Full. Conditions: ranges as each theorem states.
-/
import Derived.Test.YtlnfkkapepgilaaRdig
namespace Go.Proofs.Ytlnfkkapepgilaa
set_option linter.unusedVariables false
open Go.RowKit

theorem fullof_range (p k : Int) (w : World) (h : smallB p = false ∨ k < 1) :
    Calls Try.prog 23 #[.int .i64 p, .int .i64 k] w fun e w' => e = .returned (.tuple #[.slice none 0 0, .int .i64 1]) ∧ w = w' := by
  have HS := hid (small_any p w)
  cases hs : smallB p with
  | false =>
    rw [hs] at HS
    clear h hs
    go_enter Try.func23, Try.ntmps23
    go_wp2_with fail
    refine HS.out.mono ?_
    rintro e w' ⟨rfl, rfl⟩
    go_wp2
    go_ret2
    exact ⟨rfl, rfl⟩
  | true =>
    rw [hs] at HS
    have hk : k < 1 := by rcases h with h | h; rw [hs] at h; cases h; exact h
    clear h hs
    go_enter Try.func23, Try.ntmps23
    go_wp2_with fail
    refine HS.out.mono ?_
    rintro e w' ⟨rfl, rfl⟩
    go_wp2
    go_ret2
    exact ⟨rfl, rfl⟩

theorem fullof_full (p : Int) (k : Nat) (w : World) (hs : smallB p = true) (h1 : 1 ≤ k) (hk : k ≤ 9223372036854775807) (h : ¬ p ^ k ≤ 2000 ∨ 8 < k) :
    Calls Try.prog 23 #[.int .i64 p, .int .i64 k] w fun e w' => e = .returned (.tuple #[.slice none 0 0, .int .i64 3]) ∧ w = w' := by
  have HS := hid (small_any p w)
  have hp := small_cases hs
  rw [hs] at HS
  by_cases hz : p ^ k ≤ 2000
  · have h8 : 8 < k := h.resolve_left (fun h => h hz)
    have HT := hid (states_ok p 2000 k w (by omega) (by omega) (by omega) hz hk)
    have hpos := pow_pos' (p := p) (by omega) k
    generalize p ^ k = q at *
    have hq : (q == 0) = false := by simp; omega
    clear h
    go_enter Try.func23, Try.ntmps23
    go_wp2_with fail
    refine HS.out.mono ?_
    rintro e w' ⟨rfl, rfl⟩
    go_wp2_with fail
    refine HT.out.mono ?_
    rintro e w' ⟨rfl, rfl⟩
    go_wp2
    go_ret2
    exact ⟨rfl, rfl⟩
  · have HT := hid (states_no p 2000 k w (by omega) (by omega) (by omega) (by omega) hz hk)
    clear h hz
    go_enter Try.func23, Try.ntmps23
    go_wp2_with fail
    refine HS.out.mono ?_
    rintro e w' ⟨rfl, rfl⟩
    go_wp2_with fail
    refine HT.out.mono ?_
    rintro e w' ⟨rfl, rfl⟩
    go_wp2
    go_ret2
    exact ⟨rfl, rfl⟩

/-- The seed as both build it. -/
theorem seed_made {B k : Nat} {w3 : World} {g : Nat} (h : Ow 3 B w3 (.slice (some ⟨g, 0, none⟩) k k) (List.replicate k (.int .i64 0))) : OI B w3 (.slice (some ⟨g, 0, none⟩) k k) (List.replicate k 0) := by
  unfold OI
  rw [List.map_replicate]
  exact h

theorem fullof_ok (p : Int) (k S N : Nat) (aF bF : Nat → Nat) (w : World) (F : FullK p k S N aF bF) (hN : N = S ∨ (aF N = 0 ∧ bF N = S - 1)) :
    Calls Try.prog 23 #[.int .i64 p, .int .i64 k] w fun e w' =>
      ((N = S → e = .returned (.tuple #[.slice none 0 0, .int .i64 4])) ∧ (N < S → ∃ v, e = .returned (.tuple #[v, .int .i64 0]) ∧ OI w.heap.size w' v (digL p N k))) ∧ Below w.heap.size w w' := by
  have HS := hid (small_any p w)
  have hp := small_cases F.sm
  have h1 := F.k1
  have h8 := F.k8
  have hs2 := F.s2
  rw [F.sm] at HS
  have HT := hid (states_ok p 2000 k w (by omega) (by omega) (by omega) (by rw [F.hS]; omega) (by omega))
  rw [F.hS] at HT
  have hpos := pow_pos' (p := p) (by omega) k
  rw [F.hS] at hpos
  have HD := hid (fun (n : Nat) (w : World) (hn : n ≤ 2000) => digits_ok p n k w (by omega) (by omega) hn h8)
  have HP := hid (fun (n : Nat) (w : World) (v u : Value) (hn : n ≤ N) hv hu => periodof_ok p v u (digL p n k) (seedL k) (aF n) (bF n) w hv hu (full_recur F.sm h1 h8 n) (by rw [seed_len, F.hS]; omega) (F.per n hn).1 (by rw [seed_len, F.hS]; have := (F.per n hn).2; omega))
  have HF := hid F
  have HN := hid hN
  have hNS := F.nN
  have hq : ((S : Int) == 0) = false := by simp; omega
  have HDL := hid (fun n : Nat => dig_len p n k)
  have hpp : 2 ≤ p ∧ p ≤ 7 := by omega
  obtain ⟨hp2, hp7⟩ := hpp
  clear hp F hN hpos
  go_enter Try.func23, Try.ntmps23
  go_wp2_with fail
  refine HS.out.mono ?_
  rintro e w' ⟨rfl, rfl⟩
  go_wp2_with fail
  refine HT.out.mono ?_
  rintro e w' ⟨rfl, rfl⟩
  go_wp2_with (at_make; refine wpList_mk (w := w) _ _ 30 3 (.int .i64 0) 8 rfl rfl Try.underlying30 Try.info3 rfl (by decide) w.heap.size _ k rfl rfl rfl (by omega) (Nat.le_refl _) ?_; intro w3 hs3 hgr3 hz3; have ho3 := seed_made hs3; have hf3 := ho3.frozen (k - 1); have hc3 := ho3.cell (k - 1) (by simp; omega))
  have hb3 : Below w.heap.size w w3 := (Below.refl _ _).grown hgr3 (Nat.le_refl _) (fun k h => by cases h)
  obtain ⟨ho4, hg4⟩ := ho3.stored (k - 1) 1
  have hb4 := hb3.grown hg4 hb3.size (fun k h => by cases h; exact Nat.le_refl _)
  have ho5 : OI w.heap.size _ _ (seedL k) := ho4
  clear hs3 hgr3 hz3 ho3 hf3 hc3 hb3 hg4 ho4
  go_loopw [9] (fun i wr => ∃ n : Nat, n ≤ N ∧ i = .int .i64 n ∧ OI w.heap.size wr (.slice (some ⟨w.heap.size, 0, none⟩) k k) (seedL k) ∧ Below w.heap.size w wr) (fun i _ => S - (intOf i).toNat)
  case atStart => exact ⟨0, Nat.zero_le _, rfl, ho5, hb4⟩
  case round =>
    obtain ⟨n, hn, rfl, ho, hb⟩ := hrel
    clear ho5 hb4
    by_cases hlt : n < S
    · have HO := hid ho
      have HB := hid hb
      clear ho hb
      go_wp2_with fail
      refine (HD.out n wr (by omega)).mono ?_
      rintro e w1 ⟨⟨v, rfl, hv⟩, hb1⟩
      have hw1 := hb1.size
      have hwr := HB.out.size
      have HO1 := hid (HO.out.below (hb1.mono (Nat.le_refl _)))
      have HB1 := hid (HB.out.trans (hb1.mono hwr))
      have HV := hid hv
      clear hv hb1
      go_wp2_with fail
      refine (HP.out n w1 _ _ hn (HV.out.sl (by rw [HDL.out]; omega)) (HO1.out.sl (by rw [seed_len]; omega))).mono ?_
      rintro e w2 ⟨rfl, hb2⟩
      have HO2 := hid (HO1.out.below hb2)
      have HV2 := hid (HV.out.below hb2)
      have HB2 := hid (HB1.out.trans (hb2.mono (by omega)))
      clear hb2
      by_cases ha : aF n = 0
      · by_cases hbb : bF n = S - 1
        · have hnN : n = N := by
            rcases Nat.lt_or_ge n N with h | h
            · exact absurd ⟨ha, hbb⟩ (HF.out.no n h)
            · omega
          have q1 : ((aF n : Int) == 0) = true := by simp; omega
          have q2 : ((bF n : Int) == (S : Int) - 1) = true := by simp; omega
          generalize (aF n : Int) = xa at *
          generalize (bF n : Int) = xb at *
          have HNN := hid hnN
          clear ha hbb hnN
          go_wp2
          go_ret2
          have e := HNN.out
          subst e
          exact ⟨⟨fun h => by omega, fun _ => ⟨_, rfl, HV2.out.mono hwr⟩⟩, HB2.out⟩
        · have hnN : n + 1 ≤ N := by
            rcases Nat.lt_or_ge n N with h | h
            · omega
            · rcases HN.out with h1 | h1
              · omega
              · have : n = N := by omega
                subst this
                exact absurd h1.2 hbb
          have q1 : ((aF n : Int) == 0) = true := by simp; omega
          have q2 : ((bF n : Int) == (S : Int) - 1) = false := by simp; omega
          generalize (aF n : Int) = xa at *
          generalize (bF n : Int) = xb at *
          clear ha hbb
          go_wp2
          go_roundw
          case rel => exact ⟨n + 1, hnN, by go_num, HO2.out, HB2.out⟩
          case measure => simp [intOf]; omega
      · have hnN : n + 1 ≤ N := by
          rcases Nat.lt_or_ge n N with h | h
          · omega
          · rcases HN.out with h1 | h1
            · omega
            · have : n = N := by omega
              subst this
              exact absurd h1.1 ha
        have q1 : ((aF n : Int) == 0) = false := by simp; omega
        generalize (aF n : Int) = xa at *
        generalize (bF n : Int) = xb at *
        clear ha
        go_wp2
        go_roundw
        case rel => exact ⟨n + 1, hnN, by go_num, HO2.out, HB2.out⟩
        case measure => simp [intOf]; omega
    · obtain rfl : S = n := by omega
      have HX := hid (And.intro hn hb)
      clear ho hb hn
      go_wp2
      go_ret2
      have e : N = S := by have := HX.out.1; omega
      exact ⟨⟨fun _ => rfl, fun h => by omega⟩, HX.out.2⟩
end Go.Proofs.Ytlnfkkapepgilaa
