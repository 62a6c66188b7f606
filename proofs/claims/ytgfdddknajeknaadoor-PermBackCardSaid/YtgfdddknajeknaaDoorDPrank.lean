/-
  The walks over perm.Rank, parterreref1.Factorial and PermRank. Conditions: the slice can be read; a permutation where it is said.
-/
import Derived.Test.YtgfdddknajeknaaDoorPcyc
import Derived.Test.YtgfdddknajeknaaDoorRankP
namespace Go.Proofs.YtgfdddknajeknaaDoor
set_option linter.unusedVariables false
open Go.RowKit

theorem Rank_bad (v : Value) (l : List Int) (w : World) (hl : Sl w v l) (h : permE l ≠ 0) :
    Calls Tryd.prog 12 #[v] w fun e w' => e = .returned (.tuple #[.int .i64 0, .int .i64 (permE l)]) ∧ Below w.heap.size w w' := by
  have H1 := hid (check_any v l w hl)
  have hq : (permE l != 0) = true := by simpa using h
  clear h hl
  generalize permE l = z at *
  go_enter Tryd.func12, Tryd.ntmps12
  go_wp2_with fail
  refine H1.out.mono ?_
  rintro e w1 ⟨rfl, hb1⟩
  go_wp2
  go_ret2
  exact ⟨rfl, hb1⟩

theorem sumN_none (g : Nat → Nat) : ∀ k, (∀ i, i < k → g i = 0) → sumN g k = 0 := fun k h => by rw [sumN_congr k (h := fun _ => 0) h, sumN_zero]

set_option maxHeartbeats 1000000 in
theorem Rank_ok (v : Value) (l : List Int) (w : World) (hl : Sl w v l) (h : permE l = 0) :
    Calls Tryd.prog 12 #[v] w fun e w' => e = .returned (.tuple #[.int .i64 (rankH (fL l) l.length l.length : Nat), .int .i64 0]) ∧ Below w.heap.size w w' := by
  have H1 := hid (check_any v l w hl)
  rw [h] at H1
  have P := pm_of h
  have h12 := P.n12
  obtain ⟨a, cp, N, rfl, hN, hl1, hl2⟩ := hl.open
  rw [hN.out] at P h12 ⊢
  have HAT := hid P.at'
  have HBD := hid (fun i (hi : i ≤ N) => (Nat.le_trans (rankH_bd (f := fL l) h12 i) (Nat.pow_le_pow_right (by omega) (show i ≤ 12 by omega)) : rankH (fL l) N i + 1 ≤ 13 ^ 12))
  have hp13 : (13 : Nat) ^ 12 = 23298085122481 := by decide
  rw [hp13] at HBD
  have HLB := hid (fun i => (less_bd (fL l) N i).1)
  have HR1 : Hid (∀ i, rankH (fL l) N (i + 1) = rankH (fL l) N i * (N - i) + lessB (fL l) N i) := hid (fun i => rfl)
  have HR0 : Hid (rankH (fL l) N 0 = 0) := hid rfl
  obtain ⟨B, hB⟩ : ∃ B : Nat → Nat → Nat, B = fun i t => sumN (fun m => if i < m ∧ fL l m < fL l i then 1 else 0) t := ⟨_, rfl⟩
  have HB1 : Hid (∀ i t, B i (t + 1) = B i t + if i < t ∧ fL l t < fL l i then 1 else 0) := hid (fun i t => by rw [hB]; rfl)
  have HB0 : Hid (∀ i, B i (i + 1) = 0) := hid (fun i => by rw [hB]; exact sumN_none _ _ (fun m hm => if_neg (by omega)))
  have HBN : Hid (∀ i, B i N = lessB (fL l) N i) := hid (fun i => by rw [hB]; rfl)
  have HBL : Hid (∀ i t, B i t ≤ t) := hid (fun i t => by
    rw [hB]
    show sumN _ t ≤ t
    induction t with
    | zero => exact Nat.le_refl _
    | succ t ih =>
      simp only [sumN]
      split <;> omega)
  clear hB hp13 h hl P
  generalize rankH (fL l) N = R at *
  generalize lessB (fL l) N = L at *
  go_enter Tryd.func12, Tryd.ntmps12
  go_wp2_with fail
  refine H1.out.mono ?_
  rintro e w1 ⟨rfl, hb1⟩
  have HB := hid hb1
  clear hb1
  go_wp2
  go_loopw [5, 18] (fun o i wr => ∃ k : Nat, k ≤ N ∧ i = .int .i64 k ∧ o = .int .i64 (R k : Nat) ∧ wr = w1) (fun _ i _ => N - (intOf i).toNat)
  case atStart => exact ⟨0, Nat.zero_le _, rfl, by rw [HR0.out]; rfl, rfl⟩
  case round =>
    obtain ⟨k, hk, rfl, rfl, rfl⟩ := hrel
    by_cases hlt : k < N
    · obtain ⟨b, off, rfl, hblt, hc⟩ := hl2 (by omega)
      have c1 := (HB.out.cell (p := ⟨b, off + k, none⟩) hblt).trans (hc k hlt)
      rw [HAT.out k hlt] at c1
      have hbd := HBD.out k hk
      have hbd2 := HBD.out (k + 1) hlt
      have hlb := HLB.out k
      have HRK : Hid (R (k + 1) = R k * (N - k) + L k) := hid (HR1.out k)
      have hm1 : R k * (N - k) ≤ R k * 12 := Nat.mul_le_mul_left _ (by omega)
      have hm2 : ((R k * (N - k) : Nat) : Int) = (R k : Int) * ((N : Int) - (k : Int)) := by rw [Int.natCast_mul, Int.natCast_sub (by omega)]
      have HM2 := hid hm2
      have hm3 : 0 ≤ (R k : Int) * ((N : Int) - (k : Int)) ∧ (R k : Int) * ((N : Int) - (k : Int)) ≤ 23298085122481 * 12 := by omega
      have hcp : k + 1 ≤ cp := by omega
      have HBNK := hid (HBN.out k)
      obtain ⟨w0, rfl⟩ : ∃ w0, w0 = wr := ⟨wr, rfl⟩
      clear hm1 hm2
      have HCP : Hid (∀ t : Nat, k + 1 + t < N → w0.cell? ⟨b, off + (k + 1) + t, none⟩ = some (.int .i64 (fL l (k + 1 + t)))) := hid (fun t ht => by
        have h1 := (HB.out.cell (p := ⟨b, off + (k + 1 + t), none⟩) hblt).trans (hc (k + 1 + t) ht)
        rw [HAT.out _ ht] at h1
        rw [Nat.add_assoc]
        exact h1)
      have HFIN : Hid (((R (k + 1) : Nat) : Int) = (R k : Int) * ((N : Int) - (k : Int)) + (B k N : Int)) := hid (by rw [HRK.out, HBNK.out, Int.natCast_add, HM2.out])
      have hblN := HBL.out k N
      have HB0K := hid (HB0.out k)
      clear hc hl2
      by_cases hcpk : cp = k + 1
      · have hNk : N = k + 1 := by omega
        have hN1 : N - (k + 1) = 0 := by omega
        rw [← hNk] at HB0K
        rw [HB0K.out] at HFIN
        clear hblN
        go_wp2
        go_loopw [8, 28] (fun s j wq => s = .int .i64 0 ∧ j = .int .i64 0 ∧ wq = w0) (fun _ _ _ => 0)
        case atStart => exact ⟨rfl, rfl, rfl⟩
        case round =>
          obtain ⟨rfl, rfl, rfl⟩ := hrel
          go_wp2
          go_roundw
          case rel => exact ⟨k + 1, by omega, by go_num, by rw [HFIN.out, hNk]; simp, by simp⟩
          case measure => simp [intOf] <;> omega
      · go_wp2
        go_loopw [8, 28] (fun s j wq => ∃ t : Nat, k + 1 + t ≤ N ∧ j = .int .i64 t ∧ s = .int .i64 (B k (k + 1 + t) : Nat) ∧ wq = w0) (fun _ j _ => N - (intOf j).toNat)
        case atStart => exact ⟨0, by omega, rfl, by rw [Nat.add_zero, HB0K.out]; rfl, rfl⟩
        case round =>
          obtain ⟨t, ht, rfl, rfl, rfl⟩ := hrel
          have hbt := HBL.out k (k + 1 + t)
          by_cases htN : k + 1 + t < N
          · have c2 := HCP.out t htN
            have hB1 := HB1.out k (k + 1 + t)
            by_cases hf : fL l (k + 1 + t) < fL l k
            · rw [if_pos ⟨by omega, hf⟩] at hB1
              have HX : Hid (B k (k + 1 + (t + 1)) = B k (k + 1 + t) + 1) := hid hB1
              have hf' : (fL l (k + 1 + t) : Int) < (fL l k : Int) := by omega
              clear hB1 hf hblN
              generalize B k (k + 1 + t) = s at *
              generalize (fL l (k + 1 + t) : Int) = x at *
              generalize (fL l k : Int) = y at *
              go_wp2
              go_roundw
              case rel => exact ⟨t + 1, by omega, by go_num, by rw [HX.out]; go_num, by simp⟩
              case measure => simp [intOf] <;> omega
            · rw [if_neg (fun h => hf h.2)] at hB1
              have HX : Hid (B k (k + 1 + (t + 1)) = B k (k + 1 + t)) := hid (by rw [← Nat.add_assoc, hB1, Nat.add_zero])
              have hf' : ¬ (fL l (k + 1 + t) : Int) < (fL l k : Int) := by omega
              clear hB1 hf hblN
              generalize B k (k + 1 + t) = s at *
              generalize (fL l (k + 1 + t) : Int) = x at *
              generalize (fL l k : Int) = y at *
              go_wp2
              go_roundw
              case rel => exact ⟨t + 1, by omega, by go_num, by rw [HX.out], by simp⟩
              case measure => simp [intOf] <;> omega
          · have hN1 : N - (k + 1) = t := by omega
            have hN2 : k + 1 + t = N := by omega
            rw [hN2]
            clear hN2 hbt
            generalize B k N = s at *
            go_wp2
            go_roundw
            case rel => exact ⟨k + 1, by omega, by go_num, by rw [HFIN.out], by simp⟩
            case measure => simp [intOf] <;> omega
    · obtain rfl : N = k := by omega
      go_wp2
      go_ret2
      exact ⟨rfl, HB.out⟩

theorem fac_bd : ∀ n, n ≤ 12 → 1 ≤ fac n ∧ fac n ≤ 479001600 := by
  intro n h
  have : ∀ n, n < 13 → 1 ≤ fac n ∧ fac n ≤ 479001600 := by decide
  exact this n (by omega)
/-- What ref counts. -/
theorem less_cut {f : Nat → Nat} {N i : Nat} (P : Pm N f) (hi : i < N) : sumN (fun x => if aheadB f i x = false then 1 else 0) (f i) = lessA f N i := by
  unfold lessA
  rw [← sumN_cut (fun x => if aheadB f i x = false then 1 else 0) N (Nat.le_of_lt (P.lt i hi))]
  refine sumN_congr N fun x hx => ?_
  by_cases h1 : x < f i
  · rw [if_pos h1]
    by_cases h2 : aheadB f i x = false
    · rw [if_pos h2, if_pos ⟨h1, h2⟩]
    · rw [if_neg h2, if_neg (fun h => h2 h.2)]
  · rw [if_neg h1, if_neg (fun h => h1 h.1)]
theorem ahead_succ (f : Nat → Nat) (j x : Nat) : aheadB f (j + 1) x = (aheadB f j x || f j == x) := by
  unfold aheadB
  rw [List.range_succ, List.any_append]
  simp
theorem rankS_bd {f : Nat → Nat} {N : Nat} (h12 : N ≤ 12) : ∀ i, i ≤ N → rankS f N i ≤ i * 5748019200
  | 0, _ => by simp [rankS]
  | i + 1, h => by
    have ih := rankS_bd (f := f) h12 i (by omega)
    have hl := (less_bd f N i).2
    have hf := (fac_bd (N - 1 - i) (by omega)).2
    simp only [rankS]
    have : lessA f N i * fac (N - 1 - i) ≤ 12 * 479001600 := Nat.mul_le_mul (by omega) hf
    omega
end Go.Proofs.YtgfdddknajeknaaDoor
