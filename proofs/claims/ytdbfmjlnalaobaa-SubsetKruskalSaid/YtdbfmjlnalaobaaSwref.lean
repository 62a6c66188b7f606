/-
  The walk over parterreref4.Ways, by Pascal's rule. Conditions: n at most 61.
-/
import Derived.Test.YtdbfmjlnalaobaaSways
import Derived.RegionTactic
namespace Go.Proofs.Ytdbfmjlnalaobaa
set_option linter.unusedVariables false
open Go.RowKit

/-- Pascal's row while it is made: behind j the new numbers. -/
def pasL (K m j : Nat) : List Int := (List.range (K + 1)).map fun t => if j < t then (bin (m + 1) t : Int) else (bin m t : Int)
theorem pas_len (K m j : Nat) : (pasL K m j).length = K + 1 := by simp [pasL]
theorem pas_get (K m j t : Nat) (h : t ≤ K) : (pasL K m j)[t]? = some (if j < t then (bin (m + 1) t : Int) else (bin m t : Int)) := by
  unfold pasL
  rw [List.getElem?_map, List.getElem?_range (by omega)]
  rfl
theorem pas_getD (K m j t : Nat) (h : t ≤ K) : (pasL K m j).getD t 0 = if j < t then (bin (m + 1) t : Int) else (bin m t : Int) := by
  rw [List.getD_eq_getElem?_getD, pas_get K m j t h]
  rfl
theorem pas_next (K m : Nat) : pasL K m 0 = pasL K (m + 1) K := by
  apply List.ext_getElem?
  intro t
  by_cases h : t ≤ K
  · rw [pas_get K m 0 t h, pas_get K (m + 1) K t h, if_neg (show ¬ K < t by omega)]
    by_cases e : 0 < t
    · rw [if_pos e]
    · rw [if_neg e, show t = 0 by omega, bin_zero, bin_zero]
  · rw [List.getElem?_eq_none (by rw [pas_len]; omega), List.getElem?_eq_none (by rw [pas_len]; omega)]
theorem pas_set (K m j : Nat) (h : j + 1 ≤ K) : (pasL K m (j + 1)).set (j + 1) (bin (m + 1) (j + 1) : Int) = pasL K m j := by
  apply List.ext_getElem?
  intro t
  by_cases e : j + 1 = t
  · subst e
    rw [List.getElem?_set_self (by rw [pas_len]; omega), pas_get K m j _ h, if_pos (by omega)]
  · rw [List.getElem?_set_ne e]
    by_cases ht : t ≤ K
    · rw [pas_get K m _ t ht, pas_get K m _ t ht]
      by_cases h2 : j < t
      · rw [if_pos h2, if_pos (by omega)]
      · rw [if_neg h2, if_neg (by omega)]
    · rw [List.getElem?_eq_none (by rw [pas_len]; omega), List.getElem?_eq_none (by rw [pas_len]; omega)]
theorem pas_first (K : Nat) : (List.replicate (K + 1) (0 : Int)).set 0 1 = pasL K 0 K := by
  apply List.ext_getElem?
  intro t
  by_cases ht : t ≤ K
  · rw [pas_get K 0 K t ht, if_neg (by omega)]
    cases t with
    | zero => rw [List.getElem?_set_self (by simp), bin_zero]; rfl
    | succ t =>
      rw [List.getElem?_set_ne (by omega), List.getElem?_replicate, if_pos (by omega)]
      rfl
  · rw [List.getElem?_eq_none (by simp; omega), List.getElem?_eq_none (by rw [pas_len]; omega)]

theorem pas_made {B K : Nat} {w : World} {g : Nat} (h : Ow 3 B w (.slice (some ⟨g, 0, none⟩) (K + 1) (K + 1)) (List.replicate (K + 1) (.int .i64 0))) : OI B w (.slice (some ⟨g, 0, none⟩) (K + 1) (K + 1)) (List.replicate (K + 1) 0) := by
  unfold OI
  rw [List.map_replicate]
  exact h

theorem Ways_none (n k : Int) (w : World) (h : k < 0 ∨ n < k) :
    Calls Try.prog 35 #[.int .i64 n, .int .i64 k] w fun e w' => e = .returned (.int .i64 0) ∧ Below w.heap.size w w' := by
  go_enter Try.func35, Try.ntmps35
  rcases h with h | h
  · go_wp2
    go_ret
    exact ⟨rfl, Below.refl _ _⟩
  · by_cases h0 : k < 0
    · go_wp2
      go_ret
      exact ⟨rfl, Below.refl _ _⟩
    · go_wp2
      go_ret
      exact ⟨rfl, Below.refl _ _⟩

set_option maxRecDepth 100000 in
set_option maxHeartbeats 2000000 in
/-- From the place where the lesser one of k and n - k is chosen. -/
theorem Ways_ok (n k : Nat) (w : World) (hn : n ≤ 61) (hk : k ≤ n) :
    Calls Try.prog 35 #[.int .i64 n, .int .i64 k] w fun e w' => e = .returned (.int .i64 (bin n k : Nat)) ∧ Below w.heap.size w w' := by
  obtain ⟨K, hK, hbin⟩ : ∃ K : Nat, (k ≤ n - k ∧ K = k ∨ n - k < k ∧ K = n - k) ∧ bin n k = bin n K := by
    by_cases h : k ≤ n - k
    · exact ⟨k, .inl ⟨h, rfl⟩, rfl⟩
    · exact ⟨n - k, .inr ⟨by omega, rfl⟩, (bin_sym n k hk).symm⟩
  have HKK : K ≤ n := by omega
  have HB := hid (fun m t (h : m ≤ 61) => bin61 m t h)
  have HL := hid (pas_len K)
  have HG := hid (fun m j t h => pas_getD K m j t h)
  have HN := hid (pas_next K)
  have HS := hid (fun m j h => pas_set K m j h)
  have HF := hid (pas_first K)
  have HBS := hid bin_succ
  have hcast : (K : Int) + 1 = ((K + 1 : Nat) : Int) := by omega
  have HC := hid hcast
  rw [hbin]
  clear hbin hcast
  generalize bin = bb at *
  generalize pasL K = PL at *
  go_enter Try.func35, Try.ntmps35
  have h1 : ¬ (k : Int) < 0 := by omega
  have h3 : ¬ (n : Int) < (k : Int) := by omega
  obtain ⟨k0, hk0⟩ : ∃ k0 : Int, k0 = (k : Int) := ⟨_, rfl⟩
  rcases hK with ⟨hK1, hK⟩ | ⟨hK1, hK⟩
  · have h2 : ¬ (n : Int) - (k : Int) < (k : Int) := by omega
    have h4 : (k : Int) = (K : Int) := by omega
    clear hK1 hK
    go_wp2_with (at_make; refine wpList_mk (w := w) _ _ 22 3 (.int .i64 0) 8 rfl rfl Try.underlying22 Try.info3 rfl (by decide) w.heap.size _ (K + 1) rfl rfl HC.out (by omega) (Nat.le_refl _) ?_; intro w3 hs3 hgr3 hz3; have ho3 : OI w.heap.size w3 _ _ := pas_made hs3; have hf3 := ho3.frozen 0; have hc3 := ho3.cell 0 (by simp))
    have ho4 := (ho3.stored 0 1).1
    have hg4 := (ho3.stored 0 1).2
    rw [HF.out] at ho4
    have HB3 := hid (((Below.refl w.heap.size w).grown hgr3 (Nat.le_refl _) (fun k h => by cases h)).grown hg4 (Nat.le_of_lt hz3) (fun b e => by cases e; exact Nat.le_refl _))
    have HO3 := hid ho4
    clear ho3 ho4 hf3 hc3 hs3 hgr3 hz3 hg4
    go_loopw [6] (fun i wr => ∃ m : Nat, m ≤ n ∧ i = .int .i64 ((m : Int) + 1) ∧ OI w.heap.size wr (.slice (some ⟨w.heap.size, 0, none⟩) (K + 1) (K + 1)) (PL m K) ∧ Below w.heap.size w wr) (fun i _ => n + 2 - (intOf i).toNat)
    case atStart => exact ⟨0, Nat.zero_le _, rfl, HO3.out, HB3.out⟩
    case round =>
      obtain ⟨m, hm, rfl, ho, hb⟩ := hrel
      clear HO3 HB3
      by_cases hmn : m < n
      · have HX := hid (And.intro ho hb)
        clear ho hb
        obtain ⟨w0, rfl⟩ : ∃ w0, w0 = wr := ⟨wr, rfl⟩
        go_wp2
        go_loopw [7] (fun j wq => ∃ t : Nat, t ≤ K ∧ j = .int .i64 t ∧ OI w.heap.size wq (.slice (some ⟨w.heap.size, 0, none⟩) (K + 1) (K + 1)) (PL m t) ∧ Below w.heap.size w wq) (fun j _ => (intOf j).toNat)
        case atStart => exact ⟨K, Nat.le_refl _, (by simp), HX.out.1, HX.out.2⟩
        case round =>
          obtain ⟨t, ht, rfl, ho, hb⟩ := hrel
          by_cases ht0 : 0 < t
          · obtain ⟨j, rfl⟩ : ∃ j, t = j + 1 := ⟨t - 1, by omega⟩
            have hlen := HL.out m (j + 1)
            have hc1 := ho.cell (j + 1) (by omega)
            have hc0 := ho.cell j (by omega)
            rw [HG.out m (j + 1) (j + 1) ht, if_neg (by omega)] at hc1
            rw [HG.out m (j + 1) j (by omega), if_neg (by omega)] at hc0
            have hf1 := ho.frozen (j + 1)
            obtain ⟨hs1, hg1⟩ := ho.stored (j + 1) (bb (m + 1) (j + 1) : Int)
            rw [HS.out m j ht] at hs1
            have hv1 := HB.out m (j + 1) (by omega)
            have hv0 := HB.out m j (by omega)
            have hv2 := HB.out (m + 1) (j + 1) (by omega)
            have hbs := HBS.out m j
            have hsum : (bb m (j + 1) : Int) + (bb m j : Int) = (bb (m + 1) (j + 1) : Int) := by omega
            have HY := hid (And.intro hs1 (hb.grown hg1 hb.size (fun b e => by cases e; exact Nat.le_refl _)))
            have hc2 : (wr.setCell ⟨w.heap.size, j + 1, none⟩ (.int .i64 (bb (m + 1) (j + 1) : Int))).cell? ⟨w.heap.size, j + 1, none⟩ = some (.int .i64 (bb (m + 1) (j + 1) : Int)) := by
              have := hs1.cell (j + 1) (by rw [HL.out]; omega)
              rwa [HG.out m j (j + 1) ht, if_pos (by omega)] at this
            have hz : 0 ≤ (bb (m + 1) (j + 1) : Int) ∧ (bb (m + 1) (j + 1) : Int) ≤ 232714176627630544 := by omega
            have hz3 : wrap64 (bb (m + 1) (j + 1) : Int) = (bb (m + 1) (j + 1) : Int) := by rw [wrap64]; omega
            clear ho hb hs1 hg1 hbs hlen ht0
            generalize (bb (m + 1) (j + 1) : Int) = z at *
            generalize (bb m (j + 1) : Int) = x at *
            generalize (bb m j : Int) = y at *
            go_wp2
            go_region
            all_goals
              go_wp2
              go_roundw
            case rel => exact ⟨j, by omega, by go_num, HY.out.1, HY.out.2.drew⟩
            case measure => simp [intOf] <;> omega
          · obtain rfl : t = 0 := by omega
            rw [HN.out] at ho
            have HY := hid (And.intro ho hb)
            clear ho hb
            go_wp2
            go_roundw
            case rel => exact ⟨m + 1, by omega, by go_num, HY.out.1, HY.out.2⟩
            case measure => simp [intOf] <;> omega
      · obtain rfl : n = m := by omega
        have hc1 := ho.cell K (by rw [HL.out]; omega)
        rw [HG.out n K K (Nat.le_refl _), if_neg (by omega)] at hc1
        have HX := hid hb
        clear ho hb
        go_wp2
        go_ret
        exact ⟨rfl, HX.out⟩
  · have h2 : (n : Int) - (k : Int) < (k : Int) := by omega
    have h4 : (n : Int) - (k : Int) = (K : Int) := by omega
    clear hK1 hK
    go_wp2_with (at_make; refine wpList_mk (w := w) _ _ 22 3 (.int .i64 0) 8 rfl rfl Try.underlying22 Try.info3 rfl (by decide) w.heap.size _ (K + 1) rfl rfl HC.out (by omega) (Nat.le_refl _) ?_; intro w3 hs3 hgr3 hz3; have ho3 : OI w.heap.size w3 _ _ := pas_made hs3; have hf3 := ho3.frozen 0; have hc3 := ho3.cell 0 (by simp))
    have ho4 := (ho3.stored 0 1).1
    have hg4 := (ho3.stored 0 1).2
    rw [HF.out] at ho4
    have HB3 := hid (((Below.refl w.heap.size w).grown hgr3 (Nat.le_refl _) (fun k h => by cases h)).grown hg4 (Nat.le_of_lt hz3) (fun b e => by cases e; exact Nat.le_refl _))
    have HO3 := hid ho4
    clear ho3 ho4 hf3 hc3 hs3 hgr3 hz3 hg4
    go_loopw [6] (fun i wr => ∃ m : Nat, m ≤ n ∧ i = .int .i64 ((m : Int) + 1) ∧ OI w.heap.size wr (.slice (some ⟨w.heap.size, 0, none⟩) (K + 1) (K + 1)) (PL m K) ∧ Below w.heap.size w wr) (fun i _ => n + 2 - (intOf i).toNat)
    case atStart => exact ⟨0, Nat.zero_le _, rfl, HO3.out, HB3.out⟩
    case round =>
      obtain ⟨m, hm, rfl, ho, hb⟩ := hrel
      clear HO3 HB3
      by_cases hmn : m < n
      · have HX := hid (And.intro ho hb)
        clear ho hb
        obtain ⟨w0, rfl⟩ : ∃ w0, w0 = wr := ⟨wr, rfl⟩
        go_wp2
        go_loopw [7] (fun j wq => ∃ t : Nat, t ≤ K ∧ j = .int .i64 t ∧ OI w.heap.size wq (.slice (some ⟨w.heap.size, 0, none⟩) (K + 1) (K + 1)) (PL m t) ∧ Below w.heap.size w wq) (fun j _ => (intOf j).toNat)
        case atStart => exact ⟨K, Nat.le_refl _, (by simp), HX.out.1, HX.out.2⟩
        case round =>
          obtain ⟨t, ht, rfl, ho, hb⟩ := hrel
          by_cases ht0 : 0 < t
          · obtain ⟨j, rfl⟩ : ∃ j, t = j + 1 := ⟨t - 1, by omega⟩
            have hlen := HL.out m (j + 1)
            have hc1 := ho.cell (j + 1) (by omega)
            have hc0 := ho.cell j (by omega)
            rw [HG.out m (j + 1) (j + 1) ht, if_neg (by omega)] at hc1
            rw [HG.out m (j + 1) j (by omega), if_neg (by omega)] at hc0
            have hf1 := ho.frozen (j + 1)
            obtain ⟨hs1, hg1⟩ := ho.stored (j + 1) (bb (m + 1) (j + 1) : Int)
            rw [HS.out m j ht] at hs1
            have hv1 := HB.out m (j + 1) (by omega)
            have hv0 := HB.out m j (by omega)
            have hv2 := HB.out (m + 1) (j + 1) (by omega)
            have hbs := HBS.out m j
            have hsum : (bb m (j + 1) : Int) + (bb m j : Int) = (bb (m + 1) (j + 1) : Int) := by omega
            have HY := hid (And.intro hs1 (hb.grown hg1 hb.size (fun b e => by cases e; exact Nat.le_refl _)))
            have hc2 : (wr.setCell ⟨w.heap.size, j + 1, none⟩ (.int .i64 (bb (m + 1) (j + 1) : Int))).cell? ⟨w.heap.size, j + 1, none⟩ = some (.int .i64 (bb (m + 1) (j + 1) : Int)) := by
              have := hs1.cell (j + 1) (by rw [HL.out]; omega)
              rwa [HG.out m j (j + 1) ht, if_pos (by omega)] at this
            have hz : 0 ≤ (bb (m + 1) (j + 1) : Int) ∧ (bb (m + 1) (j + 1) : Int) ≤ 232714176627630544 := by omega
            have hz3 : wrap64 (bb (m + 1) (j + 1) : Int) = (bb (m + 1) (j + 1) : Int) := by rw [wrap64]; omega
            clear ho hb hs1 hg1 hbs hlen ht0
            generalize (bb (m + 1) (j + 1) : Int) = z at *
            generalize (bb m (j + 1) : Int) = x at *
            generalize (bb m j : Int) = y at *
            go_wp2
            go_region
            all_goals
              go_wp2
              go_roundw
            case rel => exact ⟨j, by omega, by go_num, HY.out.1, HY.out.2.drew⟩
            case measure => simp [intOf] <;> omega
          · obtain rfl : t = 0 := by omega
            rw [HN.out] at ho
            have HY := hid (And.intro ho hb)
            clear ho hb
            go_wp2
            go_roundw
            case rel => exact ⟨m + 1, by omega, by go_num, HY.out.1, HY.out.2⟩
            case measure => simp [intOf] <;> omega
      · obtain rfl : n = m := by omega
        have hc1 := ho.cell K (by rw [HL.out]; omega)
        rw [HG.out n K K (Nat.le_refl _), if_neg (by omega)] at hc1
        have HX := hid hb
        clear ho hb
        go_wp2
        go_ret
        exact ⟨rfl, HX.out⟩
end Go.Proofs.Ytdbfmjlnalaobaa
