/-
  The walks over subset.Least, parterreref4.both, great and LeastOf: what Kruskal and Katona say. Conditions: as each walk states.
-/
import Derived.Test.YtdbfmjlnalaobaaCascOf
import Derived.BigQuiet
import Derived.Deep.QuietTactic
namespace Go.Proofs.Ytdbfmjlnalaobaa
set_option linter.unusedVariables false
open Go.RowKit Go.Shelf

theorem bin_side : ∀ (a j : Nat), bin a (j + 1) * (j + 1) = bin a j * (a - j)
  | 0, j => by rw [bin_none 0 (j + 1) (by omega), Nat.zero_sub, Nat.zero_mul, Nat.mul_zero]
  | a + 1, 0 => by rw [bin_absorb, bin_zero, bin_zero, Nat.sub_zero]
  | a + 1, i + 1 => by
    rw [bin_absorb]
    have ih := bin_side a i
    by_cases h : i ≤ a
    · rw [bin_succ a i, Nat.add_mul, show a + 1 - (i + 1) = a - i by omega, ← ih, ← Nat.mul_add]
      congr 1
      omega
    · rw [bin_none a (i + 1) (by omega), bin_none (a + 1) (i + 1) (by omega), Nat.zero_mul, Nat.zero_mul]
theorem bin_down {a j : Nat} (h : j < a) : bin a j ≤ bin a (j + 1) * (j + 1) := by
  rw [bin_side]
  exact Nat.le_mul_of_pos_right _ (by omega)
/-- Each number of a cascade. -/
theorem casc_prop : ∀ (k m i : Nat), m ≤ 1000000000 → k ≤ 30 → i < (casc k m).length → i < k ∧ k - i ≤ (casc k m).getD i 0 ∧ bin ((casc k m).getD i 0) (k - i) ≤ 1000000000 ∧ (casc k m).getD i 0 ≤ 1000000030
  | 0, m, i, _, _, h => by simp [casc] at h
  | k + 1, m, i, hm, hk, h => by
    by_cases h0 : 0 < m
    · rw [casc_step h0] at h ⊢
      cases i with
      | zero =>
        obtain ⟨g1, g2, g3⟩ := topC_spec (k := k + 1) (m := m) (by omega)
        refine ⟨by omega, ?_, by simpa using (by omega : bin (topC (k + 1) m) (k + 1) ≤ 1000000000), by simpa using (by omega : topC (k + 1) m ≤ 1000000030)⟩
        have : k + 1 ≤ topC (k + 1) m := by
          rcases Nat.lt_or_ge (topC (k + 1) m) (k + 1) with h | h
          · have h4 := bin_mono (show topC (k + 1) m + 1 ≤ k + 1 by omega) (k + 1)
            rw [bin_all] at h4
            omega
          · exact h
        simpa using this
      | succ i =>
        have ih := casc_prop k (m - bin (topC (k + 1) m) (k + 1)) i (by omega) (by omega) (by simpa using h)
        rw [List.getD_cons_succ, show k + 1 - (i + 1) = k - i by omega]
        exact ⟨by omega, ih.2⟩
    · obtain rfl : m = 0 := by omega
      rw [casc_nil] at h
      simp at h
/-- What the cascade's numbers cast below them. -/
def lsS (k : Nat) (A : List Nat) : Nat → Nat
  | 0 => 0
  | t + 1 => lsS k A t + bin (A.getD t 0) (k - 1 - t)
theorem ls_term {k m i : Nat} (hm : m ≤ 1000000000) (hk : k ≤ 30) (hi : i < (casc k m).length) : bin ((casc k m).getD i 0) (k - 1 - i) ≤ 30000000000 ∧ k - 1 - i < (casc k m).getD i 0 := by
  obtain ⟨h1, h2, h3, h4⟩ := casc_prop k m i hm hk hi
  have h5 := bin_down (a := (casc k m).getD i 0) (j := k - 1 - i) (by omega)
  rw [show k - 1 - i + 1 = k - i by omega] at h5
  have h6 : bin ((casc k m).getD i 0) (k - i) * (k - i) ≤ 1000000000 * 30 := Nat.mul_le_mul h3 (by omega)
  exact ⟨by omega, by omega⟩
theorem ls_bd {k m : Nat} (hm : m ≤ 1000000000) (hk : k ≤ 30) : ∀ t, t ≤ (casc k m).length → lsS k (casc k m) t ≤ t * 30000000000
  | 0, _ => by rw [Nat.zero_mul]; exact Nat.le_refl 0
  | t + 1, h => by
    have h1 := ls_bd hm hk t (by omega)
    have h2 := (ls_term hm hk (show t < (casc k m).length by omega)).1
    simp only [lsS]
    omega
theorem natC_getD (L : List Nat) (j : Nat) (h : j < L.length) : (natC L).getD j 0 = ((L.getD j 0 : Nat) : Int) := by simp [natC, List.getD_eq_getElem?_getD, h]

theorem Least_bad (m k : Int) (w : World) (h : m < 0 ∨ k < 1 ∨ 30 < k) :
    Calls Try.prog 26 #[.int .i64 m, .int .i64 k] w fun e w' => e = .returned (.tuple #[.int .i64 0, .int .i64 1]) ∧ Below w.heap.size w w' := by
  have H := hid (Cascade_bad m k w h)
  clear h
  go_enter Try.func26, Try.ntmps26
  go_wp2_with fail
  refine H.out.mono ?_
  rintro e w1 ⟨rfl, hb1⟩
  have HB := hid hb1
  clear hb1
  go_wp2
  go_ret2
  exact ⟨rfl, HB.out⟩
theorem Least_full (m k : Int) (w : World) (h : ¬ (m < 0 ∨ k < 1 ∨ 30 < k)) (hm : 1000000000 < m) :
    Calls Try.prog 26 #[.int .i64 m, .int .i64 k] w fun e w' => e = .returned (.tuple #[.int .i64 0, .int .i64 3]) ∧ Below w.heap.size w w' := by
  have H := hid (Cascade_full m k w h hm)
  clear h hm
  go_enter Try.func26, Try.ntmps26
  go_wp2_with fail
  refine H.out.mono ?_
  rintro e w1 ⟨rfl, hb1⟩
  have HB := hid hb1
  clear hb1
  go_wp2
  go_ret2
  exact ⟨rfl, HB.out⟩

set_option maxHeartbeats 1000000 in
theorem Least_ok (m k : Nat) (w : World) (hk : 1 ≤ k) (hk30 : k ≤ 30) (hm : m ≤ 1000000000) :
    Calls Try.prog 26 #[.int .i64 m, .int .i64 k] w fun e w' => e = .returned (.tuple #[.int .i64 (lsS k (casc k m) (casc k m).length : Nat), .int .i64 0]) ∧ Below w.heap.size w w' := by
  have H := hid (Cascade_ok m k w hk hk30 hm)
  have HP := hid (fun i hi => casc_prop k m i hm hk30 hi)
  have HT := hid (fun i hi => ls_term (k := k) (m := m) (i := i) hm hk30 hi)
  have HLB := hid (ls_bd (k := k) (m := m) hm hk30)
  have HL1 : Hid (∀ t, lsS k (casc k m) (t + 1) = lsS k (casc k m) t + bin ((casc k m).getD t 0) (k - 1 - t)) := hid (fun t => rfl)
  have HL0 : Hid (lsS k (casc k m) 0 = 0) := hid rfl
  have hlen := casc_len k m
  have HWY := hid (fun (n k : Nat) (w : World) (h1 : n ≤ 1000000031) (h2 : k ≤ 30) => ways_any n k w h1 h2)
  generalize lsS k (casc k m) = LS at *
  generalize casc k m = A at *
  go_enter Try.func26, Try.ntmps26
  go_wp2_with fail
  refine H.out.mono ?_
  rintro e w1 ⟨⟨u, rfl, hu⟩, hb1⟩
  have HB := hid hb1
  obtain ⟨a, c, rfl⟩ := hu.len
  have HFO := hid (fun (h : 0 < (natC A).length) => hu.form h)
  have HU := hid hu
  rw [natC_len] at HU HFO ⊢
  obtain ⟨N, hN⟩ : ∃ N, N = A.length := ⟨_, rfl⟩
  rw [← hN] at HU HFO HP HT HLB hlen ⊢
  have HN := hid hN
  clear hu hb1 hN
  go_wp2
  go_loopw [8, 22] (fun o i wr => ∃ t q : Nat, t ≤ N ∧ i = .int .i64 t ∧ o = .int .i64 (LS t : Nat) ∧ wr = w1.drewN q) (fun _ i _ => N - (intOf i).toNat)
  case atStart => exact ⟨0, 0, Nat.zero_le _, rfl, by rw [HL0.out]; rfl, rfl⟩
  case round =>
    obtain ⟨t, q, ht, rfl, rfl, rfl⟩ := hrel
    by_cases hlt : t < N
    · obtain ⟨g, c0, hge, hg1, hg2⟩ := HFO.out (by omega)
      obtain ⟨rfl, rfl⟩ : a = some ⟨g, 0, none⟩ ∧ c0 = c := by
        simp only [Value.slice.injEq] at hge
        exact ⟨hge.1, hge.2.2.symm⟩
      have hcell := HU.out.cell t (by rw [natC_len, ← HN.out]; exact hlt)
      rw [natC_getD A t (by rw [← HN.out]; exact hlt)] at hcell
      obtain ⟨p1, p2, p3, p4⟩ := HP.out t hlt
      obtain ⟨t1, t2⟩ := HT.out t hlt
      have hlb := HLB.out t ht
      have HL1T := hid (HL1.out t)
      have HWT := HWY.out (A.getD t 0) (k - 1 - t) (w1.drewN q) (by omega) (by omega)
      rw [cut_small (show bin (A.getD t 0) (k - 1 - t) ≤ 1152921504606846976 by omega)] at HWT
      have HWTT := hid HWT
      have hsub : (k : Int) - 1 - (t : Int) = ((k - 1 - t : Nat) : Int) := by omega
      clear HWT hge p3 t2
      generalize bin (A.getD t 0) (k - 1 - t) = b at *
      generalize A.getD t 0 = x at *
      obtain ⟨kt, hkt⟩ : ∃ kt, kt = k - 1 - t := ⟨_, rfl⟩
      rw [← hkt] at HWTT hsub
      clear hkt p2
      go_wp2_with fail
      refine HWTT.out.mono ?_
      rintro e w2 ⟨rfl, q2, rfl⟩
      go_wp2
      go_roundw
      case rel => exact ⟨t + 1, q + q2, by omega, by go_num, by rw [HL1T.out]; go_num, by trivial⟩
      case measure => simp [intOf] <;> omega
    · obtain rfl : t = N := by omega
      go_wp2
      go_ret2
      exact ⟨by rw [show LS A.length = LS t by rw [HN.out]]; rfl, below_drewN HB.out q⟩

theorem both_ok (a b : Nat) (w : World) (ha : a < 9223372036854775808) (hb : b < 9223372036854775808) :
    Calls Try.prog 55 #[.int .i64 a, .int .i64 b] w fun e w' => e = .returned (.int .i64 (Nat.gcd a b : Nat)) ∧ ∃ q, w' = w.drewN q := by
  obtain ⟨G, hG⟩ : ∃ G, G = Nat.gcd a b := ⟨_, rfl⟩
  have HG := hid hG
  rw [← hG]
  clear hG
  go_enter Try.func55, Try.ntmps55
  go_wp2
  go_loopw [0, 1] (fun x y wr => ∃ c d q : Nat, c < 9223372036854775808 ∧ d < 9223372036854775808 ∧ Hid (Nat.gcd c d = G) ∧ x = .int .i64 c ∧ y = .int .i64 d ∧ wr = w.drewN q) (fun _ y _ => (intOf y).toNat)
  case atStart => exact ⟨a, b, 0, ha, hb, hid HG.out.symm, rfl, rfl, rfl⟩
  case round =>
    obtain ⟨c, d, q, hc, hd, hg, rfl, rfl, rfl⟩ := hrel
    by_cases h0 : 0 < d
    · have hm : (c : Int).tmod (d : Int) = ((c % d : Nat) : Int) := (Int.ofNat_tmod c d).symm
      have hd0 : ¬ (d : Int) = 0 := by omega
      have hlt : c % d < d := Nat.mod_lt _ h0
      have HG2 : Hid (Nat.gcd d (c % d) = G) := hid (by rw [← hg.out, Nat.gcd_comm c d, Nat.gcd_rec d c, Nat.gcd_comm])
      clear hg
      generalize c % d = r at *
      go_wp2
      go_quiet (fail)
      go_wp2
      go_roundw
      case rel => exact ⟨d, r, q + nq, hd, by omega, HG2, rfl, rfl, by simp⟩
      case measure => simp [intOf] <;> omega
    · obtain rfl : d = 0 := by omega
      have HE : Hid (G = c) := hid (by rw [← hg.out, Nat.gcd_zero_right])
      clear hg
      go_wp2
      go_ret
      exact ⟨by rw [HE.out]; rfl, q, rfl⟩

theorem great_step {b x i q : Nat} (hi : 0 < i) (h : b * x = q * i) : b / Nat.gcd b i * (x / (i / Nat.gcd b i)) = q := by
  have hg : 0 < Nat.gcd b i := Nat.gcd_pos_of_pos_right b hi
  obtain ⟨b', hb⟩ := Nat.gcd_dvd_left b i
  obtain ⟨i', hi'⟩ := Nat.gcd_dvd_right b i
  have hco : Nat.gcd b' i' = 1 := by
    have := Nat.gcd_div (Nat.gcd_dvd_left b i) (Nat.gcd_dvd_right b i)
    rw [Nat.div_self hg] at this
    rw [← this]
    congr 1
    · exact (Nat.div_eq_of_eq_mul_right hg hb).symm
    · exact (Nat.div_eq_of_eq_mul_right hg hi').symm
  have e1 : b / Nat.gcd b i = b' := Nat.div_eq_of_eq_mul_right hg hb
  have e2 : i / Nat.gcd b i = i' := Nat.div_eq_of_eq_mul_right hg hi'
  rw [e1, e2]
  have hi'0 : 0 < i' := by
    rcases Nat.eq_zero_or_pos i' with h | h
    · rw [h, Nat.mul_zero] at hi'; omega
    · exact h
  have h2 : b' * x = q * i' := by
    have : Nat.gcd b i * (b' * x) = Nat.gcd b i * (q * i') := by
      rw [← Nat.mul_assoc, ← hb, h, Nat.mul_left_comm, ← hi']
    exact Nat.eq_of_mul_eq_mul_left hg this
  obtain ⟨x', hx⟩ : i' ∣ x := (Nat.Coprime.symm hco).dvd_of_dvd_mul_left ⟨q, by rw [h2, Nat.mul_comm]⟩
  rw [hx, Nat.mul_div_cancel_left _ hi'0]
  rw [hx] at h2
  have : i' * (b' * x') = i' * q := by rw [Nat.mul_left_comm, h2, Nat.mul_comm]
  exact Nat.eq_of_mul_eq_mul_left hi'0 this

set_option maxRecDepth 100000 in
set_option maxHeartbeats 1000000 in
theorem great_ok (n k : Nat) (w : World) (hn : n ≤ 1000000031) (hk : k ≤ 30) (hkn : k ≤ n) (hb : bin n k ≤ 1152921504606846976) :
    Calls Try.prog 48 #[.int .i64 n, .int .i64 k] w fun e w' => e = .returned (.int .i64 (bin n k : Nat)) ∧ ∃ q, w' = w.drewN q := by
  obtain ⟨d, hd⟩ : ∃ d, n = d + k := ⟨n - k, by omega⟩
  have hnd : (n : Int) - (k : Int) = (d : Int) := by omega
  obtain ⟨B, hB⟩ : ∃ B : Nat → Nat, B = fun j => bin (d + j) j := ⟨_, rfl⟩
  have HA' : Hid (∀ j, B j * (d + j + 1) = B (j + 1) * (j + 1)) := hid (fun j => by rw [hB]; exact (bin_absorb (d + j) j).symm)
  have HMO : Hid (∀ a b, a ≤ b → B a ≤ B b) := hid (fun a b h => by rw [hB]; exact diag_mono d h)
  have H0' : Hid (B 0 = 1) := hid (by rw [hB]; exact bin_zero _)
  have HPO : Hid (∀ j, 0 < B j) := hid (fun j => by rw [hB]; exact bin_pos _ _ (by omega))
  have HK' : bin n k = B k := by rw [hB, hd]
  rw [HK'] at hb ⊢
  have hdk : d ≤ 1000000031 := by omega
  have HDK := hid hd
  have hkn' : ¬ (n : Int) < (k : Int) := by omega
  have HGC := hid (fun (a b : Nat) (w : World) => both_ok a b w)
  clear HK' hB hd
  go_enter Try.func48, Try.ntmps48
  go_wp2
  go_loopw [5, 6] (fun o i wr => ∃ j q : Nat, j ≤ k ∧ i = .int .i64 ((j : Int) + 1) ∧ o = .int .i64 (B j : Nat) ∧ wr = w.drewN q) (fun _ i _ => k + 2 - (intOf i).toNat)
  case atStart => exact ⟨0, 0, Nat.zero_le _, rfl, by rw [H0'.out]; rfl, rfl⟩
  case round =>
    obtain ⟨j, q, hj, rfl, rfl, rfl⟩ := hrel
    by_cases hlt : j < k
    · have hA := HA'.out j
      have hm1 := HMO.out (j + 1) k (by omega)
      have hm0 := HMO.out j k hj
      have hstep := great_step (b := B j) (x := d + j + 1) (i := j + 1) (q := B (j + 1)) (by omega) hA
      have hgc := HGC.out (B j) (j + 1) (w.drewN q) (by omega) (by omega)
      have hg0 : 0 < Nat.gcd (B j) (j + 1) := Nat.gcd_pos_of_pos_right _ (by omega)
      have hgj : Nat.gcd (B j) (j + 1) ≤ j + 1 := Nat.le_of_dvd (by omega) (Nat.gcd_dvd_right _ _)
      have hj0 : 0 < (j + 1) / Nat.gcd (B j) (j + 1) := Nat.div_pos hgj hg0
      have hjl : (j + 1) / Nat.gcd (B j) (j + 1) ≤ j + 1 := Nat.div_le_self _ _
      rw [show ((j + 1 : Nat) : Int) = (j : Int) + 1 by omega] at hgc
      obtain ⟨b1, hb1⟩ : ∃ b1, b1 = B (j + 1) := ⟨_, rfl⟩
      rw [← hb1] at hstep hm1
      have HB1 := hid hb1
      clear hA hb1
      generalize Nat.gcd (B j) (j + 1) = g at *
      have hd1 : ((j : Int) + 1).tdiv (g : Int) = (((j + 1) / g : Nat) : Int) := by rw [show (j : Int) + 1 = ((j + 1 : Nat) : Int) by omega]; exact (Int.ofNat_tdiv _ _).symm
      have hd2 : ((B j : Nat) : Int).tdiv (g : Int) = ((B j / g : Nat) : Int) := (Int.ofNat_tdiv _ _).symm
      have hb2 : B j / g ≤ B j := Nat.div_le_self _ _
      generalize (j + 1) / g = jg at *
      have hd3 : ((d : Int) + ((j : Int) + 1)).tdiv (jg : Int) = (((d + j + 1) / jg : Nat) : Int) := by rw [show (d : Int) + ((j : Int) + 1) = ((d + j + 1 : Nat) : Int) by omega]; exact (Int.ofNat_tdiv _ _).symm
      have hb3 : (d + j + 1) / jg ≤ d + j + 1 := Nat.div_le_self _ _
      generalize (d + j + 1) / jg = xj at *
      generalize B j / g = bg at *
      have hmul : (bg : Int) * (xj : Int) = (b1 : Int) := by rw [← hstep, Int.natCast_mul]
      have hgi : ¬ (g : Int) = 0 := by omega
      have hji : ¬ (jg : Int) = 0 := by omega
      have HGG := hid hgc
      clear hstep hgc
      go_wp2_with fail
      refine HGG.out.mono ?_
      rintro e w1 ⟨rfl, q2, rfl⟩
      go_wp2
      go_quiet (fail)
      go_wp2
      go_roundw
      case rel => exact ⟨j + 1, q + q2 + nq, by omega, by go_num, by rw [HB1.out], by trivial⟩
      case measure => simp [intOf] <;> omega
    · obtain rfl : j = k := by omega
      go_wp2
      go_ret
      exact ⟨rfl, q, rfl⟩
end Go.Proofs.Ytdbfmjlnalaobaa
