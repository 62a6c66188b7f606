/-
  The walk over parterreref1.RowOf. Conditions: the slices can be read; what was handed over is a recurrence and its seed.
-/
import Derived.Test.YtlnfkkapepgilaaRow
import Derived.Test.YtlnfkkapepgilaaRbase
namespace Go.Proofs.Ytlnfkkapepgilaa
set_option linter.unusedVariables false
open Go.RowKit

theorem small_bd {p : Int} (h : smallB p = true) : 2 ≤ p ∧ p ≤ 7 := by
  rcases small_cases h with rfl | rfl | rfl | rfl <;> omega
theorem getD_q (l : List Int) (i : Nat) : l.getD i 0 = l[i]?.getD 0 := List.getD_eq_getElem?_getD

/-- A recurrence with its seed. -/
structure Recur (p : Int) (taps seed : List Int) : Prop where
  p2 : 2 ≤ p
  p7 : p ≤ 7
  k1 : 1 ≤ taps.length
  k8 : taps.length ≤ 8
  len : seed.length = taps.length
  ft : ∀ x ∈ taps, 0 ≤ x ∧ x < p
  fs : ∀ x ∈ seed, 0 ≤ x ∧ x < p
theorem runE_ok {p : Int} {taps seed : List Int} (h : runE p taps seed = 0) : Recur p taps seed := by
  by_cases h1 : smallB p = false
  · have e : tapsE p taps = 1 := by unfold tapsE; rw [if_pos h1]
    unfold runE at h
    rw [e] at h
    simp at h
  have hs : smallB p = true := by simpa using h1
  by_cases h2 : taps.length = 0 ∨ 8 < taps.length
  · have e : tapsE p taps = 2 := by unfold tapsE; rw [if_neg h1, if_pos h2]
    unfold runE at h
    rw [e] at h
    simp at h
  by_cases h3 : fitB p taps = false
  · have e : tapsE p taps = 1 := by unfold tapsE; rw [if_neg h1, if_neg h2, if_pos h3]
    unfold runE at h
    rw [e] at h
    simp at h
  have hf : fitB p taps = true := by simpa using h3
  have e : tapsE p taps = 0 := by unfold tapsE; rw [if_neg h1, if_neg h2, if_neg h3]
  unfold runE at h
  rw [e] at h
  rw [if_neg (by simp)] at h
  by_cases h4 : seed.length = taps.length
  · rw [if_neg (by simpa using h4)] at h
    by_cases h5 : fitB p seed = false
    · rw [if_pos h5] at h; omega
    · have := small_bd hs
      exact ⟨this.1, this.2, by omega, by omega, h4, fit_mem hf, fit_mem (by simpa using h5)⟩
  · rw [if_pos h4] at h; omega

set_option maxHeartbeats 1000000 in
theorem rowof_ok (p : Int) (v u : Value) (taps seed : List Int) (n : Nat) (w : World) (hv : Sl w v taps) (hu : Sl w u seed) (R : Recur p taps seed) (hn : n ≤ 1000000) :
    Calls Try.prog 28 #[.int .i64 p, v, u, .int .i64 n] w fun e w' => (∃ r, e = .returned r ∧ OI w.heap.size w' r (rowL p taps seed n)) ∧ Below w.heap.size w w' := by
  have HR := hid R
  have hp2 := R.p2
  have hp7 := R.p7
  have hk1 := R.k1
  have hk8 := R.k8
  have hlen := R.len
  have HV := hid hv
  have HU := hid hu
  obtain ⟨a, c, N, rfl, hN, hl1, hl2⟩ := hv.open
  obtain ⟨a', c', M, rfl, hM, hm1, hm2⟩ := hu.open
  rw [hM.out, hN.out] at hlen
  subst hlen
  rw [hN.out] at hk1 hk8
  obtain ⟨b, off, rfl, hb, hc⟩ := hl2 (by omega)
  obtain ⟨b', off', rfl, hb', hc'⟩ := hm2 (by omega)
  have HC := hid hc
  have HC' := hid hc'
  clear hc hc' hl2 hm2 hv hu R
  go_enter Try.func28, Try.ntmps28
  go_wp2
  go_loopw [9, 10, 11, 12] (fun v i _ _ wr => ∃ k : Nat, k ≤ n ∧ i = .int .i64 k ∧ OI w.heap.size wr v (rowL p taps seed k) ∧ Below w.heap.size w wr) (fun _ i _ _ _ => n - (intOf i).toNat)
  case atStart => exact ⟨0, Nat.zero_le _, rfl, OI.nil _ _, Below.refl _ _⟩
  case round =>
    obtain ⟨k, hk, rfl, hown, hbl⟩ := hrel
    by_cases hlt : k < n
    · have hB := hbl.size
      have hl : (rowL p taps seed k).length ≤ 1000000000000 := by rw [rowL_len]; omega
      by_cases hkm : k < M
      · have c2 : wr.cell? ⟨b', off' + k, none⟩ = some (.int .i64 (seed[k]?.getD 0)) := (hbl.cell (p := ⟨b', off' + k, none⟩) hb').trans (HC'.out k hkm)
        have HX : Hid (rowL p taps seed (k + 1) = rowL p taps seed k ++ [seed[k]?.getD 0]) := hid (by
          simp only [rowL, nxt]; rw [rowL_len, hM.out, if_pos hkm, getD_q])
        go_wp2_with (at_builtin; refine wpList_appi wr _ _ 30 rfl rfl Try.underlying30 Try.info3 w.heap.size _ _ rfl hown rfl hl hB ?_; intro g c w1 hown1 hg1 hg2 hg3)
        go_roundw
        case rel => exact ⟨k + 1, by omega, by go_num, hown1.cast (by rw [HX.out]), hown.grown hbl hg1 hB⟩
        case measure => simp [intOf]; omega
      · have HX : Hid (rowL p taps seed (k + 1) = rowL p taps seed k ++ [dot taps (rowL p taps seed k) M % p]) := hid (by
          simp only [rowL, nxt]; rw [rowL_len, hM.out, if_neg hkm, hN.out])
        have hmem := row_mem (p := p) (taps := taps) (seed := seed) (by omega) HR.out.fs k
        have HD := hid (dot_bd (p := p) (taps := taps) (l := rowL p taps seed k) (by omega) hp7 HR.out.ft hmem)
        have HT := hid (fun j => getD_nn (p := p) (by omega) HR.out.ft j)
        have HW := hid (fun j => getD_nn (p := p) (by omega) hmem j)
        have HLK := hid (rowL_len p taps seed k)
        have HST : Hid (∀ j, dot taps (rowL p taps seed k) (j + 1) = dot taps (rowL p taps seed k) j + taps.getD j 0 * (rowL p taps seed k).getD (k - 1 - j) 0) := hid (fun j => by simp only [dot]; rw [HLK.out])
        clear hmem
        generalize hQ : rowL p taps seed k = Q at *
        have HQ := hid hQ
        clear hQ
        obtain ⟨g, cq, rfl, hg0, hg1⟩ := hown.form (by rw [HLK.out]; omega)
        rw [HLK.out] at hown ⊢
        go_wp2
        go_loopw [11, 12] (fun s j wz => ∃ jj : Nat, jj ≤ M ∧ j = .int .i64 jj ∧ s = .int .i64 (dot taps Q jj) ∧ ∃ m, wz = wr.drewN m) (fun _ j _ => M - (intOf j).toNat)
        case atStart => exact ⟨0, Nat.zero_le _, rfl, rfl, 0, rfl⟩
        case round =>
          obtain ⟨jj, hj, rfl, rfl, m, rfl⟩ := hrel
          by_cases hjm : jj < M
          · have c1 : wr.cell? ⟨b, off + jj, none⟩ = some (.int .i64 (taps[jj]?.getD 0)) := (hbl.cell (p := ⟨b, off + jj, none⟩) hb).trans (HC.out jj hjm)
            have c2 := hown.cell (k - 1 - jj) (by rw [HLK.out]; omega)
            have b1 := HT.out jj
            have b2 := HW.out (k - 1 - jj)
            have b3 := HD.out jj
            have b4 := mul_bd b1 b2 hp7
            have HS := hid (HST.out jj)
            rw [getD_q] at b1 b4 HS
            obtain ⟨q, hq⟩ : ∃ q : Nat, q = k - 1 - jj := ⟨_, rfl⟩
            rw [← hq] at c2 b2 b4 HS
            have hqi : (k : Int) - 1 - (jj : Int) = (q : Int) := by omega
            generalize taps[jj]?.getD 0 = x at *
            generalize Q.getD q 0 = y at *
            generalize dot taps Q jj = s at *
            obtain ⟨b31, b32⟩ := b3
            obtain ⟨b41, b42⟩ := b4
            have f1 : IntKind.i64.wrap ((k : Int) - 1) = (k : Int) - 1 := IntWalk.i64_in _ (by omega)
            have f2 : IntKind.i64.wrap ((k : Int) - 1 - (jj : Int)) = (q : Int) := by rw [hqi]; exact IntWalk.i64_in _ (by omega)
            have f3 : IntKind.i64.wrap (x * y) = x * y := IntWalk.i64_in _ (by omega)
            have f4 : IntKind.i64.wrap (s + x * y) = s + x * y := IntWalk.i64_in _ (by omega)
            have hqk : q < k := by omega
            clear hqi hq b1 b2
            go_wp2
            go_quiet (fail)
            go_wp2
            go_roundw
            case rel => exact ⟨jj + 1, by omega, by go_num, by rw [HS.out], by first | exact ⟨_, rfl⟩ | (simp only [World.drewN_drewN]; exact ⟨_, rfl⟩)⟩
            case measure => simp [intOf] <;> omega
          · obtain rfl : M = jj := by omega
            have b3 := HD.out M
            obtain ⟨b31, b32⟩ := b3
            have hq1 : 0 ≤ dot taps Q M % p := Int.emod_nonneg _ (by omega)
            have hq2 : dot taps Q M % p < p := Int.emod_lt_of_pos _ (by omega)
            generalize dot taps Q M = s at *
            have hown2 := hown.drewN m
            have hl2 : Q.length ≤ 1000000000000 := by rw [HLK.out]; omega
            have hB2 : w.heap.size ≤ (wr.drewN m).heap.size := hB
            go_wp2_with (at_builtin; refine wpList_appi (wr.drewN m) _ _ 30 rfl rfl Try.underlying30 Try.info3 w.heap.size _ _ rfl hown2 rfl hl2 hB2 ?_; intro g2 c2 w1 hown1 hg1 hg2 hg3)
            go_roundw
            case rel => exact ⟨k + 1, by omega, by go_num, by rw [HX.out]; exact hown1, hown2.grown (below_drewN hbl m) hg1 hB⟩
            case measure => simp [intOf] <;> omega
    · obtain rfl : k = n := by omega
      go_wp2
      go_ret
      exact ⟨⟨_, rfl, hown⟩, hbl⟩
end Go.Proofs.Ytlnfkkapepgilaa
