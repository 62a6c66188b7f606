/-
  The walk over parterreref4.CascadeOf. No condition.
-/
import Derived.Test.YtdbfmjlnalaobaaBinom
namespace Go.Proofs.Ytdbfmjlnalaobaa
set_option linter.unusedVariables false
open Go.RowKit Go.Shelf

theorem CascOf_bad (m k : Int) (w : World) (h : m < 0 ∨ k < 1 ∨ 30 < k) :
    Calls Try.prog 27 #[.int .i64 m, .int .i64 k] w fun e w' => e = .returned (.tuple #[.slice none 0 0, .int .i64 1]) ∧ Below w.heap.size w w' := by
  by_cases h1 : m < 0
  · clear h
    go_enter Try.func27, Try.ntmps27
    go_wp2
    go_ret2
    exact ⟨rfl, Below.refl _ _⟩
  by_cases h2 : k < 1
  · clear h
    go_enter Try.func27, Try.ntmps27
    go_wp2
    go_ret2
    exact ⟨rfl, Below.refl _ _⟩
  · have h3 : 30 < k := by omega
    clear h
    go_enter Try.func27, Try.ntmps27
    go_wp2
    go_ret2
    exact ⟨rfl, Below.refl _ _⟩
theorem CascOf_full (m k : Int) (w : World) (h : ¬ (m < 0 ∨ k < 1 ∨ 30 < k)) (hm : 1000000000 < m) :
    Calls Try.prog 27 #[.int .i64 m, .int .i64 k] w fun e w' => e = .returned (.tuple #[.slice none 0 0, .int .i64 3]) ∧ Below w.heap.size w w' := by
  have h1 : ¬ m < 0 := by omega
  have h2 : ¬ k < 1 := by omega
  have h3 : ¬ 30 < k := by omega
  clear h
  go_enter Try.func27, Try.ntmps27
  go_wp2
  go_ret2
  exact ⟨rfl, Below.refl _ _⟩

set_option maxRecDepth 100000 in
set_option maxHeartbeats 2000000 in
theorem CascOf_ok (m k : Nat) (w : World) (hk : 1 ≤ k) (hk30 : k ≤ 30) (hm : m ≤ 1000000000) :
    Calls Try.prog 27 #[.int .i64 m, .int .i64 k] w fun e w' => (∃ u, e = .returned (.tuple #[u, .int .i64 0]) ∧ OI w.heap.size w' u (natC (casc k m))) ∧ Below w.heap.size w w' := by
  have HBI := hid (fun (n k : Nat) (w : World) (h1 : n ≤ 1000000031) (h2 : k ≤ 30) (h3 : k ≤ n) => binomial_ok n k w h1 h2 h3)
  go_enter Try.func27, Try.ntmps27
  go_wp2
  go_loopw [0, 1, 6] (fun x y o wr => ∃ (kk mm : Nat) (L : List Nat), Hid (L ++ casc kk mm = casc k m ∧ (kk = 0 → mm = 0) ∧ L.length + kk ≤ 30) ∧ kk ≤ 30 ∧ mm ≤ 1000000000 ∧ x = .int .i64 mm ∧ y = .int .i64 kk ∧ OI w.heap.size wr o (natC L) ∧ Below w.heap.size w wr) (fun _ y _ _ => (intOf y).toNat)
  case atStart => exact ⟨k, m, [], hid ⟨rfl, fun h => by omega, by simpa using hk30⟩, hk30, hm, rfl, rfl, OI.nil _ _, Below.refl _ _⟩
  case round =>
    obtain ⟨kk, mm, L, HL, hkk, hmm, rfl, rfl, ho, hb⟩ := hrel
    by_cases hm0 : 0 < mm
    · obtain ⟨k', hk'⟩ : ∃ k', kk = k' + 1 := by
        cases kk with
        | zero => have := HL.out.2.1 rfl; omega
        | succ k' => exact ⟨k', rfl⟩
      obtain ⟨g1, g2, g3⟩ := topC_spec (k := kk) (m := mm) (by omega)
      have hle : kk ≤ topC kk mm := by
        rcases Nat.lt_or_ge (topC kk mm) kk with h | h
        · have h4 := bin_mono (show topC kk mm + 1 ≤ kk by omega) kk
          rw [bin_all] at h4
          omega
        · exact h
      have HST : Hid (casc kk mm = topC kk mm :: casc k' (mm - bin (topC kk mm) kk)) := hid (by rw [hk']; exact casc_step hm0)
      have HRE : Hid (k' = 0 → mm - bin (topC kk mm) kk = 0) := hid (fun h => by rw [hk']; exact casc_rest h)
      have HLEN := hid (show (natC L).length ≤ 1000000000000 by rw [natC_len]; have := HL.out.2.2; omega)
      have HCMP := hid (fun x (hx : kk ≤ x) => (show (cut31 (bin x kk) ≤ mm ↔ x ≤ topC kk mm) from by
        constructor
        · intro h
          rcases Nat.lt_or_ge (topC kk mm) x with h5 | h5
          · have h6 := bin_mono (show topC kk mm + 1 ≤ x by omega) kk
            unfold cut31 at h
            split at h <;> omega
          · exact h5
        · intro h
          have h6 := bin_mono h kk
          rw [cut31_small (by omega)]
          omega))
      have HCAT := hid (show cut31 (bin (topC kk mm) kk) = bin (topC kk mm) kk from cut31_small (by omega))
      have HK' := hid hk'
      generalize topC kk mm = a at *
      clear g2 hk'
      have hsz := hb.size
      have hkpos : 0 < kk := by have := HK'.out; omega
      have HO := hid (And.intro ho hb)
      clear ho hb
      go_wp2
      go_loop [7, 8] (fun x y => ∃ lo hi : Nat, kk ≤ lo ∧ lo ≤ a ∧ a ≤ hi ∧ hi ≤ mm + kk ∧ x = .int .i64 lo ∧ y = .int .i64 hi) (fun x y => (intOf y).toNat - (intOf x).toNat)
      case atStart => exact ⟨kk, mm + kk, Nat.le_refl _, hle, by omega, Nat.le_refl _, rfl, by congr 1; omega⟩
      case round =>
        obtain ⟨lo, hi, h1, h2, h3, h4, rfl, rfl⟩ := hrel
        by_cases hlh : lo < hi
        · obtain ⟨md, hmd⟩ : ∃ md, md = (lo + hi + 1) / 2 := ⟨_, rfl⟩
          have hmi : ((lo : Int) + (hi : Int) + 1).tdiv 2 = (md : Int) := by rw [hmd, show (lo : Int) + (hi : Int) + 1 = ((lo + hi + 1 : Nat) : Int) by omega]; exact (Int.ofNat_tdiv (lo + hi + 1) 2).symm
          have hm1 : lo < md := by omega
          have hm2 : md ≤ hi := by omega
          have HB1 := hid (HBI.out md kk wr (by omega) hkk (by omega))
          have hcmp := HCMP.out md (by omega)
          have hcb : cut31 (bin md kk) ≤ 2147483648 := by unfold cut31; split <;> omega
          clear hmd
          generalize cut31 (bin md kk) = cb at *
          by_cases hle2 : cb ≤ mm
          · have hma := hcmp.1 hle2
            have hci : (cb : Int) ≤ (mm : Int) := by omega
            clear hcmp
            go_wp2_with fail
            refine HB1.out.mono ?_
            rintro e w1 ⟨rfl, rfl⟩
            go_wp2
            go_round
            case rel => exact ⟨md, hi, by omega, hma, h3, h4, by trivial, by trivial⟩
            case measure => simp [intOf] <;> omega
          · have hma : a < md := by
              rcases Nat.lt_or_ge a md with h | h
              · exact h
              · exact absurd (hcmp.2 h) hle2
            have hci : ¬ (cb : Int) ≤ (mm : Int) := by omega
            clear hcmp
            go_wp2_with fail
            refine HB1.out.mono ?_
            rintro e w1 ⟨rfl, rfl⟩
            go_wp2
            go_round
            case rel => exact ⟨lo, md - 1, h1, h2, by omega, by omega, by trivial, by congr 1; omega⟩
            case measure => simp [intOf] <;> omega
        · obtain rfl : lo = a := by omega
          obtain rfl : hi = lo := by omega
          obtain ⟨ho, hb⟩ := HO.out
          go_wp2_with (at_builtin; refine wpList_appi wr _ _ 22 rfl rfl Try.underlying22 Try.info3 w.heap.size _ _ rfl ho rfl HLEN.out hsz ?_; intro g c w4 hown1 hg1 hg2 hg3)
          have HB2 := HBI.out hi kk w4 (by omega) hkk hle
          rw [HCAT.out] at HB2
          obtain ⟨b, hbb⟩ : ∃ b, b = bin hi kk := ⟨_, rfl⟩
          rw [← hbb] at HB2 HST HRE g1
          have HB3 := hid HB2
          have HX4 := hid (And.intro (hown1.cast (natC_snoc L hi).symm) (ho.grown hb hg1 hsz))
          have HPL : Hid ((L ++ [hi]) ++ casc (kk - 1) (mm - b) = casc k m ∧ (kk - 1 = 0 → mm - b = 0) ∧ (L ++ [hi]).length + (kk - 1) ≤ 30) := hid (by
            have e : kk - 1 = k' := by rw [HK'.out]; rfl
            rw [e]
            refine ⟨by rw [List.append_assoc, ← HL.out.1, HST.out]; rfl, HRE.out, ?_⟩
            have := HL.out.2.2
            rw [HK'.out] at this
            simp
            omega)
          have hsub : (mm : Int) - (b : Int) = ((mm - b : Nat) : Int) := by omega
          have hsub2 : (kk : Int) - 1 = ((kk - 1 : Nat) : Int) := by omega
          clear hbb HB2 hown1 hg1 hg2 hg3 ho hb
          go_wp2_with fail
          refine HB3.out.mono ?_
          rintro e w5 ⟨rfl, rfl⟩
          go_wp2
          go_roundw
          case rel => exact ⟨kk - 1, mm - b, L ++ [hi], HPL, by omega, by omega, by trivial, by trivial, HX4.out.1, HX4.out.2⟩
          case measure => simp [intOf] <;> omega
    · obtain rfl : mm = 0 := by omega
      have HFIN : Hid (natC (casc k m) = natC L) := hid (by rw [← HL.out.1, casc_nil, List.append_nil])
      have HX := hid (And.intro ho hb)
      clear ho hb
      go_wp2
      go_ret2
      refine ⟨⟨_, rfl, ?_⟩, HX.out.2⟩
      rw [HFIN.out]
      exact HX.out.1
end Go.Proofs.Ytdbfmjlnalaobaa
