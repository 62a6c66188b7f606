/-
  The walk over the law SubsetErdos. Condition: the slice can be read.
-/
import Derived.Test.YtdbfmjlnalaobaaMask
namespace Go.Proofs.Ytdbfmjlnalaobaa
set_option linter.unusedVariables false
open Go.RowKit

set_option maxHeartbeats 1000000 in
theorem subsetErdos_ok (w : World) (n : Nat) (v : Value) (l : List Int) (F : Nat → Nat) (N : Nat) (hl : Sl w v l) (hb : ∀ x ∈ l, I64 x) (hz : famE n l = 0) (hF : Fam n l F N) (hp : crB l F N = true) (h0 : 0 < N) :
    Calls Try.prog 9 #[.int .i64 n, v] w fun e w' => e = .returned (.bool true) ∧ Below w.heap.size w w' := by
  have HFA := hid (fact_any w)
  have HAP := hid (fun w1 (h : Below w.heap.size w w1) => Cross_ok n v l F N w1 (hl.below h) hb hz hF.fam)
  rw [hp] at HAP
  have hn := hF.n12
  have hNb := hF.le
  have HAT := hid hF.fam.at'
  have HBD := hid hF.fam.bd
  have HTH := hid (fun (s : Nat) (w1 : World) (hs : s < 8192) => things_ok s w1 hs)
  have HFIN := hid (fun k (hk : ∀ i, i < N → pop (F i) = k) h1 h2 => erdos (k := k) hF hp hk h1 h2)
  have hF0 : F 0 ≠ 0 := fun e => cr_all hF hp 0 h0 0 h0 (by rw [e]; rfl)
  have hp0 := pop_pos hn (hF.lt 0 h0) hF0
  have hpn := pop_le hn (hF.lt 0 h0)
  have HW := hid (fun w1 => Ways_ok (n - 1) (pop (F 0) - 1) w1 (by omega) (by omega))
  have hbw := bin61 (n - 1) (pop (F 0) - 1) (by omega)
  obtain ⟨a, cp, N', rfl, hN, hl1, hl2⟩ := hl.open
  obtain rfl : N' = N := by rw [← hN.out, hF.fam.len]
  have e1 : (n : Int) - 1 = ((n - 1 : Nat) : Int) := by omega
  have e2 : (pop (F 0) : Int) - 1 = ((pop (F 0) - 1 : Nat) : Int) := by omega
  have hq0 : ((N' : Int) == 0) = false := by rw [beq_eq_false_iff_ne]; omega
  have HK : Hid (∃ k0, pop (F 0) = k0) := hid ⟨_, rfl⟩
  clear hF hp hz hb hl
  obtain ⟨k0, hk0⟩ := HK.out
  rw [hk0] at hp0 hpn HW hbw e2
  have HK0 := hid hk0
  clear hk0 HK
  obtain ⟨nd, hnd⟩ : ∃ nd, nd = n - 1 := ⟨_, rfl⟩
  obtain ⟨kd, hkd⟩ : ∃ kd, kd = k0 - 1 := ⟨_, rfl⟩
  rw [← hnd] at HW hbw e1
  rw [← hkd] at HW hbw e2
  have HB : Hid (∀ h2 : 2 * k0 ≤ n, (∀ i, i < N' → pop (F i) = k0) → (N' : Int) ≤ ((bin nd kd : Nat) : Int)) := hid (fun h2 hk => by
    rw [hnd, hkd]
    have := HFIN.out k0 hk hp0 h2
    omega)
  clear hnd hkd HFIN
  generalize bin nd kd = bw at *
  go_enter Try.func9, Try.ntmps9
  go_wp2_with fail
  refine HFA.out.mono ?_
  rintro e w1 ⟨rfl, hb1⟩
  have B1 := hid hb1
  clear hb1
  go_wp2_with fail
  refine (HAP.out _ B1.out).mono ?_
  rintro e w2 ⟨rfl, hb2⟩
  have B2 := hid (B1.out.trans (hb2.mono B1.out.size))
  clear hb2
  obtain ⟨b, off, rfl, hblt, hc⟩ := hl2 h0
  have c0 := (B2.out.cell (p := ⟨b, off + 0, none⟩) hblt).trans (hc 0 h0)
  rw [HAT.out 0 h0] at c0
  have hx0 := HBD.out 0 h0
  have hT0 := hid (HTH.out (F 0) w2 (by omega))
  rw [HK0.out] at hT0
  have HC := hid hc
  clear hc
  rw [Nat.add_zero] at c0
  generalize hFF : F 0 = x0 at *
  go_wp2_with fail
  refine hT0.out.mono ?_
  rintro e w3 ⟨rfl, rfl⟩
  go_wp2
  go_loopw [9, 10] (fun i _ wr => ∃ k : Nat, k ≤ N' ∧ i = .int .i64 k ∧ Hid (∀ i, i < k → pop (F i) = k0) ∧ wr = w2) (fun i _ _ => N' - (intOf i).toNat)
  case atStart => exact ⟨0, Nat.zero_le _, rfl, hid (fun i hi => by omega), rfl⟩
  case round =>
    obtain ⟨k, hk, rfl, hall, rfl⟩ := hrel
    by_cases hlt : k < N'
    · have c1 := (B2.out.cell (p := ⟨b, off + k, none⟩) hblt).trans (HC.out k hlt)
      rw [HAT.out k hlt] at c1
      have hx := HBD.out k hlt
      have hT := hid (HTH.out (F k) wr (by omega))
      by_cases he : pop (F k) = k0
      · have HE : Hid (∀ i, i < k + 1 → pop (F i) = k0) := hid (fun i hi => by
          by_cases e : i = k
          · rw [e]; exact he
          · exact hall.out i (by omega))
        have hqe : ((k0 : Int) != (k0 : Int)) = false := by simp
        rw [he] at hT
        clear he c0
        generalize F k = x at *
        go_wp2_with fail
        refine hT.out.mono ?_
        rintro e w4 ⟨rfl, rfl⟩
        go_wp2
        go_roundw
        case rel => exact ⟨k + 1, by omega, by go_num, HE, by trivial⟩
        case measure => simp [intOf] <;> omega
      · have hqe : ((pop (F k) : Int) != (k0 : Int)) = true := by simp; omega
        have hpb := popF_le 13 (F k)
        have hpb2 : pop (F k) ≤ 13 := hpb
        clear he c0 hpb
        generalize pop (F k) = pk at *
        generalize F k = x at *
        go_wp2_with fail
        refine hT.out.mono ?_
        rintro e w4 ⟨rfl, rfl⟩
        go_wp2
        go_ret
        exact ⟨rfl, B2.out⟩
    · obtain rfl : k = N' := by omega
      have HWW := hid (HW.out wr)
      clear c0
      by_cases h2 : 2 * k0 ≤ n
      · have hle := HB.out h2 hall.out
        have h2' : ¬ ((n : Int) < 2 * (k0 : Int)) := by omega
        go_wp2_with fail
        refine HWW.out.mono ?_
        rintro e w4 ⟨rfl, hb4⟩
        have B4 := hid (B2.out.trans (hb4.mono B2.out.size))
        clear hb4
        go_wp2
        go_ret
        exact ⟨rfl, B4.out⟩
      · have h2' : (n : Int) < 2 * (k0 : Int) := by omega
        go_wp2_with fail
        refine HWW.out.mono ?_
        rintro e w4 ⟨rfl, hb4⟩
        have B4 := hid (B2.out.trans (hb4.mono B2.out.size))
        clear hb4
        go_wp2
        go_ret
        exact ⟨rfl, B4.out⟩

theorem subsetErdos_walk (w : World) (n : Int) (_ : I64 n) (v : Value) (l : List Int) (hl : Sl w v l) (hb : ∀ x ∈ l, I64 x) :
    Calls Try.prog 9 #[.int .i64 n, v] w fun e w' => e = .returned (.bool true) ∧ Below w.heap.size w w' := by
  by_cases hz : famE n l = 0
  · obtain ⟨m, rfl, hF⟩ := fam_of hz
    obtain ⟨F, hFx⟩ : ∃ F : Nat → Nat, F = fun k : Nat => (l[k]?.getD (0 : Int)).toNat := ⟨_, rfl⟩
    rw [← hFx] at hF
    clear hFx
    have hm := hF.n12
    have HFA := hid (fact_any w)
    have HAP := hid (fun w1 (h : Below w.heap.size w w1) => Cross_ok m v l F l.length w1 (hl.below h) hb hz hF.fam)
    cases hp : crB l F l.length with
    | true =>
      by_cases h0 : 0 < l.length
      · exact subsetErdos_ok w m v l F l.length hl hb hz hF hp h0
      · have h0' : l.length = 0 := by omega
        obtain ⟨a, cp, N, rfl, hN, hl1, hl2⟩ := hl.open
        obtain rfl : N = 0 := by rw [← hN.out]; exact h0'
        rw [hp] at HAP
        clear hp hF hz hb hl h0 h0' hl2 hN
        go_enter Try.func9, Try.ntmps9
        go_wp2_with fail
        refine HFA.out.mono ?_
        rintro e w1 ⟨rfl, hb1⟩
        have B1 := hid hb1
        clear hb1
        go_wp2_with fail
        refine (HAP.out _ B1.out).mono ?_
        rintro e w2 ⟨rfl, hb2⟩
        have B2 := hid (B1.out.trans (hb2.mono B1.out.size))
        clear hb2
        go_wp2
        go_ret
        exact ⟨rfl, B2.out⟩
    | false =>
      rw [hp] at HAP
      clear hp hF hz hb hl
      go_enter Try.func9, Try.ntmps9
      go_wp2_with fail
      refine HFA.out.mono ?_
      rintro e w1 ⟨rfl, hb1⟩
      have B1 := hid hb1
      clear hb1
      go_wp2_with fail
      refine (HAP.out _ B1.out).mono ?_
      rintro e w2 ⟨rfl, hb2⟩
      have B2 := hid (B1.out.trans (hb2.mono B1.out.size))
      clear hb2
      go_wp2
      go_ret
      exact ⟨rfl, B2.out⟩
  · have HFA := hid (fact_any w)
    have HAP := hid (fun w1 (h : Below w.heap.size w w1) => Cross_bad n v l w1 (hl.below h) hb hz)
    have qz1 : (famE n l != 0) = true := by simpa using hz
    clear hz hb hl
    generalize famE n l = z at *
    go_enter Try.func9, Try.ntmps9
    go_wp2_with fail
    refine HFA.out.mono ?_
    rintro e w1 ⟨rfl, hb1⟩
    have B1 := hid hb1
    clear hb1
    go_wp2_with fail
    refine (HAP.out _ B1.out).mono ?_
    rintro e w2 ⟨rfl, hb2⟩
    have B2 := hid (B1.out.trans (hb2.mono B1.out.size))
    clear hb2
    go_wp2
    go_ret
    exact ⟨rfl, B2.out⟩
end Go.Proofs.Ytdbfmjlnalaobaa
