/-
  The walk over parterreref1.PermRank. Conditions: the slice can be read and is a permutation.
-/
import Derived.Test.YtnbgnoimanpjnaaGPrank
namespace Go.Proofs.Ytnbgnoimanpjnaa
set_option linter.unusedVariables false
open Go.RowKit

set_option maxHeartbeats 1000000 in
theorem permrank_ok (v : Value) (l : List Int) (N : Nat) (f : Nat → Nat) (w : World) (hl : Sl w v l) (P : PmL l N f) :
    Calls Try.prog 23 #[v] w fun e w' => e = .returned (.int .i64 (rankS f N N : Nat)) ∧ w' = w := by
  obtain ⟨a, cp, N', rfl, hN, hl1, hl2⟩ := hl.open
  obtain rfl : N' = N := by rw [← hN.out, P.len]
  have h12 := P.n12
  have HAT := hid P.at'
  have HLT := hid P.pm.lt
  have HCUT := hid (fun k (hk : k < N') => less_cut P.pm hk)
  have HBD := hid (rankS_bd (f := f) h12)
  have HLB := hid (fun k => (less_bd f N' k).2)
  have HFA := hid (fun (n : Nat) (w : World) (hn : n ≤ 12) => factorial_ok n w hn)
  have HFB := hid fac_bd
  have HS1 : Hid (∀ k, rankS f N' (k + 1) = rankS f N' k + lessA f N' k * fac (N' - 1 - k)) := hid (fun k => rfl)
  have HS0 : Hid (rankS f N' 0 = 0) := hid rfl
  have HAS := hid (ahead_succ f)
  have HA0 : Hid (∀ x, aheadB f 0 x = false) := hid (fun x => rfl)
  obtain ⟨A, hA⟩ : ∃ A : Nat → Nat → Nat, A = fun k t => sumN (fun x => if aheadB f k x = false then 1 else 0) t := ⟨_, rfl⟩
  have HA1 : Hid (∀ k t, A k (t + 1) = A k t + if aheadB f k t = false then 1 else 0) := hid (fun k t => by rw [hA]; rfl)
  have HAZ : Hid (∀ k, A k 0 = 0) := hid (fun k => by rw [hA]; rfl)
  have HAC : Hid (∀ k, k < N' → A k (f k) = lessA f N' k) := hid (fun k hk => by rw [hA]; exact HCUT.out k hk)
  have HAL : Hid (∀ k t, A k t ≤ t) := hid (fun k t => by
    rw [hA]
    show sumN _ t ≤ t
    induction t with
    | zero => exact Nat.le_refl _
    | succ t ih =>
      simp only [sumN]
      split <;> omega)
  clear hA hl P HCUT
  generalize rankS f N' = R at *
  generalize lessA f N' = L at *
  generalize aheadB f = D at *
  generalize fac = F at *
  go_enter Try.func23, Try.ntmps23
  go_wp2
  go_loopw [3, 4] (fun o i wr => ∃ k : Nat, k ≤ N' ∧ i = .int .i64 k ∧ o = .int .i64 (R k : Nat) ∧ wr = w) (fun _ i _ => N' - (intOf i).toNat)
  case atStart => exact ⟨0, Nat.zero_le _, rfl, by rw [HS0.out]; rfl, rfl⟩
  case round =>
    obtain ⟨k, hk, rfl, rfl, rfl⟩ := hrel
    by_cases hlt : k < N'
    · obtain ⟨b, off, rfl, hblt, hc⟩ := hl2 (by omega)
      have c1 := hc k hlt
      rw [HAT.out k hlt] at c1
      have hfk := HLT.out k hlt
      have HC := hid hc
      clear hc hl2
      go_wp2
      go_loopw [5, 6] (fun s x wq => ∃ t : Nat, t ≤ f k ∧ x = .int .i64 t ∧ s = .int .i64 (A k t : Nat) ∧ wq = wr) (fun _ x _ => f k - (intOf x).toNat)
      case atStart => exact ⟨0, Nat.zero_le _, rfl, by rw [HAZ.out]; rfl, rfl⟩
      case round =>
        obtain ⟨t, ht, rfl, rfl, rfl⟩ := hrel
        have hal := HAL.out k t
        by_cases htf : t < f k
        · have HA1T := hid (HA1.out k t)
          go_wp2
          go_loopw [7, 8] (fun fr j wq => ∃ c : Nat, c ≤ k ∧ j = .int .i64 c ∧ fr = .bool (!(D c t)) ∧ wq = wr) (fun _ j _ => k - (intOf j).toNat)
          case atStart => exact ⟨0, Nat.zero_le _, rfl, by rw [HA0.out]; rfl, rfl⟩
          case round =>
            obtain ⟨c, hc, rfl, rfl, rfl⟩ := hrel
            by_cases hck : c < k
            · have c2 := HC.out c (by omega)
              rw [HAT.out c (by omega)] at c2
              have hD := HAS.out c t
              have hq : ((f c : Int) != (t : Int)) = !(f c == t) := by
                by_cases e : f c = t
                · rw [e]; simp
                · have e2 : ¬ (f c : Int) = (t : Int) := by omega
                  rw [show (f c == t) = false by simpa using e]
                  simpa using e2
              cases hd : D c t with
              | true =>
                rw [hd] at hD
                have HX : Hid (D (c + 1) t = true) := hid (by rw [hD]; rfl)
                clear hD
                go_wp2
                go_roundw
                case rel => exact ⟨c + 1, by omega, by go_num, by rw [HX.out]; rfl, by simp⟩
                case measure => simp [intOf] <;> omega
              | false =>
                rw [hd, Bool.false_or] at hD
                have HX : Hid (D (c + 1) t = (f c == t)) := hid hD
                clear hD
                generalize (f c == t) = bb at *
                generalize (f c : Int) = y at *
                go_wp2
                go_roundw
                case rel => exact ⟨c + 1, by omega, by go_num, by rw [HX.out], by simp⟩
                case measure => simp [intOf] <;> omega
            · obtain rfl : k = c := by omega
              cases hd : D k t with
              | true =>
                have HX : Hid (A k (t + 1) = A k t) := hid (by rw [HA1T.out, hd]; rfl)
                clear hd
                go_wp2
                go_roundw
                case rel => exact ⟨t + 1, by omega, by go_num, by rw [HX.out], by simp⟩
                case measure => simp [intOf] <;> omega
              | false =>
                have HX : Hid (A k (t + 1) = A k t + 1) := hid (by rw [HA1T.out, hd]; rfl)
                clear hd
                go_wp2
                go_roundw
                case rel => exact ⟨t + 1, by omega, by go_num, by rw [HX.out]; go_num, by simp⟩
                case measure => simp [intOf] <;> omega
        · obtain rfl : f k = t := by omega
          have hL := HAC.out k hlt
          rw [hL]
          have hlb := HLB.out k
          have HFC := hid (HFA.out (N' - 1 - k) wr (by omega))
          obtain ⟨f1, f2⟩ := HFB.out (N' - 1 - k) (by omega)
          have hcast : (N' : Int) - 1 - (k : Int) = ((N' - 1 - k : Nat) : Int) := by omega
          have HCAST := hid hcast
          have hr1 := HBD.out k hk
          have hr3 : R k ≤ 12 * 5748019200 := Nat.le_trans hr1 (Nat.mul_le_mul_right _ (by omega))
          have HRK := hid (HS1.out k)
          generalize F (N' - 1 - k) = fc at *
          have hm1 : L k * fc ≤ 12 * 479001600 := Nat.mul_le_mul (by omega) f2
          have hm2 : ((L k * fc : Nat) : Int) = (L k : Int) * (fc : Int) := Int.natCast_mul _ _
          have HM2 := hid hm2
          have HRI : Hid (((R (k + 1) : Nat) : Int) = (R k : Int) + (L k : Int) * (fc : Int)) := hid (by rw [HRK.out, Int.natCast_add, hm2])
          have hm3 : 0 ≤ (L k : Int) * (fc : Int) ∧ (L k : Int) * (fc : Int) ≤ 12 * 479001600 := by omega
          clear hcast hm1 hm2 hL hr1 hal
          go_wp2_with fail
          rw [HCAST.out]
          refine HFC.out.mono ?_
          rintro e w' ⟨rfl, rfl⟩
          go_wp2
          go_roundw
          case rel => exact ⟨k + 1, by omega, by go_num, by rw [HRI.out], by simp⟩
          case measure => simp [intOf] <;> omega
    · obtain rfl : N' = k := by omega
      go_wp2
      go_ret
      exact ⟨rfl, by simp⟩
end Go.Proofs.Ytnbgnoimanpjnaa
