/-
  The walks over perm.Sign and parterreref1.PermSign. Conditions: the slice can be read; a permutation where it is said.
-/
import Derived.Test.YtgfdddknajeknaaPord
import Derived.Test.YtgfdddknajeknaaPsgn
namespace Go.Proofs.Ytgfdddknajeknaa
set_option linter.unusedVariables false
open Go.RowKit

def sgnZ (k : Nat) : Int := if k % 2 = 0 then 1 else -1
theorem sgn_mod {a b : Nat} (h : a % 2 = b % 2) : sgnZ a = sgnZ b := by unfold sgnZ; rw [h]
theorem sgn_succ (k : Nat) : sgnZ (k + 1) = -sgnZ k := by
  unfold sgnZ
  by_cases h : k % 2 = 0
  · rw [if_pos h, if_neg (by omega)]
  · rw [if_neg h, if_pos (by omega)]; rfl
theorem sgn_bd (k : Nat) : sgnZ k = 1 ∨ sgnZ k = -1 := by
  unfold sgnZ
  split
  · exact .inl rfl
  · exact .inr rfl
theorem sgn_add (a b : Nat) : sgnZ (a + b) = sgnZ a * sgnZ b := by
  unfold sgnZ
  by_cases h1 : a % 2 = 0
  · by_cases h2 : b % 2 = 0
    · rw [if_pos h1, if_pos h2, if_pos (by omega)]; rfl
    · rw [if_pos h1, if_neg h2, if_neg (by omega)]; rfl
  · by_cases h2 : b % 2 = 0
    · rw [if_neg h1, if_pos h2, if_neg (by omega)]; rfl
    · rw [if_neg h1, if_neg h2, if_pos (by omega)]; rfl

theorem Sign_bad (v : Value) (l : List Int) (w : World) (hl : Sl w v l) (h : permE l ≠ 0) :
    Calls Try.prog 15 #[v] w fun e w' => e = .returned (.tuple #[.int .i64 0, .int .i64 (permE l)]) ∧ Below w.heap.size w w' := by
  have H1 := hid (check_any v l w hl)
  have hq : (permE l != 0) = true := by simpa using h
  clear h hl
  generalize permE l = z at *
  go_enter Try.func15, Try.ntmps15
  go_wp2_with fail
  refine H1.out.mono ?_
  rintro e w1 ⟨rfl, hb1⟩
  go_wp2
  go_ret2
  exact ⟨rfl, hb1⟩
theorem Sign_ok (v : Value) (l : List Int) (w : World) (hl : Sl w v l) (h : permE l = 0) :
    Calls Try.prog 15 #[v] w fun e w' => e = .returned (.tuple #[.int .i64 (sgnZ (inv (fL l) l.length)), .int .i64 0]) ∧ Below w.heap.size w w' := by
  have H1 := hid (check_any v l w hl)
  rw [h] at H1
  have P := pm_of h
  have H2 := hid (fun w1 (hb : Below w.heap.size w w1) => cycles_ok v l _ _ w1 (hl.below hb) P)
  have hse := sign_even l.length (fL l) P.pm
  have hle := cycN_le (fL l) l.length
  have HLC : Hid (((cycL (fL l) l.length l.length).map intsL).length = cycN (fL l) l.length) := hid (by rw [List.length_map, cycN_len])
  have h12 := P.n12
  obtain ⟨a, k, N, rfl, hN, _, _⟩ := hl.open
  rw [hN.out] at H2 HLC hse hle h12 ⊢
  have HE := hid (sgn_mod hse)
  clear h hl P hse
  generalize inv (fL l) N = z at *
  generalize cycN (fL l) N = c at *
  generalize (cycL (fL l) N N).map intsL = ll at *
  have hsub : (N : Int) - (c : Int) = ((N - c : Nat) : Int) := by omega
  by_cases hp : (N - c) % 2 = 0
  · have HZ : Hid (sgnZ z = 1) := hid (by rw [← HE.out]; unfold sgnZ; rw [if_pos hp])
    have qd : (((N : Int) - (c : Int)) % 2 == 0) = true := by rw [beq_iff_eq]; omega
    have qt : ((N : Int) - (c : Int)).tmod 2 = ((N : Int) - (c : Int)) % 2 := Int.tmod_eq_emod_of_nonneg (by omega)
    clear hp hsub
    go_enter Try.func15, Try.ntmps15
    go_wp2_with fail
    refine H1.out.mono ?_
    rintro e w1 ⟨rfl, hb1⟩
    go_wp2_with fail
    refine (H2.out _ hb1).mono ?_
    rintro e w2 ⟨⟨u, rfl, hu⟩, hb2⟩
    obtain ⟨ua, uc, rfl⟩ := hu.len
    rw [HLC.out]
    have HB := hid (hb1.trans (hb2.mono hb1.size))
    clear hb2 hu
    go_wp2
    go_ret2
    exact ⟨by rw [HZ.out]; rfl, HB.out⟩
  · have HZ : Hid (sgnZ z = -1) := hid (by rw [← HE.out]; unfold sgnZ; rw [if_neg hp])
    have qd : (((N : Int) - (c : Int)) % 2 == 0) = false := by rw [beq_eq_false_iff_ne]; omega
    have qt : ((N : Int) - (c : Int)).tmod 2 = ((N : Int) - (c : Int)) % 2 := Int.tmod_eq_emod_of_nonneg (by omega)
    clear hp hsub
    go_enter Try.func15, Try.ntmps15
    go_wp2_with fail
    refine H1.out.mono ?_
    rintro e w1 ⟨rfl, hb1⟩
    go_wp2_with fail
    refine (H2.out _ hb1).mono ?_
    rintro e w2 ⟨⟨u, rfl, hu⟩, hb2⟩
    obtain ⟨ua, uc, rfl⟩ := hu.len
    rw [HLC.out]
    have HB := hid (hb1.trans (hb2.mono hb1.size))
    clear hb2 hu
    go_wp2
    go_ret2
    exact ⟨by rw [HZ.out]; rfl, HB.out⟩

theorem permsign_ok (v : Value) (l : List Int) (N : Nat) (f : Nat → Nat) (w : World) (hl : Sl w v l) (P : PmL l N f) :
    Calls Try.prog 23 #[v] w fun e w' => e = .returned (.int .i64 (sgnZ (inv f N))) ∧ ∃ n, w' = w.drewN n := by
  obtain ⟨a, cp, N', rfl, hN, hl1, hl2⟩ := hl.open
  obtain rfl : N' = N := by rw [← hN.out, P.len]
  have h12 := P.n12
  have HAT := hid P.at'
  clear hl P
  have HI : Hid (inv f N' = sumN (fun j => sumN (fun i => if f j < f i then 1 else 0) j) N') := hid rfl
  obtain ⟨A, hA⟩ : ∃ A : Nat → Nat, A = sumN (fun j => sumN (fun i => if f j < f i then 1 else 0) j) := ⟨_, rfl⟩
  have HA1 : Hid (∀ k, A (k + 1) = A k + sumN (fun i => if f k < f i then 1 else 0) k) := hid (fun k => by rw [hA]; rfl)
  have HA0 : Hid (A 0 = 0) := hid (by rw [hA]; rfl)
  rw [← hA] at HI
  obtain ⟨B, hB⟩ : ∃ B : Nat → Nat → Nat, B = fun k t => sumN (fun i => if f k < f i then 1 else 0) t := ⟨_, rfl⟩
  have HB1 : Hid (∀ k t, B k (t + 1) = B k t + if f k < f t then 1 else 0) := hid (fun k t => by rw [hB]; rfl)
  have HB0 : Hid (∀ k, B k 0 = 0) := hid (fun k => by rw [hB]; rfl)
  have HAB : Hid (∀ k, A (k + 1) = A k + B k k) := hid (fun k => by rw [HA1.out, hB])
  have HS := hid sgn_bd
  have HSS := hid sgn_succ
  have HS0 : Hid (sgnZ 0 = 1) := hid rfl
  clear hA hB HA1
  generalize inv f N' = z at *
  go_enter Try.func23, Try.ntmps23
  go_wp2
  go_loopw [3, 4] (fun s i wr => ∃ k m : Nat, k ≤ N' ∧ i = .int .i64 k ∧ s = .int .i64 (sgnZ (A k)) ∧ wr = w.drewN m) (fun _ i _ => N' - (intOf i).toNat)
  case atStart => exact ⟨0, 0, Nat.zero_le _, rfl, by rw [HA0.out, HS0.out], rfl⟩
  case round =>
    obtain ⟨k, m, hk, rfl, rfl, rfl⟩ := hrel
    by_cases hlt : k < N'
    · have HABK := hid (HAB.out k)
      go_wp2
      go_loopw [3, 5] (fun s j wq => ∃ t m2 : Nat, t ≤ k ∧ j = .int .i64 t ∧ s = .int .i64 (sgnZ (A k + B k t)) ∧ wq = w.drewN m2) (fun _ j _ => k - (intOf j).toNat)
      case atStart => exact ⟨0, m, Nat.zero_le _, rfl, by rw [HB0.out, Nat.add_zero], rfl⟩
      case round =>
        obtain ⟨t, m2, ht, rfl, rfl, rfl⟩ := hrel
        by_cases htk : t < k
        · obtain ⟨b, off, rfl, hblt, hc⟩ := hl2 (by omega)
          have c1 := hc k hlt
          have c2 := hc t (by omega)
          rw [HAT.out k hlt] at c1
          rw [HAT.out t (by omega)] at c2
          have hB1 := HB1.out k t
          have hsb := HS.out (A k + B k t)
          by_cases hf : f k < f t
          · rw [if_pos hf] at hB1
            have HX : Hid (sgnZ (A k + B k (t + 1)) = -sgnZ (A k + B k t)) := hid (by rw [hB1, ← Nat.add_assoc, HSS.out])
            have hf' : (f k : Int) < (f t : Int) := by omega
            clear hc hl2 hB1 hf
            generalize sgnZ (A k + B k t) = s at *
            generalize (f k : Int) = x at *
            generalize (f t : Int) = y at *
            go_wp2
            go_quiet (fail)
            go_wp2
            go_roundw
            case rel => exact ⟨t + 1, m2 + nq, by omega, by go_num, by rw [HX.out], rfl⟩
            case measure => simp [intOf] <;> omega
          · rw [if_neg hf] at hB1
            have HX : Hid (sgnZ (A k + B k (t + 1)) = sgnZ (A k + B k t)) := hid (by rw [hB1, Nat.add_zero])
            have hf' : ¬ (f k : Int) < (f t : Int) := by omega
            clear hc hl2 hB1 hf
            generalize sgnZ (A k + B k t) = s at *
            generalize (f k : Int) = x at *
            generalize (f t : Int) = y at *
            go_wp2
            go_quiet (fail)
            go_wp2
            go_roundw
            case rel => exact ⟨t + 1, m2 + nq, by omega, by go_num, by rw [HX.out], rfl⟩
            case measure => simp [intOf] <;> omega
        · obtain rfl : k = t := by omega
          rw [← HABK.out]
          go_wp2
          go_roundw
          case rel => exact ⟨k + 1, m2, by omega, by go_num, rfl, rfl⟩
          case measure => simp [intOf] <;> omega
    · obtain rfl : N' = k := by omega
      go_wp2
      go_ret
      exact ⟨by rw [HI.out]; rfl, m, rfl⟩
end Go.Proofs.Ytgfdddknajeknaa
