/-
  The walks over subset.Rank and parterreref4.RankOf. Condition: the slice can be read; for RankOf: numbers that rise within bounds.
-/
import Derived.Test.YtdbfmjlnalaobaaSrise
import Derived.Test.YtdbfmjlnalaobaaSwref
namespace Go.Proofs.Ytdbfmjlnalaobaa
set_option linter.unusedVariables false
open Go.RowKit

/-- The sum of the first k ways. -/
def rkS (l : List Int) : Nat → Nat
  | 0 => 0
  | k + 1 => rkS l k + bin (l[k]?.getD 0).toNat (k + 1)
/-- Numbers within bounds, no more than 30. -/
structure RkL (l : List Int) : Prop where
  len : l.length ≤ 30
  bd : ∀ k, k < l.length → 0 ≤ l[k]?.getD 0 ∧ l[k]?.getD 0 ≤ 60
  up : ∀ k, k + 1 < l.length → l[k]?.getD 0 < l[k + 1]?.getD 0
theorem rise_up {l : List Int} {k : Nat} : ∀ {m : Nat}, riseTo l m = true → k + 1 < m → l[k]?.getD 0 < l[k + 1]?.getD 0
  | 0, h, hk => by omega
  | m + 1, h, hk => by
    simp only [riseTo, Bool.and_eq_true] at h
    by_cases e : k + 1 = m
    · subst e
      have := h.2
      simpa using this
    · exact rise_up h.1 (by omega)
theorem rk_of {l : List Int} (h : rankE l = 0) : RkL l := by
  unfold rankE at h
  by_cases h1 : 30 < l.length
  · rw [if_pos h1] at h; exact absurd h (by decide)
  rw [if_neg h1] at h
  by_cases h2 : l.any badNum = true
  · rw [if_pos h2] at h; exact absurd h (by decide)
  rw [if_neg h2] at h
  by_cases h3 : riseB l = true
  · refine ⟨by omega, fun k hk => ?_, fun k hk => rise_up h3 hk⟩
    have hb : badNum (l[k]?.getD 0) = false := by
      cases hb : badNum (l[k]?.getD 0) with
      | true => exact absurd (any_true hk hb) h2
      | false => rfl
    simp only [badNum, Bool.or_eq_false_iff, decide_eq_false_iff_not] at hb
    omega
  · rw [if_neg h3] at h; exact absurd h (by decide)
theorem rkS_bd {l : List Int} (R : RkL l) : ∀ k, k ≤ l.length → rkS l k ≤ k * 118264581564861424
  | 0, _ => by simp [rkS]
  | k + 1, hk => by
    have h1 := rkS_bd R k (by omega)
    have h2 := (R.bd k (by omega)).2
    have h3 := bin60 (l[k]?.getD 0).toNat (k + 1) (by omega)
    simp only [rkS]
    omega

theorem Rank_bad (v : Value) (l : List Int) (w : World) (hl : Sl w v l) (hb : ∀ x ∈ l, I64 x) (h : rankE l ≠ 0) :
    Calls Try.prog 21 #[v] w fun e w' => e = .returned (.tuple #[.int .i64 0, .int .i64 (rankE l)]) ∧ ∃ n, w' = w.drewN n := by
  have H1 := hid (containsFunc_any _ _ _ v l w hl hb (rank1_tests w))
  have H2 := hid (rises_any v l w hl)
  obtain ⟨a, c, N, rfl, hN, hl1, hl2⟩ := hl.open
  have HW : rankE l = if 30 < N then 3 else if l.any badNum = true then 1 else if riseB l = true then 0 else 2 := by rw [← hN.out]; rfl
  clear hl hb hl2
  by_cases h4 : 30 < N
  · rw [if_pos h4] at HW
    rw [HW]
    clear HW H1 H2 h
    go_enter Try.func21, Try.ntmps21
    go_wp2
    go_ret2
    exact ⟨rfl, 0, rfl⟩
  · rw [if_neg h4] at HW
    cases hp : l.any badNum with
    | true =>
      rw [hp, if_pos rfl] at HW
      rw [HW]
      rw [hp] at H1
      clear HW h
      go_enter Try.func21, Try.ntmps21
      go_wp2_with fail
      refine H1.out.mono ?_
      rintro e w1 ⟨rfl, rfl⟩
      go_wp2
      go_ret2
      exact ⟨rfl, 0, rfl⟩
    | false =>
      rw [hp, if_neg (by decide)] at HW
      rw [hp] at H1
      cases hr : riseB l with
      | true => rw [hr, if_pos rfl] at HW; exact absurd HW h
      | false =>
        rw [hr, if_neg (by decide)] at HW
        rw [HW]
        rw [hr] at H2
        clear HW h
        go_enter Try.func21, Try.ntmps21
        go_wp2_with fail
        refine H1.out.mono ?_
        rintro e w1 ⟨rfl, rfl⟩
        go_wp2_with fail
        refine H2.out.mono ?_
        rintro e w1 ⟨rfl, n, rfl⟩
        go_wp2
        go_ret2
        exact ⟨rfl, n, rfl⟩

set_option maxRecDepth 100000 in
theorem Rank_ok (v : Value) (l : List Int) (w : World) (hl : Sl w v l) (hb : ∀ x ∈ l, I64 x) (h : rankE l = 0) :
    Calls Try.prog 21 #[v] w fun e w' => e = .returned (.tuple #[.int .i64 (rkS l l.length : Nat), .int .i64 0]) ∧ ∃ n, w' = w.drewN n := by
  have R := rk_of h
  have H1 := containsFunc_any _ _ _ v l w hl hb (rank1_tests w)
  have H2 := rises_any v l w hl
  have hp : l.any badNum = false ∧ riseB l = true := by
    unfold rankE at h
    rw [if_neg (by have := R.len; omega)] at h
    cases h1 : l.any badNum with
    | true => rw [h1, if_pos rfl] at h; exact absurd h (by decide)
    | false =>
      rw [h1, if_neg (by decide)] at h
      cases h2 : riseB l with
      | true => exact ⟨rfl, rfl⟩
      | false => rw [h2, if_neg (by decide)] at h; exact absurd h (by decide)
  rw [hp.1] at H1
  rw [hp.2] at H2
  have HA := hid H1
  have HB := hid H2
  obtain ⟨a, c, N, rfl, hN, hl1, hl2⟩ := hl.open
  have hlen := R.len
  have HBD := hid R.bd
  have HS := hid (rkS_bd R)
  rw [hN.out] at hlen HBD HS ⊢
  have HW := hid (fun (n k : Nat) (w : World) (hn : n ≤ 61) (hk : k ≤ 30) => ways_ok n k w hn hk)
  have HB60 := hid (fun n k (h : n ≤ 60) => bin60 n k h)
  have HS1 : Hid (∀ k, rkS l (k + 1) = rkS l k + bin (l[k]?.getD 0).toNat (k + 1)) := hid (fun k => rfl)
  have HS0 : Hid (rkS l 0 = 0) := hid rfl
  clear hl hb h R hp H1 H2
  generalize rkS l = RS at *
  generalize bin = bb at *
  go_enter Try.func21, Try.ntmps21
  go_wp2_with fail
  refine HA.out.mono ?_
  rintro e w1 ⟨rfl, rfl⟩
  go_wp2_with fail
  refine HB.out.mono ?_
  rintro e w1 ⟨rfl, n, rfl⟩
  clear HA HB
  go_wp2
  go_loopw [4, 20] (fun o i wr => ∃ k q : Nat, k ≤ N ∧ i = .int .i64 k ∧ o = .int .i64 (RS k : Nat) ∧ wr = w.drewN q) (fun _ i _ => N - (intOf i).toNat)
  case atStart => exact ⟨0, n, Nat.zero_le _, rfl, by rw [HS0.out]; rfl, rfl⟩
  case round =>
    obtain ⟨k, q, hk, rfl, rfl, rfl⟩ := hrel
    by_cases hlt : k < N
    · obtain ⟨b, off, rfl, hbl, hc⟩ := hl2 (by omega)
      have c1 := hc k hlt
      obtain ⟨b1, b2⟩ := HBD.out k hlt
      have hs1 := HS.out (k + 1) hlt
      have hs0 := HS.out k hk
      have HS1K := hid (HS1.out k)
      obtain ⟨x, hx⟩ : ∃ x : Nat, l[k]?.getD 0 = (x : Int) := ⟨(l[k]?.getD 0).toNat, by omega⟩
      rw [hx] at c1 b1 b2 HS1K
      rw [Int.toNat_natCast] at HS1K
      have HWK := HW.out x (k + 1) (w.drewN q) (by omega) (by omega)
      rw [show ((k + 1 : Nat) : Int) = (k : Int) + 1 by omega] at HWK
      have HWK' := hid HWK
      have hbb := HB60.out x (k + 1) (by omega)
      clear hc hl2 HWK hx
      generalize bb x (k + 1) = y at *
      go_wp2_with fail
      refine HWK'.out.mono ?_
      rintro e w1 ⟨rfl, q2, rfl⟩
      go_wp2
      go_roundw
      case rel => exact ⟨k + 1, q + q2, by omega, by go_num, by rw [HS1K.out]; go_num, rfl⟩
      case measure => simp [intOf] <;> omega
    · obtain rfl : N = k := by omega
      go_wp2
      go_ret2
      exact ⟨rfl, q, rfl⟩

set_option maxRecDepth 100000 in
theorem RankOf_ok (v : Value) (l : List Int) (w : World) (hl : Sl w v l) (h : rankE l = 0) :
    Calls Try.prog 22 #[v] w fun e w' => e = .returned (.int .i64 (rkS l l.length : Nat)) ∧ Below w.heap.size w w' := by
  have R := rk_of h
  obtain ⟨a, c, N, rfl, hN, hl1, hl2⟩ := hl.open
  have hlen := R.len
  have HBD := hid R.bd
  have HS := hid (rkS_bd R)
  rw [hN.out] at hlen HBD HS ⊢
  have HW := hid (fun (n k : Nat) (w : World) (hn : n ≤ 61) (hk : k ≤ n) => Ways_ok n k w hn hk)
  have HW0 := hid (fun (n k : Nat) (w : World) (hk : n < k) => Ways_none n k w (.inr (by omega)))
  have HBN := hid bin_none
  have HB60 := hid (fun n k (h : n ≤ 60) => bin60 n k h)
  have HS1 : Hid (∀ k, rkS l (k + 1) = rkS l k + bin (l[k]?.getD 0).toNat (k + 1)) := hid (fun k => rfl)
  have HS0 : Hid (rkS l 0 = 0) := hid rfl
  have HALL : Hid (∀ (n k : Nat) (w : World), n ≤ 61 → Calls Try.prog 35 #[.int .i64 n, .int .i64 k] w fun e w' => e = .returned (.int .i64 (bin n k : Nat)) ∧ Below w.heap.size w w') := hid (fun n k w hn => by
    by_cases h : k ≤ n
    · exact HW.out n k w hn h
    · rw [HBN.out n k (by omega)]
      exact HW0.out n k w (by omega))
  clear hl h R HW HW0 HBN
  generalize rkS l = RS at *
  generalize bin = bb at *
  go_enter Try.func22, Try.ntmps22
  go_wp2
  go_loopw [3, 4] (fun o i wr => ∃ k : Nat, k ≤ N ∧ i = .int .i64 k ∧ o = .int .i64 (RS k : Nat) ∧ Below w.heap.size w wr) (fun _ i _ => N - (intOf i).toNat)
  case atStart => exact ⟨0, Nat.zero_le _, rfl, by rw [HS0.out]; rfl, Below.refl _ _⟩
  case round =>
    obtain ⟨k, hk, rfl, rfl, hb⟩ := hrel
    by_cases hlt : k < N
    · obtain ⟨b, off, rfl, hbl, hc⟩ := hl2 (by omega)
      have c1 := (hb.cell (p := ⟨b, off + k, none⟩) hbl).trans (hc k hlt)
      obtain ⟨b1, b2⟩ := HBD.out k hlt
      have hs1 := HS.out (k + 1) hlt
      have hs0 := HS.out k hk
      have HS1K := hid (HS1.out k)
      obtain ⟨x, hx⟩ : ∃ x : Nat, l[k]?.getD 0 = (x : Int) := ⟨(l[k]?.getD 0).toNat, by omega⟩
      rw [hx] at c1 b1 b2 HS1K
      rw [Int.toNat_natCast] at HS1K
      have HWK := HALL.out x (k + 1) wr (by omega)
      rw [show ((k + 1 : Nat) : Int) = (k : Int) + 1 by omega] at HWK
      have HWK' := hid HWK
      have hbb := HB60.out x (k + 1) (by omega)
      have HBL := hid hb
      clear hc hl2 HWK hx hb
      generalize bb x (k + 1) = y at *
      go_wp2_with fail
      refine HWK'.out.mono ?_
      rintro e w1 ⟨rfl, hb1⟩
      have HB1 := hid (HBL.out.trans (hb1.mono HBL.out.size))
      clear hb1
      go_wp2
      go_roundw
      case rel => exact ⟨k + 1, by omega, by go_num, by rw [HS1K.out]; go_num, HB1.out⟩
      case measure => simp [intOf] <;> omega
    · obtain rfl : N = k := by omega
      have HBL := hid hb
      clear hb
      go_wp2
      go_ret
      exact ⟨rfl, HBL.out⟩
end Go.Proofs.Ytdbfmjlnalaobaa
