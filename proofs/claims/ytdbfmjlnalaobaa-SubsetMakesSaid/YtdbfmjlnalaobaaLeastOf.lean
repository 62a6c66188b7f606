/-
  The walks over parterreref4.LeastOf and parterreref4.alone. Conditions: as each walk states.
-/
import Derived.Test.YtdbfmjlnalaobaaLeast
import Derived.Test.YtdbfmjlnalaobaaChains
namespace Go.Proofs.Ytdbfmjlnalaobaa
set_option linter.unusedVariables false
open Go.RowKit Go.Shelf

theorem LeastOf_nil (v : Value) (k : Int) (w : World) (hl : Sl w v []) :
    Calls Try.prog 28 #[v, .int .i64 k] w fun e w' => e = .returned (.int .i64 0) ∧ ∃ q, w' = w.drewN q := by
  obtain ⟨a, c, N, rfl, hN, hl1, hl2⟩ := hl.open
  obtain rfl : N = 0 := by rw [← hN.out]; rfl
  clear hl hl2
  go_enter Try.func28, Try.ntmps28
  go_wp2
  go_loop [5, 6] (fun o i => o = .int .i64 0 ∧ i = .int .i64 0) (fun _ _ => 0)
  case atStart => exact ⟨rfl, rfl⟩
  case round =>
    obtain ⟨rfl, rfl⟩ := hrel
    go_wp2
    go_ret
    exact ⟨rfl, 0, rfl⟩

set_option maxHeartbeats 1000000 in
theorem LeastOf_ok (v : Value) (m k : Nat) (w : World) (hk : 1 ≤ k) (hk30 : k ≤ 30) (hm : m ≤ 1000000000) (hl : Sl w v (natC (casc k m))) :
    Calls Try.prog 28 #[v, .int .i64 k] w fun e w' => e = .returned (.int .i64 (lsS k (casc k m) (casc k m).length : Nat)) ∧ ∃ q, w' = w.drewN q := by
  have HP := hid (fun i hi => casc_prop k m i hm hk30 hi)
  have HT := hid (fun i hi => ls_term (k := k) (m := m) (i := i) hm hk30 hi)
  have HLB := hid (ls_bd (k := k) (m := m) hm hk30)
  have HL1 : Hid (∀ t, lsS k (casc k m) (t + 1) = lsS k (casc k m) t + bin ((casc k m).getD t 0) (k - 1 - t)) := hid (fun t => rfl)
  have HL0 : Hid (lsS k (casc k m) 0 = 0) := hid rfl
  have hlen := casc_len k m
  have HGR := hid (fun (n k : Nat) (w : World) (h1 : n ≤ 1000000031) (h2 : k ≤ 30) (h3 : k ≤ n) (h4 : bin n k ≤ 1152921504606846976) => great_ok n k w h1 h2 h3 h4)
  obtain ⟨a, c, N, rfl, hN, hl1, hl2⟩ := hl.open
  rw [natC_len] at hN
  have HAT : Hid (∀ t, t < N → (natC (casc k m))[t]?.getD 0 = (((casc k m).getD t 0 : Nat) : Int)) := hid (fun t ht => by
    rw [← List.getD_eq_getElem?_getD, natC_getD _ _ (by rw [hN.out]; exact ht)])
  rw [hN.out] at HP HT HLB hlen ⊢
  clear hl
  generalize lsS k (casc k m) = LS at *
  generalize natC (casc k m) = nA at *
  generalize casc k m = A at *
  go_enter Try.func28, Try.ntmps28
  go_wp2
  go_loopw [5, 6] (fun o i wr => ∃ t q : Nat, t ≤ N ∧ i = .int .i64 t ∧ o = .int .i64 (LS t : Nat) ∧ wr = w.drewN q) (fun _ i _ => N - (intOf i).toNat)
  case atStart => exact ⟨0, 0, Nat.zero_le _, rfl, by rw [HL0.out]; rfl, rfl⟩
  case round =>
    obtain ⟨t, q, ht, rfl, rfl, rfl⟩ := hrel
    by_cases hlt : t < N
    · obtain ⟨b, off, rfl, hb, hc⟩ := hl2 (by omega)
      have c1 := hc t hlt
      rw [HAT.out t hlt] at c1
      obtain ⟨p1, p2, p3, p4⟩ := HP.out t hlt
      obtain ⟨t1, t2⟩ := HT.out t hlt
      have hlb := HLB.out t ht
      have HL1T := hid (HL1.out t)
      have HWTT := hid (HGR.out (A.getD t 0) (k - 1 - t) (w.drewN q) (by omega) (by omega) (by omega) (by omega))
      have hsub : (k : Int) - 1 - (t : Int) = ((k - 1 - t : Nat) : Int) := by omega
      clear hc hl2 p3 t2
      generalize bin (A.getD t 0) (k - 1 - t) = bb at *
      generalize A.getD t 0 = x at *
      obtain ⟨kt, hkt⟩ : ∃ kt, kt = k - 1 - t := ⟨_, rfl⟩
      rw [← hkt] at HWTT hsub
      clear hkt p2
      go_wp2_with fail
      refine HWTT.out.mono ?_
      rintro e w2 ⟨rfl, q2, rfl⟩
      go_wp2
      go_roundw
      case rel => exact ⟨t + 1, q + q2, by omega, by go_num, by rw [HL1T.out]; go_num, by trivial⟩
      case measure => simp [intOf] <;> omega
    · obtain rfl : t = N := by omega
      go_wp2
      go_ret
      exact ⟨rfl, q, rfl⟩

/-- How many closed ones are alone. -/
def aloneC (s : Nat) : Nat → Nat
  | 0 => 0
  | i + 1 => if s / 2 ^ i % 2 = 0 then aloneC s i else if (aloneS s i).2 = [] then aloneC s i + 1 else aloneC s i
theorem aloneC_le (s : Nat) : ∀ i, aloneC s i ≤ i
  | 0 => Nat.le_refl _
  | i + 1 => by
    have := aloneC_le s i
    simp only [aloneC]
    split
    · omega
    · split <;> omega
theorem aloneC_pos (s : Nat) : ∀ i, (0 < aloneC s i ↔ (aloneS s i).1 = true)
  | 0 => by simp [aloneC, aloneS]
  | i + 1 => by
    have ih := aloneC_pos s i
    simp only [aloneC, aloneS]
    by_cases h1 : s / 2 ^ i % 2 = 0
    · rw [if_pos h1, if_pos h1]; exact ih
    · rw [if_neg h1, if_neg h1]
      by_cases h2 : (aloneS s i).2 = []
      · rw [if_pos h2, if_pos h2]; simp
      · rw [if_neg h2, if_neg h2]; exact ih
set_option maxHeartbeats 1000000 in
theorem aloneR_ok (n s : Nat) (w : World) (hn : n ≤ 12) (hs : s < 4096) :
    Calls Try.prog 50 #[.int .i64 n, .int .i64 s] w fun e w' => (∃ u, e = .returned (.tuple #[.int .i64 (aloneC s n : Nat), u]) ∧ OI w.heap.size w' u (natA (aloneS s n).2)) ∧ Below w.heap.size w w' := by
  have H0 : Hid ((aloneS s 0).2 = [] ∧ aloneC s 0 = 0) := hid ⟨rfl, rfl⟩
  have HS : Hid (∀ i, aloneS s (i + 1) = if s / 2 ^ i % 2 = 0 then ((aloneS s i).1, (aloneS s i).2 ++ [i]) else if (aloneS s i).2 = [] then (true, (aloneS s i).2) else ((aloneS s i).1, (aloneS s i).2.dropLast)) := hid (fun i => rfl)
  have HCC : Hid (∀ i, aloneC s (i + 1) = if s / 2 ^ i % 2 = 0 then aloneC s i else if (aloneS s i).2 = [] then aloneC s i + 1 else aloneC s i) := hid (fun i => rfl)
  have HL := hid (aloneS_len s)
  have HCL := hid (aloneC_le s)
  generalize aloneS s = A at *
  generalize aloneC s = C at *
  go_enter Try.func50, Try.ntmps50
  go_wp2
  go_loopw [6, 7, 8] (fun b o i wr => ∃ k : Nat, k ≤ n ∧ i = .int .i64 k ∧ b = .int .i64 (C k : Nat) ∧ OI w.heap.size wr o (natA (A k).2) ∧ Below w.heap.size w wr) (fun _ _ i _ => n - (intOf i).toNat)
  case atStart => exact ⟨0, Nat.zero_le _, rfl, by rw [H0.out.2]; rfl, by rw [H0.out.1]; exact OI.nil _ _, Below.refl _ _⟩
  case round =>
    obtain ⟨k, hk, rfl, rfl, ho, hb⟩ := hrel
    by_cases hlt : k < n
    · have h2 : (2 : Int) ^ k = ((2 ^ k : Nat) : Int) := by simp
      have hp1 : 1 ≤ 2 ^ k := Nat.pos_of_ne_zero (by simp)
      have hsh : (s : Int) / ((2 ^ k : Nat) : Int) = ((s / 2 ^ k : Nat) : Int) := (Int.natCast_ediv s (2 ^ k)).symm
      have hq : s / 2 ^ k ≤ s := Nat.div_le_self _ _
      have han : bits .and .i64 ((s / 2 ^ k : Nat) : Int) 1 = ((s / 2 ^ k % 2 : Nat) : Int) := by rw [← Nat.and_one_is_mod]; exact and_i64 (s / 2 ^ k) 1 (by omega) (by omega)
      have hsk := HS.out k
      have hck := HCC.out k
      have hlen := HL.out k
      have hcl := HCL.out k
      have hp12 : 2 ^ k ≤ 4096 := Nat.pow_le_pow_right (n := 2) (by omega) (show k ≤ 12 by omega)
      by_cases hbit : s / 2 ^ k % 2 = 0
      · rw [if_pos hbit] at hsk hck
        have han1 : bits .and .i64 ((s / 2 ^ k : Nat) : Int) 1 = 0 := by rw [han, hbit]; rfl
        have hl2 : (natA (A k).2).length ≤ 1000000000000 := by rw [natA_len]; omega
        have hsz := hb.size
        have HC : Hid (natA (A k).2 ++ [(k : Int)] = natA (A (k + 1)).2) := hid (by rw [hsk]; simp [natA])
        have HC1 := hid hck
        clear han hsk hbit hlen hck
        generalize natA (A k).2 = nl at *
        generalize s / 2 ^ k = q at *
        generalize 2 ^ k = P at *
        go_wp2_with (at_builtin; refine wpList_appi wr _ _ 22 rfl rfl Try.underlying22 Try.info3 w.heap.size _ _ rfl ho rfl hl2 hsz ?_; intro g c w1 hown1 hg1 hg2 hg3)
        have HX := hid (And.intro (hown1.cast HC.out) (ho.grown hb hg1 hsz))
        clear hown1 hg1 hg2 hg3 ho hb
        go_wp2
        go_roundw
        case rel => exact ⟨k + 1, by omega, by go_num, by rw [HC1.out], HX.out.1, HX.out.2⟩
        case measure => simp [intOf] <;> omega
      · rw [if_neg hbit] at hsk hck
        have hbit1 : s / 2 ^ k % 2 = 1 := by omega
        have han1 : bits .and .i64 ((s / 2 ^ k : Nat) : Int) 1 = 1 := by rw [han, hbit1]; rfl
        by_cases he : (A k).2 = []
        · rw [if_pos he] at hsk hck
          rw [he] at ho hsk
          obtain ⟨a, c, rfl⟩ := ho.len
          have HE := hid hsk
          have HC1 := hid hck
          have HX := hid (And.intro ho hb)
          clear han hsk hbit hbit1 hlen he ho hb hck
          have hnz : (natA []).length = 0 := rfl
          rw [hnz] at HX ⊢
          generalize s / 2 ^ k = q at *
          generalize 2 ^ k = P at *
          go_wp2
          go_roundw
          case rel => exact ⟨k + 1, by omega, by go_num, by rw [HC1.out]; go_num, by rw [HE.out]; exact HX.out.1, HX.out.2⟩
          case measure => simp [intOf] <;> omega
        · rw [if_neg he] at hsk hck
          have hpos : 0 < (A k).2.length := List.length_pos_iff.2 he
          obtain ⟨g, c, rfl, hg1, hg2⟩ := ho.form (by rw [natA_len]; exact hpos)
          have hcap := ho.cap
          have HT := hid ((ho.take ((A k).2.length - 1) (by rw [natA_len]; omega)).cast (natA_take _))
          have HC : Hid (natA (A k).2.dropLast = natA (A (k + 1)).2) := hid (by rw [hsk])
          have HC1 := hid hck
          have HB := hid hb
          rw [natA_len] at hcap ⊢
          clear han hsk hbit hbit1 he ho hb hck
          generalize (A k).2.length = ln at *
          generalize s / 2 ^ k = q at *
          generalize 2 ^ k = P at *
          have hln : 0 < (ln : Int) := by omega
          have hln1 : (ln : Int) - 1 = ((ln - 1 : Nat) : Int) := by omega
          have hlc : ln - 1 ≤ c := by omega
          go_wp2
          go_roundw
          case rel => exact ⟨k + 1, by omega, by go_num, by rw [HC1.out], by rw [← HC.out]; exact HT.out, HB.out⟩
          case measure => simp [intOf] <;> omega
    · obtain rfl : k = n := by omega
      have HX := hid (And.intro ho hb)
      clear ho hb
      go_wp2
      go_ret2
      exact ⟨⟨_, rfl, HX.out.1⟩, HX.out.2⟩
end Go.Proofs.Ytdbfmjlnalaobaa
