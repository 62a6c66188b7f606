/-
  The walk over group.Has. Conditions: the slices can be read; numbers of 64 bits.
-/
import Derived.Test.YtnbgnoimanpjnaaGord
namespace Go.Proofs.Ytnbgnoimanpjnaa
set_option linter.unusedVariables false
open Go.RowKit

theorem has_bad (n : Int) (v u : Value) (ll : List (List Int)) (l : List Int) (w : World) (hl : RL w v ll) (hu : Sl w u l) (hE : grpE n ll ≠ 0) :
    Calls Try.prog 18 #[.int .i64 n, v, u] w fun e w' => e = .returned (.tuple #[.bool false, .int .i64 (grpE n ll)]) ∧ Below w.heap.size w w' := by
  have HO := hid (gopen_bad n v ll w hl hE)
  obtain ⟨a, c, N, rfl, hN, hc1, hc2⟩ := hl.open
  obtain ⟨a2, c2, e2⟩ := hu.len
  subst e2
  have hb : (grpE n ll == 0) = false := beq_eq_false_iff_ne.2 hE
  have hb2 : (grpE n ll != 0) = true := bne_iff_ne.2 hE
  clear hE hl hc2 hu
  generalize grpE n ll = E at *
  go_enter Try.func18, Try.ntmps18
  go_wp2_with fail
  refine HO.out.mono ?_
  rintro e w1 ⟨rfl, hb1⟩
  have HB := hid hb1
  clear hb1
  go_wp2
  go_ret2
  exact ⟨rfl, HB.out⟩

set_option maxHeartbeats 1000000 in
theorem has_ok (n : Nat) (v u : Value) (ll : List (List Int)) (l : List Int) (w : World) (hl : RL w v ll) (hu : Sl w u l) (hE : grpE (n : Int) ll = 0) :
    Calls Try.prog 18 #[.int .i64 n, v, u] w fun e w' => e = .returned (.tuple #[.bool (decide (memE n l = 0) && inM (mvF n (fL l)) (GL n (msL n ll))), .int .i64 (memE n l)]) ∧ Below w.heap.size w w' := by
  have HO := hid (gopen_ok n v ll w hl hE)
  obtain ⟨n', hn', hG⟩ := gok_of hE
  obtain rfl : n = n' := by omega
  have n1 := hG.n1
  have n7 := hG.n7
  have hlen := (GL_len hG.mv).2
  have hfb := (fac_bd n (by omega)).2
  have HL := hid (Nat.le_trans hlen (Nat.le_trans hfb (by decide : 479001600 ≤ 1000000000)))
  obtain ⟨a, c, N, rfl, hN, hc1, hc2⟩ := hl.open
  have HU := hid (fun w1 (hb : Below w.heap.size w w1) => hu.below hb)
  obtain ⟨a2, c2, e2⟩ := hu.len
  subst e2
  have HCK := hid (fun (w1 : World) (hu : Sl w1 (.slice a2 l.length c2) l) => check_any (.slice a2 l.length c2) l w1 hu)
  have HMO := hid (fun (w1 : World) (hu : Sl w1 (.slice a2 l.length c2) l) (P : PmL l n (fL l)) => moveof_ok (.slice a2 l.length c2) l n (fL l) w1 hu P n1 n7)
  have HCT := hid (fun (x : Nat → Nat) (v : Value) (L : List (Nat → Nat)) (w : World) hl hlen => contains_mv x v L w hl hlen)
  clear hE hl hc2 hG hlen hfb hn' hu
  have HMM : Hid (memE n l = if permE l ≠ 0 then permE l else if ((l.length : Nat) : Int) ≠ n then 2 else 0) := hid rfl
  generalize hLL : GL n (msL n ll) = L at *
  have HPO : Hid (permE l = 0 → l.length = n → PmL l n (fL l)) := hid (fun h1 h2 => by have := pm_of h1; rwa [h2] at this)
  generalize hz : mvF n (fL l) = z at *
  generalize memE n l = M at *
  generalize permE l = E at *
  obtain ⟨K, hK⟩ : ∃ K, l.length = K := ⟨_, rfl⟩
  have HK := hid hK
  rw [hK] at HMM HPO HCK HMO HU ⊢
  clear hLL hz hK
  by_cases h1 : E = 0
  · subst h1
    have HMM2 : Hid (M = if ((K : Nat) : Int) ≠ n then 2 else 0) := hid (by rw [HMM.out, if_neg (by decide)])
    clear HMM
    by_cases h2 : K = n
    · subst h2
      obtain rfl : M = 0 := by rw [HMM2.out, if_neg (by simp)]
      have HPM := hid (HPO.out rfl rfl)
      rw [show (decide ((0 : Int) = 0) && inM z L) = inM z L by simp]
      clear HMM2 HPO
      go_enter Try.func18, Try.ntmps18
      go_wp2_with fail
      refine HO.out.mono ?_
      rintro e w1 ⟨⟨s, r, rfl, hs, hr⟩, hb1⟩
      obtain ⟨a3, c3, e3⟩ := hs.len
      subst e3
      have H1 := hid (And.intro hr.rm hb1)
      obtain ⟨a4, c4, e4⟩ := hr.len
      subst e4
      clear hb1 hs hr
      go_wp2_with fail
      refine (HCK.out _ (HU.out _ H1.out.2)).mono ?_
      rintro e w2 ⟨rfl, hb2⟩
      have hB2 := H1.out.2.trans (hb2.mono H1.out.2.size)
      have H2 := hid (And.intro (H1.out.1.below hb2) hB2)
      clear hb2 hB2
      go_wp2_with fail
      refine (HMO.out _ (HU.out _ H2.out.2) HPM.out).mono ?_
      rintro e w3 ⟨rfl, hb3⟩
      have hB3 := H2.out.2.trans (hb3.mono H2.out.2.size)
      have H3 := hid (And.intro (H2.out.1.below hb3) hB3)
      clear hb3 hB3
      unfold mvV
      go_wp2_with fail
      refine (HCT.out z _ L _ H3.out.1 HL.out).mono ?_
      rintro e w4 ⟨rfl, hb4⟩
      have HB4 := hid (H3.out.2.trans (hb4.mono H3.out.2.size))
      clear hb4
      go_wp2
      go_ret2
      exact ⟨rfl, HB4.out⟩
    · have h2i : ¬ ((K : Nat) : Int) = (n : Int) := by omega
      obtain rfl : M = 2 := by rw [HMM2.out, if_pos h2i]
      rw [show (decide ((2 : Int) = 0) && inM z L) = false by simp]
      have hb : (((K : Nat) : Int) != (n : Int)) = true := bne_iff_ne.2 h2i
      clear HMM2 HPO
      go_enter Try.func18, Try.ntmps18
      go_wp2_with fail
      refine HO.out.mono ?_
      rintro e w1 ⟨⟨s, r, rfl, hs, hr⟩, hb1⟩
      obtain ⟨a3, c3, e3⟩ := hs.len
      subst e3
      obtain ⟨a4, c4, e4⟩ := hr.len
      subst e4
      have H1 := hid hb1
      clear hb1 hs hr
      go_wp2_with fail
      refine (HCK.out _ (HU.out _ H1.out)).mono ?_
      rintro e w2 ⟨rfl, hb2⟩
      have H2 := hid (H1.out.trans (hb2.mono H1.out.size))
      clear hb2
      go_wp2
      go_ret2
      exact ⟨rfl, H2.out⟩
  · obtain rfl : M = E := by rw [HMM.out, if_pos h1]
    have hd : decide (M = 0) = false := decide_eq_false h1
    rw [hd, Bool.false_and]
    have hb : (M == 0) = false := beq_eq_false_iff_ne.2 h1
    have hb2 : (M != 0) = true := bne_iff_ne.2 h1
    clear HMM HPO h1 hd
    go_enter Try.func18, Try.ntmps18
    go_wp2_with fail
    refine HO.out.mono ?_
    rintro e w1 ⟨⟨s, r, rfl, hs, hr⟩, hb1⟩
    obtain ⟨a3, c3, e3⟩ := hs.len
    subst e3
    obtain ⟨a4, c4, e4⟩ := hr.len
    subst e4
    have H1 := hid hb1
    clear hb1 hs hr
    go_wp2_with fail
    refine (HCK.out _ (HU.out _ H1.out)).mono ?_
    rintro e w2 ⟨rfl, hb2⟩
    have H2 := hid (H1.out.trans (hb2.mono H1.out.size))
    clear hb2
    go_wp2
    go_ret2
    exact ⟨rfl, H2.out⟩
end Go.Proofs.Ytnbgnoimanpjnaa
