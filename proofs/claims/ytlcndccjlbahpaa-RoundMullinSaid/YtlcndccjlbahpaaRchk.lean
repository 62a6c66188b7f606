/-
  The walk over round.Check. Condition: the slices can be read.
-/
import Derived.Test.YtlcndccjlbahpaaRchkP
import Derived.Test.YtlcndccjlbahpaaRkeys
namespace Go.Proofs.Ytlcndccjlbahpaa
set_option linter.unusedVariables false
open Go.RowKit Go.Maps

theorem chk_bad {n : Int} {ll : List (List Int)} (h : tmB n = false) : chkE n ll = 1 := by simp [chkE, h]
theorem chk_full {n : Int} {ll : List (List Int)} (h : tmB n = true) (h2 : n.toNat - 1 < ll.length) : chkE n ll = 3 := by rw [chkE, if_pos h, if_pos h2]
theorem chk_err {n : Int} {ll : List (List Int)} (h : tmB n = true) (h2 : ¬ n.toNat - 1 < ll.length) {k : Nat} (h3 : ∀ j, j < k → rdE n.toNat (ll.getD j []) = 0) (hk : k < ll.length) (h4 : rdE n.toNat (ll.getD k []) ≠ 0) : chkE n ll = rdE n.toNat (ll.getD k []) := by
  have := fr_at h3 hk h4
  rw [chkE, if_pos h, if_neg h2, this, if_neg h4]
theorem chk_end {n : Int} {ll : List (List Int)} (h : tmB n = true) (h2 : ¬ n.toNat - 1 < ll.length) (h3 : ∀ j, j < ll.length → rdE n.toNat (ll.getD j []) = 0) : chkE n ll = if twB n.toNat ll = true then 6 else 0 := by
  have := fr_none h3
  rw [chkE, if_pos h, if_neg h2, if_pos this]
theorem tm_of {n : Int} (h : tmB n = true) : ∃ m : Nat, n = (m : Int) ∧ 2 ≤ m ∧ m ≤ 16 ∧ m % 2 = 0 := by
  unfold tmB at h
  rw [decide_eq_true_iff] at h
  exact ⟨n.toNat, by omega, by omega, by omega, by omega⟩
theorem chk_small (n : Int) (ll : List (List Int)) : 0 ≤ chkE n ll ∧ chkE n ll ≤ 6 := by
  have hrd : ∀ m l, 0 ≤ rdE m l ∧ rdE m l ≤ 6 := fun m l => by
    unfold rdE
    split
    · omega
    · split
      · omega
      · split <;> omega
  have hfr : ∀ m (ll : List (List Int)), 0 ≤ frE m ll ∧ frE m ll ≤ 6 := fun m ll => by
    induction ll with
    | nil => simp [frE]
    | cons l r ih => simp only [frE]; split; exact ih; exact hrd m l
  unfold chkE
  split
  · split
    · omega
    · split
      · split <;> omega
      · exact hfr _ _
  · omega

set_option maxHeartbeats 1000000 in
set_option maxRecDepth 100000 in
theorem Check_any (n : Int) (v : Value) (ll : List (List Int)) (w : World) (hl : RL w v ll) (hb : ∀ l ∈ ll, ∀ x ∈ l, I64 x) :
    Calls Try.prog 18 #[.int .i64 n, v] w fun e w' => e = .returned (.int .i64 (chkE n ll)) ∧ Below w.heap.size w w' := by
  have HT := hid (teams_any n w)
  cases ht : tmB n with
  | false =>
    have HE := hid (chk_bad (ll := ll) ht)
    rw [ht] at HT
    clear ht hl hb
    go_enter Try.func18, Try.ntmps18
    go_wp2_with fail
    refine HT.out.mono ?_
    rintro e w1 ⟨rfl, rfl⟩
    go_wp2
    go_ret
    exact ⟨by rw [HE.out]; rfl, Below.refl _ _⟩
  | true =>
    have HFU := hid (fun h2 => chk_full (ll := ll) ht h2)
    have HER := hid (fun h2 k h3 hk h4 => chk_err (ll := ll) ht h2 (k := k) h3 hk h4)
    have HEN := hid (fun h2 h3 => chk_end (ll := ll) ht h2 h3)
    rw [ht] at HT
    obtain ⟨m, rfl, hm2, hm16, hme⟩ := tm_of ht
    clear ht
    rw [Int.toNat_natCast] at HFU HER HEN
    have HLL := hid hl
    obtain ⟨a, c, N, rfl, hN, hl1, hl2⟩ := hl.open
    rw [hN.out] at HFU HER HEN
    by_cases hfull : m - 1 < N
    · have HE := hid (HFU.out hfull)
      have hci : ((m : Int) - 1 < (N : Int)) := by omega
      rw [HE.out]
      clear hl2 HLL hb
      go_enter Try.func18, Try.ntmps18
      go_wp2_with fail
      refine HT.out.mono ?_
      rintro e w1 ⟨rfl, rfl⟩
      go_wp2
      go_ret
      exact ⟨rfl, Below.refl _ _⟩
    have hN15 : N ≤ 15 := by omega
    have hci : ¬ ((m : Int) - 1 < (N : Int)) := by omega
    have HER2 := hid (HER.out hfull)
    have HEN2 := hid (HEN.out hfull)
    have HCR := hid (fun (v1 : Value) (l1 : List Int) (w1 : World) (h1 : Sl w1 v1 l1) (h2 : ∀ x ∈ l1, I64 x) => checkRound_any m v1 l1 w1 h1 h2 (by omega))
    have HBL : Hid (∀ i, i < N → ∀ x ∈ ll.getD i [], I64 x) := hid (fun i hi => hb _ (by
      rw [List.getD_eq_getElem?_getD, List.getElem?_eq_getElem (by rw [hN.out]; exact hi)]
      exact List.getElem_mem _))
    have HRN := hid (fun j h => rnd_of (n := m) (ll := ll) (j := j) h)
    have HSP := hid (fun j h => rd_spec (n := m) (l := ll.getD j []) h)
    have HNX := hid (fun i S h => PS.next (n := m) (ll := ll) (i := i) (S := S) h)
    have HOF := hid (fun i t S h hge => PS.off (n := m) (ll := ll) (i := i) (t := t) (S := S) h hge)
    have HON := hid (fun i t S S' h hlt hS => PS.on (n := m) (ll := ll) (i := i) (t := t) (S := S) (S' := S') h hlt hS)
    have HP0 := hid (PS.zero m ll)
    have HCP := hid (fun S (hf : ∀ j, j < N → rdE m (ll.getD j []) = 0) h hS => count_pairs (n := m) (ll := ll) (S := S) hme (fr_none (by rw [hN.out]; exact hf)) h hS)
    rw [hN.out] at HCP
    clear HFU HER HEN hb hl
    generalize chkE (m : Int) ll = E at *
    generalize PS m ll = PSS at *
    obtain ⟨RE, hRE⟩ : ∃ RE : Nat → Int, RE = fun j => rdE m (ll.getD j []) := ⟨_, rfl⟩
    have HREQ : Hid (∀ j, rdE m (ll.getD j []) = RE j) := hid (fun j => by rw [hRE])
    clear hRE
    have hmm := @run_makeMap Try.prog
    have HKM : Hid (KM 48 pairF (w.alloc (.map #[] 0)) w.heap.size 0 []) := hid (KM.new _ _ _)
    have HB0 : Hid (Below w.heap.size w (w.alloc (.map #[] 0))) := hid ((Below.refl _ _).alloc (Nat.le_refl _) _)
    go_enter Try.func18, Try.ntmps18
    go_wp2_with fail
    refine HT.out.mono ?_
    rintro e w1 ⟨rfl, rfl⟩
    go_wp2
    go_loopw [24] (fun i wr => ∃ (k : Nat) (S : List (Nat × Nat)), k ≤ N ∧ i = .int .i64 k ∧ KM 48 pairF wr w.heap.size (k * 16) S ∧ Hid (PSS k 0 S ∧ S.Nodup ∧ ∀ j, j < k → rdE m (ll.getD j []) = 0) ∧ Below w.heap.size w wr) (fun i _ => N - (intOf i).toNat)
    case atStart => exact ⟨0, [], Nat.zero_le _, rfl, HKM.out, hid ⟨HP0.out, List.nodup_nil, fun j hj => by omega⟩, HB0.out⟩
    case round =>
      obtain ⟨k, S, hk, rfl, hkm, hps, hbw⟩ := hrel
      by_cases hlt : k < N
      · obtain ⟨g, off, rfl, hg, hc⟩ := hl2 (by omega)
        obtain ⟨u1, c1, s1⟩ := hc k hlt
        have c1 := (hbw.cell (p := ⟨g, off + k, none⟩) hg).trans c1
        have H1 := hid (HCR.out u1 _ wr (s1.below hbw) (HBL.out k hlt))
        by_cases hz : rdE m (ll.getD k []) = 0
        · obtain ⟨q1, q2, q3⟩ := HSP.out k hz
          obtain ⟨hR, hpr⟩ := HRN.out k hz
          have HR := hid hR
          have HPR := hid hpr
          have HONK := hid (HON.out k)
          have HOFK := hid (HOF.out k)
          obtain ⟨a1, cp1, N1, rfl, hN1, hl1', hl2'⟩ := s1.open
          obtain rfl : N1 = m := by rw [← hN1.out]; exact q1
          rw [hz] at H1
          have HALL : Hid (∀ j, j < k + 1 → rdE N1 (ll.getD j []) = 0) := hid (fun j hj => by
            by_cases e : j = k
            · rw [e]; exact hz
            · exact hps.out.2.2 j (by omega))
          have HS := hid (And.intro hkm (And.intro hps.out.1 hps.out.2.1))
          have HBW := hid hbw
          clear hc hz q1 q2 q3 hR hpr s1 hl2 hps hkm hbw
          generalize pr ll k = p at *
          generalize ll.getD k [] = l1 at *
          go_wp2_with fail
          refine H1.out.mono ?_
          rintro e w2 ⟨rfl, hb2⟩
          have HB2 := hid (And.intro (HBW.out.trans (hb2.mono HBW.out.size)) (And.intro (HS.out.1.below hb2) HS.out.2))
          have HB3 := hid hb2
          clear hb2
          go_wp2
          go_loopw [37] (fun i wq => ∃ (t : Nat) (S : List (Nat × Nat)), t ≤ N1 ∧ i = .int .i64 t ∧ KM 48 pairF wq w.heap.size (k * 16 + t) S ∧ Hid (PSS k t S ∧ S.Nodup) ∧ Below w.heap.size w wq) (fun i _ => N1 - (intOf i).toNat)
          case atStart => exact ⟨0, S, Nat.zero_le _, rfl, HB2.out.2.1, hid ⟨HB2.out.2.2.1, HB2.out.2.2.2⟩, HB2.out.1⟩
          case round =>
            obtain ⟨t, S2, ht, rfl, hkm, hps, hbq⟩ := hrel
            by_cases htN : t < N1
            · obtain ⟨b, off2, rfl, hb2, hc2⟩ := hl2' (by omega)
              have c2 := (hbq.cell (p := ⟨b, off2 + t, none⟩) hb2).trans (hc2 t htN)
              rw [HPR.out t htN] at c2
              have hpl := HR.out.lt t htN
              have HKEY := hid (pairKey (p := (t, p t)) (show t < 1000 by omega) (show p t < 1000 by omega))
              by_cases htp : t < p t
              · have HN := hid (fun S' hS => HONK.out t S2 S' hps.out.1 htp hS)
                have HPS := hid hps.out.2
                have HBQ := hid hbq
                have hsz : w.heap.size ≤ wr.heap.size := hbq.size
                have HPP : Hid (∀ y, y ∈ ins (t, p t) S2 ↔ y = (t, p t) ∨ y ∈ S2) := hid (fun y => mem_ins)
                have HNN := hid (HN.out _ HPP.out)
                clear hc2 hl2' hps hbq HN HPP
                have HFP : Hid (Value.agg #[.int .i64 (t : Int), .int .i64 ((p t : Nat) : Int)] = pairF (t, p t)) := hid rfl
                generalize hpt : p t = x at *
                clear hpt
                go_wp2_with (at_mapUpdate; refine wpList_km rfl _ _ _ 45 rfl 48 pairF pairLaw pairF_inj Try.underlying45 w.heap.size _ S2 rfl hkm (by unfold maxLen; omega) (t, x) _ rfl rfl HKEY.out (WalkArith.wf_i64 (by omega)) ?_; intro w4 hkm4 hg4)
                have HX := hid (And.intro hkm4 (HBQ.out.grown hg4 hsz (fun j hj => by cases hj; exact Nat.le_refl _)))
                clear hkm4 hg4 hkm
                go_wp2
                go_roundw
                case rel => exact ⟨t + 1, _, by omega, by go_num, HX.out.1, hid ⟨HNN.out, ins_nodup HPS.out⟩, HX.out.2⟩
                case measure => simp [intOf] <;> omega
              · have HX := hid (And.intro (hkm.mono (show k * 16 + t ≤ k * 16 + (t + 1) by omega)) (And.intro (HOFK.out t S2 hps.out.1 htp) (And.intro hps.out.2 hbq)))
                have hci3 : ¬ (t : Int) < ((p t : Nat) : Int) := by omega
                clear hc2 hl2' hps hbq hkm
                generalize p t = x at *
                go_wp2
                go_roundw
                case rel => exact ⟨t + 1, _, by omega, by go_num, HX.out.1, hid ⟨HX.out.2.1, HX.out.2.2.1⟩, HX.out.2.2.2⟩
                case measure => simp [intOf] <;> omega
            · obtain rfl : t = N1 := by omega
              have HEND := hid (And.intro (hkm.mono (show k * 16 + t ≤ (k + 1) * 16 by omega)) (And.intro (HNX.out k S2 hps.out.1) hps.out.2))
              have HBQ := hid hbq
              clear hkm hps hbq
              go_wp2
              go_roundw
              case rel => exact ⟨k + 1, S2, by omega, by go_num, HEND.out.1, hid ⟨HEND.out.2.1, HEND.out.2.2, HALL.out⟩, HBQ.out⟩
              case measure => simp [intOf] <;> omega
        · have HE := hid (HER2.out k hps.out.2.2 hlt hz)
          have hq : (rdE m (ll.getD k []) != 0) = true := by simpa using hz
          have HBW := hid hbw
          clear hz hc hl2 s1 hps hkm hbw
          generalize rdE m (ll.getD k []) = z at *
          go_wp2_with fail
          refine H1.out.mono ?_
          rintro e w2 ⟨rfl, hb2⟩
          have HB2 := hid (HBW.out.trans (hb2.mono HBW.out.size))
          clear hb2
          go_wp2
          go_ret
          exact ⟨by rw [HE.out]; rfl, HB2.out⟩
      · obtain rfl : k = N := by omega
        have HEE := hid (HEN2.out hps.out.2.2)
        obtain ⟨hcp1, hcp2⟩ := HCP.out S hps.out.2.2 hps.out.1 hps.out.2.1
        have hlen := hkm.len Try.underlying45
        have hmul : (k : Int) * (m : Int) = ((k * m : Nat) : Int) := by rw [Int.natCast_mul]
        have hdv : ((k * m : Nat) : Int).tdiv 2 = ((k * m / 2 : Nat) : Int) := (Int.ofNat_tdiv (k * m) 2).symm
        have hkm2 : k * m / 2 = k * (m / 2) := by
          have : m = 2 * (m / 2) := by omega
          have h2 : k * m = 2 * (k * (m / 2)) := by rw [Nat.mul_left_comm, ← this]
          omega
        rw [hkm2] at hdv
        have hb3 : k * m ≤ 240 := Nat.mul_le_mul (show k ≤ 15 by omega) hm16
        have hb4 : k * (m / 2) ≤ 240 := by omega
        generalize k * (m / 2) = hh at *
        have HBW := hid hbw
        generalize hSL : S.length = sl at *
        cases htw : twB m ll with
        | true =>
          have hlt2 := hcp1.2 htw
          have hci2 : (sl : Int) < (hh : Int) := by omega
          rw [htw] at HEE
          clear hcp1 htw hSL hkm2 hps hkm hbw
          generalize k * m = km at *
          go_wp2
          go_ret
          exact ⟨by rw [HEE.out]; rfl, HBW.out⟩
        | false =>
          have hlt2 : ¬ sl < hh := fun h => by have := hcp1.1 h; rw [htw] at this; cases this
          have hci2 : ¬ (sl : Int) < (hh : Int) := by omega
          rw [htw] at HEE
          clear hcp1 htw hSL hkm2 hps hkm hbw
          generalize k * m = km at *
          go_wp2
          go_ret
          exact ⟨by rw [HEE.out]; rfl, HBW.out⟩
end Go.Proofs.Ytlcndccjlbahpaa
