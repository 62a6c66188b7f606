/-
  The walk over parterrelaw1.GroupOrders. Conditions: the slices can be read; numbers of 64 bits.
-/
import Derived.Test.YtnbgnoimanpjnaaGhas
import Derived.Test.YtnbgnoimanpjnaaGlist
namespace Go.Proofs.Ytnbgnoimanpjnaa
set_option linter.unusedVariables false
open Go.RowKit

theorem gfault_bel (n : Int) (v : Value) (ll : List (List Int)) (w : World) (hl : RL w v ll) :
    Calls Try.prog 14 #[.int .i64 n, v] w fun e w' => e = .returned (.int .i64 (grpE n ll)) ∧ Below w.heap.size w w' := by
  refine (gfault_any n v ll w hl).mono ?_
  rintro e w' ⟨rfl, q, rfl⟩
  exact ⟨rfl, below_drewN (Below.refl _ _) q⟩
theorem member_bel (n : Int) (v : Value) (l : List Int) (w : World) (hl : Sl w v l) :
    Calls Try.prog 22 #[.int .i64 n, v] w fun e w' => e = .returned (.int .i64 (memE n l)) ∧ Below w.heap.size w w' := by
  refine (member_any n v l w hl).mono ?_
  rintro e w' ⟨rfl, q, rfl⟩
  exact ⟨rfl, below_drewN (Below.refl _ _) q⟩
theorem GL_mv {n : Nat} {ll : List (List Int)} (h : GOk n ll) : ∀ y ∈ GL n (msL n ll), Mv n y := fun y hy => ((mem_GL h.mv y).1 hy).mv h.mv
theorem GL_len9 {n : Nat} {ll : List (List Int)} (h : GOk n ll) : 1 ≤ (GL n (msL n ll)).length ∧ (GL n (msL n ll)).length ≤ fac n := GL_len h.mv
open Classical in
theorem memB_get {n : Nat} {ll : List (List Int)} (h : GOk n ll) {x : Nat → Nat} (P : Mv n x) : (memB n (msL n ll))[rkF n x]? = some (inM x (GL n (msL n ll))) := by
  have h1 := inM_iff h.n7 P (GL_mv h)
  rw [mem_GL h.mv] at h1
  have h2 := rk_lt P.pm
  simp only [memB, List.getElem?_map, List.getElem?_range h2, Option.map_some, Option.some.injEq]
  rw [Bool.eq_iff_iff, decide_eq_true_eq, un_rk P]
  exact h1.symm

set_option maxHeartbeats 1000000 in
set_option maxRecDepth 10000 in
theorem gorders_bad (w : World) (n : Int) (v : Value) (ll : List (List Int)) (hl : RL w v ll) (u : Value) (l : List Int) (hu : Sl w u l) (k : Int) (hE : grpE n ll ≠ 0) :
    Calls Try.prog 3 #[.int .i64 n, v, u, .int .i64 k] w fun e w' => e = .returned (.bool true) ∧ Below w.heap.size w w' := by
  have HG := hid (fun w1 (hb : Below w.heap.size w w1) => gfault_bel n v ll w1 (hl.below hb))
  have HC := hid (fun w1 (hb : Below w.heap.size w w1) => gcheck_any n v ll w1 (hl.below hb))
  have HO := hid (fun w1 (hb : Below w.heap.size w w1) => order_bad n v ll w1 (hl.below hb) hE)
  have HL := hid (fun w1 (hb : Below w.heap.size w w1) => elem_bad n k v ll w1 (hl.below hb) hE)
  have HH := hid (fun w1 (hb : Below w.heap.size w w1) => has_bad n v u ll l w1 (hl.below hb) (hu.below hb) hE)
  obtain ⟨a, c, N, rfl, hN, hc1, hc2⟩ := hl.open
  obtain ⟨a2, c2, N2, rfl, hN2, hu1, hu2⟩ := hu.open
  have hb : (grpE n ll != 0) = true := bne_iff_ne.2 hE
  clear hE hl hc2 hu hu2
  generalize grpE n ll = E at *
  go_enter Try.func3, Try.ntmps3
  go_wp2_with fail
  refine (HG.out _ (Below.refl _ _)).mono ?_
  rintro e w1 ⟨rfl, hb1⟩
  have H1 := hid hb1
  clear hb1
  go_wp2_with fail
  refine (HC.out _ H1.out).mono ?_
  rintro e w2 ⟨rfl, hb2⟩
  have H2 := hid (H1.out.trans (hb2.mono H1.out.size))
  clear hb2
  go_wp2_with fail
  refine (HO.out _ H2.out).mono ?_
  rintro e w3 ⟨rfl, hb3⟩
  have H3 := hid (H2.out.trans (hb3.mono H2.out.size))
  clear hb3
  go_wp2_with fail
  refine (HL.out _ H3.out).mono ?_
  rintro e w4 ⟨rfl, hb4⟩
  have H4 := hid (H3.out.trans (hb4.mono H3.out.size))
  clear hb4
  go_wp2_with fail
  refine (HH.out _ H4.out).mono ?_
  rintro e w5 ⟨rfl, hb5⟩
  have H5 := hid (H4.out.trans (hb5.mono H4.out.size))
  clear hb5
  go_wp2
  go_ret
  exact ⟨rfl, H5.out⟩

/-- Of an OL, one element. -/
theorem OL.at' {B U : Nat} {w : World} {v : Value} {ll : List (List Int)} (h : OL B U w v ll) {i : Nat} (hi : i < ll.length) : ∃ g c u, v = .slice (some ⟨g, 0, none⟩) ll.length c ∧ w.cell? ⟨g, i, none⟩ = some u ∧ OI B w u (ll.getD i []) := by
  obtain ⟨g, c, rfl, _, _⟩ := h.form (by omega)
  obtain ⟨u, h1, h2⟩ := h.get i hi
  exact ⟨g, c, u, rfl, h1, h2⟩

set_option maxHeartbeats 4000000 in
set_option maxRecDepth 100000 in
theorem gorders_ok (w : World) (n : Nat) (v : Value) (ll : List (List Int)) (hl : RL w v ll) (u : Value) (l : List Int) (hu : Sl w u l) (k : Int) (hE : grpE (n : Int) ll = 0) :
    Calls Try.prog 3 #[.int .i64 n, v, u, .int .i64 k] w fun e w' => e = .returned (.bool true) ∧ Below w.heap.size w w' := by
  obtain ⟨n', hn', hGOK⟩ := gok_of hE
  obtain rfl : n = n' := by omega
  have hn7 := hGOK.n7
  have hlen := GL_len9 hGOK
  have hfb := fac_bd n (by omega)
  have HG := hid (fun w1 (hb : Below w.heap.size w w1) => gfault_bel n v ll w1 (hl.below hb))
  have HC := hid (fun w1 (hb : Below w.heap.size w w1) => gcheck_any n v ll w1 (hl.below hb))
  have HO := hid (fun w1 (hb : Below w.heap.size w w1) => order_ok n v ll w1 (hl.below hb) hE)
  have HF := hid (fun (hk : k < 0 ∨ ((GL n (msL n ll)).length : Int) ≤ k) w1 (hb : Below w.heap.size w w1) => elem_far n k v ll w1 (hl.below hb) hE hk)
  have HL := hid (fun (k : Nat) (hk : k < (GL n (msL n ll)).length) w1 (hb : Below w.heap.size w w1) => elem_ok n k v ll w1 (hl.below hb) hE hk)
  have HH := hid (fun w1 (hb : Below w.heap.size w w1) => has_ok n v u ll l w1 (hl.below hb) (hu.below hb) hE)
  have HM := hid (fun w1 (hb : Below w.heap.size w w1) => members_ok n v ll w1 (hl.below hb) hGOK.n1 hn7 hGOK.pm (by have := hGOK.l4; omega))
  have HLO := hid (fun v w1 hv => listof_ok n v (memB n (msL n ll)) w1 hv hn7 (memB_len _ _))
  rw [sel_GL] at HLO
  have HI := hid (fun (v u : Value) (l m : List Int) (w : World) hl hm => ints_any v u l m w hl hm)
  have HMF := hid (fun w1 (hb : Below w.heap.size w w1) => member_bel n u l w1 (hu.below hb))
  have HPR := hid (fun (h : memE n l = 0) w1 (hb : Below w.heap.size w w1) => permrank_ok u l n (fL l) w1 (hu.below hb) (by
    obtain ⟨h1, h2⟩ := memE_zero h
    have := pm_of h1
    rwa [show l.length = n by omega] at this))
  have HRK : Hid (memE n l = 0 → rankS (fL l) n n < fac n ∧ (memB n (msL n ll))[rankS (fL l) n n]? = some (inM (mvF n (fL l)) (GL n (msL n ll)))) := hid (fun h => by
    obtain ⟨h1, h2⟩ := memE_zero h
    have hP := pm_of h1
    rw [show l.length = n by omega] at hP
    have hMv := mvF_mv hP.pm
    have e : rankS (fL l) n n = rkF n (mvF n (fL l)) := rankS_congr n (fun j hj => by simp [mvF, hj])
    rw [e]
    exact ⟨rk_lt hMv.pm, memB_get hGOK hMv⟩)
  have HML := hid (memB_len n (msL n ll))
  have HEL : Hid (∀ k : Nat, k < (GL n (msL n ll)).length → ((GL n (msL n ll)).map (elL n)).getD k [] = elL n ((GL n (msL n ll)).getD k id)) := hid (fun k hk => by simp [hk])
  have HELL := hid (fun x => elL_len n x)
  have HLL : Hid (((GL n (msL n ll)).map (elL n)).length = (GL n (msL n ll)).length) := hid (by simp)
  obtain ⟨a, c, N, rfl, hN, hc1, hc2⟩ := hl.open
  obtain ⟨a2, c2, N2, rfl, hN2, hu1, hu2⟩ := hu.open
  rw [hE] at HG HC
  clear hE hl hc2 hu hu2 hGOK hn'
  generalize inM (mvF n (fL l)) (GL n (msL n ll)) = IN at *
  obtain ⟨L, hL⟩ : ∃ L, GL n (msL n ll) = L := ⟨_, rfl⟩
  rw [hL] at hlen HO HF HL HLO HEL HLL
  clear hL
  obtain ⟨O, hO⟩ : ∃ O, L.length = O := ⟨_, rfl⟩
  rw [hO] at hlen HO HF HL HEL HLL
  have HOO := hid hO
  clear hO
  generalize fac n = F at *
  generalize memB n (msL n ll) = MB at *
  generalize rankS (fL l) n n = RK at *
  generalize memE n l = ME at *
  go_enter Try.func3, Try.ntmps3
  go_wp2_with fail
  refine (HG.out _ (Below.refl _ _)).mono ?_
  rintro e w1 ⟨rfl, hb1⟩
  have H1 := hid hb1
  clear hb1
  go_wp2_with fail
  refine (HC.out _ H1.out).mono ?_
  rintro e w2 ⟨rfl, hb2⟩
  have H2 := hid (H1.out.trans (hb2.mono H1.out.size))
  clear hb2
  go_wp2_with fail
  refine (HO.out _ H2.out).mono ?_
  rintro e w3 ⟨rfl, hb3⟩
  have H3 := hid (H2.out.trans (hb3.mono H2.out.size))
  clear hb3
  by_cases hM : ME = 0
  · obtain rfl : ME = 0 := hM
    rw [show (decide ((0 : Int) = 0) && IN) = IN by simp] at HH
    obtain ⟨hRK1, hRK2⟩ := HRK.out rfl
    have HRK2 := hid hRK2
    replace HPR := hid (fun w1 hb => HPR.out rfl w1 hb)
    clear HRK hRK2
    have hRKi : ((RK : Nat) : Int) < ((F : Nat) : Int) := by omega
    by_cases hk0 : k < 0
    · go_wp2_with fail
      refine (HF.out (.inl hk0) _ H3.out).mono ?_
      rintro e w4 ⟨rfl, hb4⟩
      have H4 := hid (H3.out.trans (hb4.mono H3.out.size))
      clear hb4
      go_wp2_with fail
      refine (HH.out _ H4.out).mono ?_
      rintro e w5 ⟨rfl, hb5⟩
      have H5 := hid (H4.out.trans (hb5.mono H4.out.size))
      clear hb5
      go_wp2_with fail
      refine (HM.out _ H5.out).mono ?_
      rintro e w6 ⟨⟨r, rfl, hr⟩, hb6⟩
      obtain ⟨rg, rc, er, _, hrg⟩ := hr.form (by rw [List.length_map, HML.out]; omega)
      rw [List.length_map, HML.out] at er
      subst er
      have HR := hid hr
      have H6 := hid (H5.out.trans (hb6.mono H5.out.size))
      clear hb6 hr
      go_wp2_with fail
      refine (HLO.out _ _ (HR.out.rd (by rw [List.length_map, HML.out]; omega))).mono ?_
      rintro e w7 ⟨⟨q, rfl, hq⟩, hb7⟩
      obtain ⟨qa, qc, eq⟩ := hq.len
      rw [HLL.out] at eq
      subst eq
      have H7 := hid (And.intro (H6.out.trans (hb7.mono H6.out.size)) (HR.out.below hb7))
      clear hb7 hq
      go_wp2_with fail
      refine (HMF.out _ H7.out.1).mono ?_
      rintro e w8 ⟨rfl, hb8⟩
      have H8 := hid (And.intro (H7.out.1.trans (hb8.mono H7.out.1.size)) (H7.out.2.below hb8))
      have hcell : w8.cell? ⟨rg, RK, none⟩ = some (.bool IN) := by
        rw [H8.out.2.cell RK (by rw [List.length_map, HML.out]; exact hRK1), List.getElem?_map, HRK2.out]; rfl
      clear hb8
      go_wp2_with fail
      refine (HPR.out _ H8.out.1).mono ?_
      rintro e w9 ⟨rfl, rfl⟩
      go_wp2
      go_ret
      exact ⟨by simp, H8.out.1⟩
    by_cases hkO : (O : Int) ≤ k
    · go_wp2_with fail
      refine (HF.out (.inr hkO) _ H3.out).mono ?_
      rintro e w4 ⟨rfl, hb4⟩
      have H4 := hid (H3.out.trans (hb4.mono H3.out.size))
      clear hb4
      go_wp2_with fail
      refine (HH.out _ H4.out).mono ?_
      rintro e w5 ⟨rfl, hb5⟩
      have H5 := hid (H4.out.trans (hb5.mono H4.out.size))
      clear hb5
      go_wp2_with fail
      refine (HM.out _ H5.out).mono ?_
      rintro e w6 ⟨⟨r, rfl, hr⟩, hb6⟩
      obtain ⟨rg, rc, er, _, hrg⟩ := hr.form (by rw [List.length_map, HML.out]; omega)
      rw [List.length_map, HML.out] at er
      subst er
      have HR := hid hr
      have H6 := hid (H5.out.trans (hb6.mono H5.out.size))
      clear hb6 hr
      go_wp2_with fail
      refine (HLO.out _ _ (HR.out.rd (by rw [List.length_map, HML.out]; omega))).mono ?_
      rintro e w7 ⟨⟨q, rfl, hq⟩, hb7⟩
      obtain ⟨qa, qc, eq⟩ := hq.len
      rw [HLL.out] at eq
      subst eq
      have H7 := hid (And.intro (H6.out.trans (hb7.mono H6.out.size)) (HR.out.below hb7))
      clear hb7 hq
      go_wp2_with fail
      refine (HMF.out _ H7.out.1).mono ?_
      rintro e w8 ⟨rfl, hb8⟩
      have H8 := hid (And.intro (H7.out.1.trans (hb8.mono H7.out.1.size)) (H7.out.2.below hb8))
      have hcell : w8.cell? ⟨rg, RK, none⟩ = some (.bool IN) := by
        rw [H8.out.2.cell RK (by rw [List.length_map, HML.out]; exact hRK1), List.getElem?_map, HRK2.out]; rfl
      clear hb8
      go_wp2_with fail
      refine (HPR.out _ H8.out.1).mono ?_
      rintro e w9 ⟨rfl, rfl⟩
      go_wp2
      go_ret
      exact ⟨by simp, H8.out.1⟩
    obtain ⟨k', rfl⟩ : ∃ k' : Nat, k = (k' : Int) := ⟨k.toNat, by omega⟩
    have hk1 : (k' : Int) < (O : Int) := by omega
    go_wp2_with fail
    refine (HL.out k' (by omega) _ H3.out).mono ?_
    rintro e w4 ⟨⟨x4, rfl, hx4⟩, hb4⟩
    have H4 := hid (And.intro (H3.out.trans (hb4.mono H3.out.size)) hx4)
    clear hb4 hx4
    obtain ⟨x4a, x4c, e4⟩ := H4.out.2.len
    rw [HELL.out] at e4
    subst e4
    go_wp2_with fail
    refine (HH.out _ H4.out.1).mono ?_
    rintro e w5 ⟨rfl, hb5⟩
    have H5 := hid (And.intro (H4.out.1.trans (hb5.mono H4.out.1.size)) (H4.out.2.below hb5))
    clear hb5
    go_wp2_with fail
    refine (HM.out _ H5.out.1).mono ?_
    rintro e w6 ⟨⟨r, rfl, hr⟩, hb6⟩
    obtain ⟨rg, rc, er, _, hrg⟩ := hr.form (by rw [List.length_map, HML.out]; omega)
    rw [List.length_map, HML.out] at er
    subst er
    have HR := hid hr
    have H6 := hid (And.intro (H5.out.1.trans (hb6.mono H5.out.1.size)) (H5.out.2.below hb6))
    clear hb6 hr
    go_wp2_with fail
    refine (HLO.out _ _ (HR.out.rd (by rw [List.length_map, HML.out]; omega))).mono ?_
    rintro e w7 ⟨⟨q, rfl, hq⟩, hb7⟩
    obtain ⟨qg, qc, uq, eq, hcq, huq⟩ := hq.at' (i := k') (by rw [HLL.out]; omega)
    rw [HLL.out] at eq
    subst eq
    rw [HEL.out k' (by omega)] at huq
    have HI2 := hid (HI.out _ _ _ _ w7 ((H6.out.2.below hb7).sl (by rw [HELL.out]; omega)) (huq.sl (by rw [HELL.out]; omega)))
    rw [decide_eq_true rfl] at HI2
    obtain ⟨uqa, uqc, eu⟩ := huq.len
    rw [HELL.out] at eu
    subst eu
    have H7a := hid (And.intro (H6.out.1.trans (hb7.mono H6.out.1.size)) (HR.out.below hb7))
    clear hb7 hq huq
    go_wp2_with fail
    refine HI2.out.mono ?_
    rintro e w7b ⟨rfl, nq, rfl⟩
    have H7 := hid (And.intro (below_drewN H7a.out.1 nq) (H7a.out.2.drewN nq))
    go_wp2_with fail
    refine (HMF.out _ H7.out.1).mono ?_
    rintro e w8 ⟨rfl, hb8⟩
    have H8 := hid (And.intro (H7.out.1.trans (hb8.mono H7.out.1.size)) (H7.out.2.below hb8))
    have hcell : w8.cell? ⟨rg, RK, none⟩ = some (.bool IN) := by
      rw [H8.out.2.cell RK (by rw [List.length_map, HML.out]; exact hRK1), List.getElem?_map, HRK2.out]; rfl
    clear hb8
    go_wp2_with fail
    refine (HPR.out _ H8.out.1).mono ?_
    rintro e w9 ⟨rfl, rfl⟩
    go_wp2
    go_ret
    exact ⟨by simp, H8.out.1⟩
  · have hd : decide (ME = 0) = false := decide_eq_false hM
    rw [hd, Bool.false_and] at HH
    have hb : (ME != 0) = true := bne_iff_ne.2 hM
    clear HRK HPR hd hM
    by_cases hk0 : k < 0
    · go_wp2_with fail
      refine (HF.out (.inl hk0) _ H3.out).mono ?_
      rintro e w4 ⟨rfl, hb4⟩
      have H4 := hid (H3.out.trans (hb4.mono H3.out.size))
      clear hb4
      go_wp2_with fail
      refine (HH.out _ H4.out).mono ?_
      rintro e w5 ⟨rfl, hb5⟩
      have H5 := hid (H4.out.trans (hb5.mono H4.out.size))
      clear hb5
      go_wp2_with fail
      refine (HM.out _ H5.out).mono ?_
      rintro e w6 ⟨⟨r, rfl, hr⟩, hb6⟩
      obtain ⟨rg, rc, er, _, hrg⟩ := hr.form (by rw [List.length_map, HML.out]; omega)
      rw [List.length_map, HML.out] at er
      subst er
      have HR := hid hr
      have H6 := hid (H5.out.trans (hb6.mono H5.out.size))
      clear hb6 hr
      go_wp2_with fail
      refine (HLO.out _ _ (HR.out.rd (by rw [List.length_map, HML.out]; omega))).mono ?_
      rintro e w7 ⟨⟨q, rfl, hq⟩, hb7⟩
      obtain ⟨qa, qc, eq⟩ := hq.len
      rw [HLL.out] at eq
      subst eq
      have H7 := hid (And.intro (H6.out.trans (hb7.mono H6.out.size)) (HR.out.below hb7))
      clear hb7 hq
      go_wp2_with fail
      refine (HMF.out _ H7.out.1).mono ?_
      rintro e w8 ⟨rfl, hb8⟩
      have H8 := hid (H7.out.1.trans (hb8.mono H7.out.1.size))
      clear hb8
      go_wp2
      go_ret
      exact ⟨by simp, H8.out⟩
    by_cases hkO : (O : Int) ≤ k
    · go_wp2_with fail
      refine (HF.out (.inr hkO) _ H3.out).mono ?_
      rintro e w4 ⟨rfl, hb4⟩
      have H4 := hid (H3.out.trans (hb4.mono H3.out.size))
      clear hb4
      go_wp2_with fail
      refine (HH.out _ H4.out).mono ?_
      rintro e w5 ⟨rfl, hb5⟩
      have H5 := hid (H4.out.trans (hb5.mono H4.out.size))
      clear hb5
      go_wp2_with fail
      refine (HM.out _ H5.out).mono ?_
      rintro e w6 ⟨⟨r, rfl, hr⟩, hb6⟩
      obtain ⟨rg, rc, er, _, hrg⟩ := hr.form (by rw [List.length_map, HML.out]; omega)
      rw [List.length_map, HML.out] at er
      subst er
      have HR := hid hr
      have H6 := hid (H5.out.trans (hb6.mono H5.out.size))
      clear hb6 hr
      go_wp2_with fail
      refine (HLO.out _ _ (HR.out.rd (by rw [List.length_map, HML.out]; omega))).mono ?_
      rintro e w7 ⟨⟨q, rfl, hq⟩, hb7⟩
      obtain ⟨qa, qc, eq⟩ := hq.len
      rw [HLL.out] at eq
      subst eq
      have H7 := hid (And.intro (H6.out.trans (hb7.mono H6.out.size)) (HR.out.below hb7))
      clear hb7 hq
      go_wp2_with fail
      refine (HMF.out _ H7.out.1).mono ?_
      rintro e w8 ⟨rfl, hb8⟩
      have H8 := hid (H7.out.1.trans (hb8.mono H7.out.1.size))
      clear hb8
      go_wp2
      go_ret
      exact ⟨by simp, H8.out⟩
    obtain ⟨k', rfl⟩ : ∃ k' : Nat, k = (k' : Int) := ⟨k.toNat, by omega⟩
    have hk1 : (k' : Int) < (O : Int) := by omega
    go_wp2_with fail
    refine (HL.out k' (by omega) _ H3.out).mono ?_
    rintro e w4 ⟨⟨x4, rfl, hx4⟩, hb4⟩
    have H4 := hid (And.intro (H3.out.trans (hb4.mono H3.out.size)) hx4)
    clear hb4 hx4
    obtain ⟨x4a, x4c, e4⟩ := H4.out.2.len
    rw [HELL.out] at e4
    subst e4
    go_wp2_with fail
    refine (HH.out _ H4.out.1).mono ?_
    rintro e w5 ⟨rfl, hb5⟩
    have H5 := hid (And.intro (H4.out.1.trans (hb5.mono H4.out.1.size)) (H4.out.2.below hb5))
    clear hb5
    go_wp2_with fail
    refine (HM.out _ H5.out.1).mono ?_
    rintro e w6 ⟨⟨r, rfl, hr⟩, hb6⟩
    obtain ⟨rg, rc, er, _, hrg⟩ := hr.form (by rw [List.length_map, HML.out]; omega)
    rw [List.length_map, HML.out] at er
    subst er
    have HR := hid hr
    have H6 := hid (And.intro (H5.out.1.trans (hb6.mono H5.out.1.size)) (H5.out.2.below hb6))
    clear hb6 hr
    go_wp2_with fail
    refine (HLO.out _ _ (HR.out.rd (by rw [List.length_map, HML.out]; omega))).mono ?_
    rintro e w7 ⟨⟨q, rfl, hq⟩, hb7⟩
    obtain ⟨qg, qc, uq, eq, hcq, huq⟩ := hq.at' (i := k') (by rw [HLL.out]; omega)
    rw [HLL.out] at eq
    subst eq
    rw [HEL.out k' (by omega)] at huq
    have HI2 := hid (HI.out _ _ _ _ w7 ((H6.out.2.below hb7).sl (by rw [HELL.out]; omega)) (huq.sl (by rw [HELL.out]; omega)))
    rw [decide_eq_true rfl] at HI2
    obtain ⟨uqa, uqc, eu⟩ := huq.len
    rw [HELL.out] at eu
    subst eu
    have H7a := hid (And.intro (H6.out.1.trans (hb7.mono H6.out.1.size)) (HR.out.below hb7))
    clear hb7 hq huq
    go_wp2_with fail
    refine HI2.out.mono ?_
    rintro e w7b ⟨rfl, nq, rfl⟩
    have H7 := hid (And.intro (below_drewN H7a.out.1 nq) (H7a.out.2.drewN nq))
    go_wp2_with fail
    refine (HMF.out _ H7.out.1).mono ?_
    rintro e w8 ⟨rfl, hb8⟩
    have H8 := hid (H7.out.1.trans (hb8.mono H7.out.1.size))
    clear hb8
    go_wp2
    go_ret
    exact ⟨by simp, H8.out⟩

theorem gorders_walk (w : World) (n : Int) (_hn : I64 n) (v : Value) (ll : List (List Int)) (hl : RL w v ll) (_hll : ∀ l ∈ ll, ∀ x ∈ l, I64 x) (u : Value) (l : List Int) (hu : Sl w u l) (_hul : ∀ x ∈ l, I64 x) (k : Int) (_hk : I64 k) :
    Calls Try.prog 3 #[.int .i64 n, v, u, .int .i64 k] w fun e w' => e = .returned (.bool true) ∧ Below w.heap.size w w' := by
  by_cases hE : grpE n ll = 0
  · obtain ⟨n', rfl, hG⟩ := gok_of hE
    exact gorders_ok w n' v ll hl u l hu k hE
  · exact gorders_bad w n v ll hl u l hu k hE
end Go.Proofs.Ytnbgnoimanpjnaa
