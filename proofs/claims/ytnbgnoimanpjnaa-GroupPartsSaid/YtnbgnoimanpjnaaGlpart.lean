/-
  The walk over parterrelaw1.GroupParts. Conditions: the slices can be read; numbers of 64 bits.
-/
import Derived.Test.YtnbgnoimanpjnaaGlord
import Derived.Test.YtnbgnoimanpjnaaGdof
import Derived.Test.YtnbgnoimanpjnaaGder
namespace Go.Proofs.Ytnbgnoimanpjnaa
set_option linter.unusedVariables false
open Go.RowKit

theorem OL.rlm {n B U : Nat} {w : World} {v : Value} {L : List (Nat → Nat)} (h : OL B U w v (L.map (elL n))) (hl : L.length ≤ 1000000) (hn : n ≤ 7) : RL w v (L.map (elL n)) :=
  h.rl (by rw [List.length_map]; omega) fun i hi => by
    rw [List.length_map] at hi
    have : (L.map (elL n)).getD i [] = elL n (L.getD i id) := by simp [hi]
    rw [this, elL_len]
    omega

set_option maxHeartbeats 1000000 in
theorem gparts_bad (w : World) (n : Int) (v : Value) (ll : List (List Int)) (hl : RL w v ll) (hE : grpE n ll ≠ 0) :
    Calls Try.prog 5 #[.int .i64 n, v] w fun e w' => e = .returned (.bool true) ∧ Below w.heap.size w w' := by
  have HG := hid (fun w1 (hb : Below w.heap.size w w1) => gfault_bel n v ll w1 (hl.below hb))
  have HC := hid (fun w1 (hb : Below w.heap.size w w1) => centre_bad n v ll w1 (hl.below hb) hE)
  have HD := hid (fun w1 (hb : Below w.heap.size w w1) => derived_bad n v ll w1 (hl.below hb) hE)
  obtain ⟨a, c, N, rfl, hN, hc1, hc2⟩ := hl.open
  have hb : (grpE n ll != 0) = true := bne_iff_ne.2 hE
  clear hE hl hc2
  generalize grpE n ll = E at *
  go_enter Try.func5, Try.ntmps5
  go_wp2_with fail
  refine (HG.out _ (Below.refl _ _)).mono ?_
  rintro e w1 ⟨rfl, hb1⟩
  have H1 := hid hb1
  clear hb1
  go_wp2_with fail
  refine (HC.out _ H1.out).mono ?_
  rintro e w2 ⟨rfl, hb2⟩
  have H2 := hid (H1.out.trans (hb2.mono H1.out.size))
  clear hb2
  go_wp2_with fail
  refine (HD.out _ H2.out).mono ?_
  rintro e w3 ⟨rfl, hb3⟩
  have H3 := hid (H2.out.trans (hb3.mono H2.out.size))
  clear hb3
  go_wp2
  go_ret
  exact ⟨rfl, H3.out⟩

set_option maxHeartbeats 4000000 in
set_option maxRecDepth 100000 in
theorem gparts_ok (w : World) (n : Nat) (v : Value) (ll : List (List Int)) (hl : RL w v ll) (hE : grpE (n : Int) ll = 0) :
    Calls Try.prog 5 #[.int .i64 n, v] w fun e w' => e = .returned (.bool true) ∧ Below w.heap.size w w' := by
  obtain ⟨n', hn', hGOK⟩ := gok_of hE
  obtain rfl : n = n' := by omega
  have hn7 := hGOK.n7
  have hlen := GL_len9 hGOK
  have hfb := fac7 n hn7
  have hmv := hGOK.mv
  have hLm := GL_mv hGOK
  have HG := hid (fun w1 (hb : Below w.heap.size w w1) => gfault_bel n v ll w1 (hl.below hb))
  have HC := hid (fun w1 (hb : Below w.heap.size w w1) => centre_ok n v ll w1 (hl.below hb) hE)
  have HD := hid (fun w1 (hb : Below w.heap.size w w1) => derived_ok n v ll w1 (hl.below hb) hE)
  have HM := hid (fun w1 (hb : Below w.heap.size w w1) => members_ok n v ll w1 (hl.below hb) hGOK.n1 hn7 hGOK.pm (by have := hGOK.l4; omega))
  have HLO := hid (fun v w1 hv => listof_ok n v (memB n (msL n ll)) w1 hv hn7 (memB_len _ _))
  rw [sel_GL] at HLO
  have hel := ll_el hGOK.pm
  have HCO := hid (fun u w1 (hb : Below w.heap.size w w1) (hu : RL w1 u ((GL n (msL n ll)).map (elL n))) => centreof_ok n v u (msL n ll) (GL n (msL n ll)) w1 hn7 (by rw [← hel]; exact hl.below hb) hu hmv hLm (by omega))
  have HDO := hid (fun u w1 (hu : RL w1 u ((GL n (msL n ll)).map (elL n))) => derivedof_ok n u (GL n (msL n ll)) (derN n (msL n ll)) w1 hGOK.n1 hn7 hu hLm (by omega) (fun l hl => by
    rw [hl.done hmv]
    rfl))
  have HRL := hid (fun B U w1 q (h : OL B U w1 q ((GL n (msL n ll)).map (elL n))) => h.rlm (by omega) hn7)
  have HDP := hid (GL_len (cmL_mv hmv)).1
  have HML := hid (memB_len n (msL n ll))
  have HLL : Hid (((GL n (msL n ll)).map (elL n)).length = (GL n (msL n ll)).length) := hid (by simp)
  rw [show (GL n (cmL n (msL n ll))).length = derN n (msL n ll) from rfl] at HDP
  obtain ⟨a, c, N, rfl, hN, hc1, hc2⟩ := hl.open
  rw [hE] at HG
  clear hE hl hc2 hGOK hn' hmv hLm hel
  generalize ((GL n (msL n ll)).filter (cenB (msL n ll))).length = C at *
  generalize derN n (msL n ll) = D at *
  generalize hLe : (GL n (msL n ll)).map (elL n) = L at *
  generalize (GL n (msL n ll)).length = O at *
  generalize memB n (msL n ll) = MB at *
  generalize fac n = F at *
  clear hLe
  have hD1 : (D : Int) ≥ 1 := by have := HDP.out; omega
  go_enter Try.func5, Try.ntmps5
  go_wp2_with fail
  refine (HG.out _ (Below.refl _ _)).mono ?_
  rintro e w1 ⟨rfl, hb1⟩
  have H1 := hid hb1
  clear hb1
  go_wp2_with fail
  refine (HC.out _ H1.out).mono ?_
  rintro e w2 ⟨rfl, hb2⟩
  have H2 := hid (H1.out.trans (hb2.mono H1.out.size))
  clear hb2
  go_wp2_with fail
  refine (HD.out _ H2.out).mono ?_
  rintro e w3 ⟨rfl, hb3⟩
  have H3 := hid (H2.out.trans (hb3.mono H2.out.size))
  clear hb3
  go_wp2_with fail
  refine (HM.out _ H3.out).mono ?_
  rintro e w6 ⟨⟨r, rfl, hr⟩, hb6⟩
  obtain ⟨rg, rc, er, _, hrg⟩ := hr.form (by rw [List.length_map, HML.out]; omega)
  rw [List.length_map, HML.out] at er
  subst er
  have HR := hid hr
  have H6 := hid (H3.out.trans (hb6.mono H3.out.size))
  clear hb6 hr
  go_wp2_with fail
  refine (HLO.out _ _ (HR.out.rd (by rw [List.length_map, HML.out]; omega))).mono ?_
  rintro e w7 ⟨⟨q, rfl, hq⟩, hb7⟩
  obtain ⟨qa, qc, eq⟩ := hq.len
  rw [HLL.out] at eq
  subst eq
  have H7 := hid (And.intro (H6.out.trans (hb7.mono H6.out.size)) (HRL.out _ _ _ _ hq))
  clear hb7 hq
  go_wp2_with fail
  refine (HCO.out _ _ H7.out.1 H7.out.2).mono ?_
  rintro e w8 ⟨rfl, hb8⟩
  have H8 := hid (And.intro (H7.out.1.trans (hb8.mono H7.out.1.size)) (H7.out.2.below hb8))
  clear hb8
  by_cases hO : (200 : Int) < (O : Int)
  · go_wp2
    go_ret
    exact ⟨rfl, H8.out.1⟩
  · go_wp2_with fail
    refine (HDO.out _ _ H8.out.2).mono ?_
    rintro e w9 ⟨rfl, hb9⟩
    have H9 := hid (H8.out.1.trans (hb9.mono H8.out.1.size))
    clear hb9
    go_wp2
    go_ret
    exact ⟨by simp, H9.out⟩

theorem gparts_walk (w : World) (n : Int) (_hn : I64 n) (v : Value) (ll : List (List Int)) (hl : RL w v ll) (_hll : ∀ l ∈ ll, ∀ x ∈ l, I64 x) :
    Calls Try.prog 5 #[.int .i64 n, v] w fun e w' => e = .returned (.bool true) ∧ Below w.heap.size w w' := by
  by_cases hE : grpE n ll = 0
  · obtain ⟨n', rfl, hG⟩ := gok_of hE
    exact gparts_ok w n' v ll hl hE
  · exact gparts_bad w n v ll hl hE
end Go.Proofs.Ytnbgnoimanpjnaa
