/-
  The walk over parterrelaw1.PermBack. Conditions: the slice can be read; the library's variables lie.
-/
import Derived.Test.YtgfdddknajeknaaDoorTltxt
import Derived.Test.YtgfdddknajeknaaDoorDrk
import Derived.Test.YtgfdddknajeknaaDoorDPunr
import Derived.Test.YtgfdddknajeknaaDoorDPgrp
namespace Go.Proofs.YtgfdddknajeknaaDoor
set_option linter.unusedVariables false
open Go.RowKit

theorem list_ofI {l : List Int} {N : Nat} {f : Nat → Nat} (P : PmL l N f) : l = intsL ((List.range N).map f) := by
  have e : intsL ((List.range N).map f) = (List.range N).map fun i => (f i : Int) := by
    unfold intsL
    rw [List.map_map]
    rfl
  rw [e]
  refine List.ext_getElem (by simp [P.len]) fun i h1 h2 => ?_
  have h3 := P.at' i (by have := P.len; omega)
  rw [List.getElem?_eq_getElem h1, Option.getD_some] at h3
  simp only [List.getElem_map, List.getElem_range]
  exact h3
theorem rank_back {l : List Int} {N : Nat} {f : Nat → Nat} (P : PmL l N f) : rankH f N N < fac N ∧ intsL (outL N (rankH f N N) N) = l := by
  have Q : Mv N (fun i => if i < N then f i else i) := ⟨⟨fun i hi => by simp only [if_pos hi]; exact P.pm.lt i hi, fun i j hi hj e => by simp only [if_pos hi, if_pos hj] at e; exact P.pm.inj i j hi hj e⟩, fun i hi => if_neg (by omega)⟩
  have h1 : rankH f N N = rkF N (fun i => if i < N then f i else i) := by
    rw [rank_same P.pm]
    unfold rkF
    have h2 : ∀ i, i ≤ N → rankS f N i = rankS (fun i => if i < N then f i else i) N i := fun i hi => rankS_congr i fun j hj => by simp only [if_pos (show j < N by omega)]
    exact h2 N (Nat.le_refl _)
  have h3 := rk_lt Q.pm
  rw [h1]
  refine ⟨h3, ?_⟩
  rw [out_un h3 N (Nat.le_refl _), un_rk Q, list_ofI P]
  congr 1
  refine List.map_congr_left fun i hi => ?_
  simp only [if_pos (List.mem_range.1 hi)]
theorem wr_len {N : Nat} {f : Nat → Nat} (hN : N ≤ 12) (P : Pm N f) : (wrT f N).length ≤ 2000 := by
  have h := longs_len hN P N (Nat.le_refl _)
  unfold wrT allT
  split
  · simp
  · omega

set_option maxHeartbeats 2000000 in
set_option maxRecDepth 100000 in
theorem permBack_walk (w : World) (hL : LibW w) (v : Value) (l : List Int) (hl : Sl w v l) :
    Calls Tryd.prog 4 #[v] w fun e w' => e = .returned (.bool true) ∧ Below w.heap.size w w' := by
  have HT := hid (turns_any w)
  obtain ⟨a, cp, hv⟩ := hl.len
  by_cases hE : permE l = 0
  · have P := pm_of hE
    obtain ⟨hr1, hr2⟩ := rank_back P
    have h12 := P.n12
    have hTL := wr_len h12 P.pm
    have H2 := hid (fun (w1 : World) (hb : Below w.heap.size w w1) => Cycles_ok v l l.length (fL l) w1 (hl.below hb) P hE)
    have H3 := hid (fun (w1 : World) (hb : Below w.heap.size w w1) => Parse_res (wrT (fL l) l.length) (l.length : Int) w1 (by omega) (hL.below hb))
    have HRES : Hid (TRes (l.length : Int) (wrT (fL l) l.length) 0 l) := hid (.inr (.inl ⟨l.length, fL l, rfl, h12, P.pm, rfl, list_ofI P, rfl⟩))
    have HI := hid (fun (b : Value) (w1 : World) (hb : Below w.heap.size w w1) (h1 : Sl w1 b l) => ints_self b v l w1 h1 (hl.below hb))
    have HK := hid (fun (w1 : World) (hb : Below w.heap.size w w1) => Rank_ok v l w1 (hl.below hb) hE)
    have HU := hid (fun (w1 : World) => Unrank_ok l.length ((rankH (fL l) l.length l.length : Nat) : Int) w1 h12)
    have HUE : Hid (∀ w1 e w', unrEnd l.length ((rankH (fL l) l.length l.length : Nat) : Int) w1 e w' → ∃ u, e = .returned (.tuple #[u, .int .i64 0]) ∧ Sl w' u l ∧ Below w1.heap.size w1 w') := hid (fun w1 e w' ⟨h, hb⟩ => by
      rcases h with ⟨h, _⟩ | ⟨_, u, rfl, ho⟩
      · exact absurd h (by omega)
      · rw [Int.toNat_natCast, hr2] at ho
        exact ⟨u, rfl, ho.sl (by omega), hb⟩)
    subst hv
    clear hE P hr1 hr2 hTL hL hl
    generalize wrT (fL l) l.length = X at *
    generalize rankH (fL l) l.length l.length = K at *
    generalize unrEnd l.length ((K : Nat) : Int) = UE at *
    generalize hN : l.length = N at *
    clear hN
    go_enter Tryd.func4, Tryd.ntmps4
    go_wp2_with fail
    refine HT.out.mono ?_
    rintro e w1 ⟨rfl, hb1⟩
    have HB1 := hid hb1
    clear hb1 HT
    go_wp2_with fail
    refine (H2.out _ HB1.out).mono ?_
    rintro e w2 ⟨rfl, hb2⟩
    have HB2 := hid (HB1.out.trans (hb2.mono HB1.out.size))
    clear hb2 H2
    go_wp2_with fail
    refine (H3.out _ HB2.out).mono ?_
    rintro e w3 ⟨u, E, m, rfl, r1, s1, hb3⟩
    obtain ⟨e1, e2⟩ := r1.one HRES.out
    subst e1
    subst e2
    have HB3 := hid (HB2.out.trans (hb3.mono HB2.out.size))
    have HS1 := hid s1
    clear hb3 H3 s1 r1 HRES
    go_wp2_with fail
    refine (HI.out u w3 HB3.out HS1.out).mono ?_
    rintro e w4 ⟨rfl, q4, rfl⟩
    have HB4 := hid (below_drewN HB3.out q4)
    go_wp2_with fail
    refine (HK.out _ HB4.out).mono ?_
    rintro e w5 ⟨rfl, hb5⟩
    have HB5 := hid (HB4.out.trans (hb5.mono HB4.out.size))
    clear hb5 HK
    go_wp2_with fail
    refine (HU.out w5).mono ?_
    intro e w6 h6
    obtain ⟨u6, rfl, s6, hb6⟩ := HUE.out w5 e w6 h6
    have HB6 := hid (HB5.out.trans (hb6.mono HB5.out.size))
    have HS6 := hid s6
    clear hb6 s6 h6 HU HUE
    go_wp2_with fail
    refine (HI.out u6 w6 HB6.out HS6.out).mono ?_
    rintro e w7 ⟨rfl, q7, rfl⟩
    have HB7 := hid (below_drewN HB6.out q7)
    go_wp2
    go_ret
    exact ⟨rfl, HB7.out⟩
  · have H2 := hid (fun (w1 : World) (hb : Below w.heap.size w w1) => Cycles_bad v l w1 (hl.below hb) hE)
    have hEb : (permE l != 0) = true := bne_iff_ne.2 hE
    clear hL hl hE hv
    generalize permE l = F at *
    go_enter Tryd.func4, Tryd.ntmps4
    go_wp2_with fail
    refine HT.out.mono ?_
    rintro e w1 ⟨rfl, hb1⟩
    have HB1 := hid hb1
    clear hb1 HT
    go_wp2_with fail
    refine (H2.out _ HB1.out).mono ?_
    rintro e w2 ⟨rfl, hb2⟩
    have HB2 := hid (HB1.out.trans (hb2.mono HB1.out.size))
    clear hb2 H2
    generalize str [] = s0 at *
    go_wp2
    go_ret
    exact ⟨rfl, HB2.out⟩
end Go.Proofs.YtgfdddknajeknaaDoor
