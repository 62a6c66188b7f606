/-
  The walk over parterrelaw1.GroupCloses. Conditions: the slices can be read; numbers of 64 bits.
-/
import Derived.Test.YtnbgnoimanpjnaaGlmade
namespace Go.Proofs.Ytnbgnoimanpjnaa
set_option linter.unusedVariables false
open Go.RowKit

theorem elL_permE {n : Nat} {x : Nat → Nat} (hn : n ≤ 12) (P : Mv n x) : permE (elL n x) = 0 := by
  have hr : ∀ y ∈ elL n x, 0 ≤ y ∧ y < ((elL n x).length : Int) := by
    intro y hy
    simp only [elL, List.mem_map, List.mem_range] at hy
    obtain ⟨i, hi, rfl⟩ := hy
    rw [elL_len]
    have := P.pm.lt i hi
    omega
  rw [permE_in (by rw [elL_len]; omega) hr, if_pos]
  unfold elL
  unfold List.Nodup
  rw [List.pairwise_map]
  have h1 : (List.range n).Pairwise (fun a b => a < b ∧ a < n ∧ b < n) := List.Pairwise.imp_of_mem (fun {a b} ha hb h => ⟨h, List.mem_range.1 ha, List.mem_range.1 hb⟩) List.pairwise_lt_range
  refine h1.imp fun {a b} h e => ?_
  have := P.pm.inj a b h.2.1 h.2.2 (by omega)
  omega
theorem elL_memE {n : Nat} {x : Nat → Nat} (hn : n ≤ 12) (P : Mv n x) : memE (n : Int) (elL n x) = 0 := by
  unfold memE
  rw [elL_permE hn P, elL_len, if_neg (by simp), if_neg (by simp)]
theorem mvF_elL {n : Nat} {x : Nat → Nat} (P : Mv n x) : mvF n (fL (elL n x)) = x := by
  funext i
  unfold mvF
  by_cases h : i < n
  · rw [if_pos h]
    unfold fL
    rw [elL_get h]
    simp
  · rw [if_neg h, P.st i (by omega)]
theorem und_elL {n : Nat} {x y : Nat → Nat} (P : Mv n x) (Q : Mv n y) (h : compF y x = id) : undF x n n = elL n y := by
  refine List.ext_getElem? fun c => ?_
  by_cases hc : c < n
  · have h1 := und_get P.pm n (Nat.le_refl _) (y c) (Q.pm.lt c hc)
    have h2 : x (y c) = c := congrFun h c
    rw [h2] at h1
    rw [List.getElem?_eq_getElem (by rw [und_len]; exact hc)] at h1 ⊢
    rw [Option.getD_some] at h1
    rw [h1]
    simp [elL, hc]
  · rw [List.getElem?_eq_none (by rw [und_len]; omega), List.getElem?_eq_none (by rw [elL_len]; omega)]
theorem memE_ok {n : Nat} {ll : List (List Int)} (h : GOk n ll) : ∀ l ∈ ll, grpE (n : Int) ll = 0 → memE (n : Int) l = 0 := by
  intro l hl hE
  obtain ⟨h1, h2⟩ := (grpE_zero hE).2.2 l hl
  unfold memE
  rw [h1, if_neg (by simp), if_neg (by rw [h2]; simp)]
theorem in_yes {n : Nat} {ll : List (List Int)} (h : GOk n ll) {x : Nat → Nat} (hx : GenF (msL n ll) x) : inM x (GL n (msL n ll)) = true := (inM_iff h.n7 (hx.mv h.mv) (GL_mv h)).2 ((mem_GL h.mv x).2 hx)

set_option maxHeartbeats 1000000 in
set_option maxRecDepth 10000 in
theorem gcloses_early (w : World) (n : Int) (v : Value) (ll : List (List Int)) (hl : RL w v ll) (i j E : Int) (hE : E ≠ 0)
    (HX : ∀ w1, Below w.heap.size w w1 → Calls Try.prog 17 #[.int .i64 n, v, .int .i64 i] w1 fun e w' => e = .returned (.tuple #[.slice none 0 0, .int .i64 E]) ∧ Below w1.heap.size w1 w') :
    Calls Try.prog 4 #[.int .i64 n, v, .int .i64 i, .int .i64 j] w fun e w' => e = .returned (.bool true) ∧ Below w.heap.size w w' := by
  have HM := hid (fun w1 => lmade_ok w1)
  have HX := hid HX
  obtain ⟨a, c, N, rfl, hN, hc1, hc2⟩ := hl.open
  have hb : (E != 0) = true := bne_iff_ne.2 hE
  clear hE hl hc2
  go_enter Try.func4, Try.ntmps4
  go_wp2_with fail
  refine (HM.out _).mono ?_
  rintro e w1 ⟨rfl, hb1⟩
  have H1 := hid hb1
  clear hb1
  go_wp2_with fail
  refine (HX.out _ H1.out).mono ?_
  rintro e w2 ⟨rfl, hb2⟩
  have H2 := hid (H1.out.trans (hb2.mono H1.out.size))
  clear hb2
  go_wp2
  go_ret
  exact ⟨rfl, H2.out⟩

set_option maxHeartbeats 4000000 in
set_option maxRecDepth 100000 in
theorem gcloses_ok (w : World) (n : Nat) (v : Value) (ll : List (List Int)) (hl : RL w v ll) (i : Nat) (j : Int) (hE : grpE (n : Int) ll = 0) (hi : i < (GL n (msL n ll)).length) :
    Calls Try.prog 4 #[.int .i64 n, v, .int .i64 i, .int .i64 j] w fun e w' => e = .returned (.bool true) ∧ Below w.heap.size w w' := by
  obtain ⟨n', hn', hG⟩ := gok_of hE
  obtain rfl : n = n' := by omega
  have hn7 := hG.n7
  have HM := hid (fun w1 => lmade_ok w1)
  have HL := hid (fun (k : Nat) (hk : k < (GL n (msL n ll)).length) w1 (hb : Below w.heap.size w w1) => elem_ok n k v ll w1 (hl.below hb) hE hk)
  have HH := hid (fun (u : Value) (l : List Int) w1 (hb : Below w.heap.size w w1) hu => has_ok n v u ll l w1 (hl.below hb) hu hE)
  have HMV := hid (GL_mv hG)
  have HGE := hid (fun x (hx : x ∈ GL n (msL n ll)) => (mem_GL hG.mv x).1 hx)
  have HIN := hid (fun x (hx : GenF (msL n ll) x) => in_yes hG hx)
  have HME := hid (memE_ok hG)
  have HMM : Hid (∀ l ∈ ll, inM (mvF n (fL l)) (GL n (msL n ll)) = true) := hid (fun l hl => in_yes hG (GenF.maker (List.mem_map.2 ⟨l, hl, rfl⟩)))
  by_cases hj0 : j < 0 ∨ ((GL n (msL n ll)).length : Int) ≤ j
  · have HF := hid (fun w1 (hb : Below w.heap.size w w1) => elem_far n j v ll w1 (hl.below hb) hE hj0)
    obtain ⟨a, c, N, rfl, hN, hc1, hc2⟩ := hl.open
    have HLE := hid (elL_len n ((GL n (msL n ll)).getD i id))
    replace HL := hid (HL.out i hi)
    clear hE hl hc2 hG hn' HH HMV HGE HIN HME HMM hj0 hi
    generalize GL n (msL n ll) = L at *
    generalize elL n (L.getD i id) = x at *
    go_enter Try.func4, Try.ntmps4
    go_wp2_with fail
    refine (HM.out _).mono ?_
    rintro e w1 ⟨rfl, hb1⟩
    have H1 := hid hb1
    clear hb1
    go_wp2_with fail
    refine (HL.out _ H1.out).mono ?_
    rintro e w2 ⟨⟨u, rfl, hu⟩, hb2⟩
    have H2 := hid (H1.out.trans (hb2.mono H1.out.size))
    clear hb2 hu
    go_wp2_with fail
    refine (HF.out _ H2.out).mono ?_
    rintro e w3 ⟨rfl, hb3⟩
    have H3 := hid (H2.out.trans (hb3.mono H2.out.size))
    clear hb3
    go_wp2
    go_ret
    exact ⟨rfl, H3.out⟩
  obtain ⟨j', rfl⟩ : ∃ j' : Nat, j = (j' : Int) := ⟨j.toNat, by omega⟩
  have hj : j' < (GL n (msL n ll)).length := by omega
  obtain ⟨x, hx⟩ : ∃ x, (GL n (msL n ll)).getD i id = x := ⟨_, rfl⟩
  obtain ⟨y, hy⟩ : ∃ y, (GL n (msL n ll)).getD j' id = y := ⟨_, rfl⟩
  have gx : GenF (msL n ll) x := HGE.out x (by rw [← hx]; exact getD_mem hi id)
  have gy : GenF (msL n ll) y := HGE.out y (by rw [← hy]; exact getD_mem hj id)
  have Px := gx.mv hG.mv
  have Py := gy.mv hG.mv
  obtain ⟨z, gz, hz1, hz2⟩ := gx.inv hG.mv
  have Pz := gz.mv hG.mv
  have hth : thenL (elL n x) (elL n y) = elL n (compF x y) := by
    have := elL_then (l := elL n y) Px (by
      have := pm_of (elL_permE (by omega) Py)
      rwa [elL_len] at this)
    rwa [mvF_elL Py] at this
  have hund := und_elL Px Pz hz2
  have HLX := hid (HL.out i hi)
  have HLY := hid (HL.out j' hj)
  rw [hx] at HLX
  rw [hy] at HLY
  have HT := hid (fun (v u : Value) (w : World) hl hm => then_ok v u (elL n x) (elL n y) w hl hm (by
    intro t ht
    simp only [elL, List.mem_map, List.mem_range] at ht
    obtain ⟨i, hi, rfl⟩ := ht
    have := Px.pm.lt i hi
    rw [elL_len]
    omega) (by rw [elL_len]; omega))
  rw [hth] at HT
  have HU := hid (fun (v : Value) (w : World) hl => undo_ok v (elL n x) n x w hl (elL_pm (by omega) Px))
  rw [hund] at HU
  have HHC := hid (fun (u : Value) w1 hb hu => HH.out u (elL n (compF x y)) w1 hb hu)
  rw [elL_memE (by omega) (comp_mv Px Py), mvF_elL (comp_mv Px Py), HIN.out _ (gx.mul gy)] at HHC
  have HHU := hid (fun (u : Value) w1 hb hu => HH.out u (elL n z) w1 hb hu)
  rw [elL_memE (by omega) Pz, mvF_elL Pz, HIN.out _ gz] at HHU
  have HSL := hid (fun (k : Nat) (hk : k < ll.length) => And.intro (HME.out _ (getD_mem hk []) hE) (HMM.out _ (getD_mem hk [])))
  have HLE := hid (elL_len n)
  have HRL := hid (fun w1 (hb : Below w.heap.size w w1) => hl.below hb)
  obtain ⟨a, c, N, rfl, hN, hc1, hc2⟩ := hl.open
  have HC2 := hid hc2
  rw [hN.out] at HSL
  clear hE hl hc2 hG hn' HL HMV HGE HIN HME HMM hj0 hi hj hx hy gx gy Px Py Pz hz1 hz2 gz hth hund HRL
  generalize hL : GL n (msL n ll) = L at *
  generalize hxy : elL n (compF x y) = XY at *
  generalize hzz : elL n z = Z at *
  generalize hxx : elL n x = X at *
  generalize hyy : elL n y = Y at *
  have hXl : X.length = n := by rw [← hxx]; exact HLE.out x
  have hYl : Y.length = n := by rw [← hyy]; exact HLE.out y
  have hZl : Z.length = n := by rw [← hzz]; exact HLE.out z
  have hXYl : XY.length = n := by rw [← hxy]; exact HLE.out _
  have HLS := hid (And.intro hXl (And.intro hYl (And.intro hZl hXYl)))
  clear hL hxy hzz hxx hyy hXl hYl hZl hXYl HLE
  go_enter Try.func4, Try.ntmps4
  go_wp2_with fail
  refine (HM.out _).mono ?_
  rintro e w1 ⟨rfl, hb1⟩
  have H1 := hid hb1
  clear hb1
  go_wp2_with fail
  refine (HLX.out _ H1.out).mono ?_
  rintro e w2 ⟨⟨u, rfl, hu⟩, hb2⟩
  have hu := hu.sl (by rw [HLS.out.1]; omega)
  have H2 := hid (And.intro (H1.out.trans (hb2.mono H1.out.size)) hu)
  obtain ⟨ua, uc, eu⟩ := hu.len
  rw [HLS.out.1] at eu
  subst eu
  clear hb2 hu
  go_wp2_with fail
  refine (HLY.out _ H2.out.1).mono ?_
  rintro e w3 ⟨⟨u3, rfl, hu3⟩, hb3⟩
  have hu3 := hu3.sl (by rw [HLS.out.2.1]; omega)
  have H3 := hid (And.intro (H2.out.1.trans (hb3.mono H2.out.1.size)) (And.intro (H2.out.2.below hb3) hu3))
  obtain ⟨u3a, u3c, eu⟩ := hu3.len
  rw [HLS.out.2.1] at eu
  subst eu
  clear hb3 hu3
  go_wp2_with fail
  refine (HT.out _ _ _ H3.out.2.1 H3.out.2.2).mono ?_
  rintro e w4 ⟨⟨u4, rfl, hu4⟩, hb4⟩
  have hu4 := hu4.sl (by rw [HLS.out.2.2.2]; omega)
  have H4 := hid (And.intro (H3.out.1.trans (hb4.mono H3.out.1.size)) (And.intro (H3.out.2.1.below hb4) hu4))
  obtain ⟨u4a, u4c, eu⟩ := hu4.len
  rw [HLS.out.2.2.2] at eu
  subst eu
  clear hb4 hu4
  go_wp2_with fail
  refine (HU.out _ _ H4.out.2.1).mono ?_
  rintro e w5 ⟨⟨u5, rfl, hu5⟩, hb5⟩
  have hu5 := hu5.sl (by rw [HLS.out.2.2.1]; omega)
  have H5 := hid (And.intro (H4.out.1.trans (hb5.mono H4.out.1.size)) (And.intro (H4.out.2.2.below hb5) hu5))
  obtain ⟨u5a, u5c, eu⟩ := hu5.len
  rw [HLS.out.2.2.1] at eu
  subst eu
  clear hb5 hu5
  go_wp2_with fail
  refine (HHC.out _ _ H5.out.1 H5.out.2.1).mono ?_
  rintro e w6 ⟨rfl, hb6⟩
  have H6 := hid (And.intro (H5.out.1.trans (hb6.mono H5.out.1.size)) (H5.out.2.2.below hb6))
  clear hb6
  go_wp2_with fail
  refine (HHU.out _ _ H6.out.1 H6.out.2).mono ?_
  rintro e w7 ⟨rfl, hb7⟩
  have H7 := hid (H6.out.1.trans (hb7.mono H6.out.1.size))
  clear hb7
  go_wp2_with fail
  go_loopw [18, 19, 20] (fun v18 _ _ wr => ∃ k : Nat, k ≤ N ∧ v18 = .int .i64 k ∧ Below w.heap.size w wr) (fun v18 _ _ _ => N - (intOf v18).toNat)
  case atStart => exact ⟨0, Nat.zero_le _, rfl, H7.out⟩
  case round =>
    obtain ⟨k, hk, rfl, hb⟩ := hrel
    by_cases hlt : k < N
    · have hki : (k : Int) < (N : Int) := by omega
      obtain ⟨g, off, rfl, hg, hc⟩ := HC2.out (by omega)
      obtain ⟨um, cm, sm⟩ := hc k hlt
      have cm' := (hb.cell (p := ⟨g, off + k, none⟩) hg).trans cm
      have HHK := hid (HH.out um (ll.getD k []) wr hb (sm.below hb))
      obtain ⟨hs1, hs2⟩ := HSL.out k hlt
      rw [hs1, hs2] at HHK
      have HB := hid hb
      clear hb sm cm hc hs1 hs2
      go_wp2_with fail
      refine HHK.out.mono ?_
      rintro e w8 ⟨rfl, hb8⟩
      have H8 := hid (HB.out.trans (hb8.mono HB.out.size))
      clear hb8
      go_wp2
      go_roundw
      case rel => exact ⟨k + 1, by omega, by go_num, H8.out⟩
      case measure => simp [intOf] <;> omega
    · have hki : ¬ (k : Int) < (N : Int) := by omega
      have HB := hid hb
      clear hb
      go_wp2
      go_ret
      exact ⟨rfl, HB.out⟩

theorem gcloses_walk (w : World) (n : Int) (_hn : I64 n) (v : Value) (ll : List (List Int)) (hl : RL w v ll) (_hll : ∀ l ∈ ll, ∀ x ∈ l, I64 x) (i : Int) (_hi : I64 i) (j : Int) (_hj : I64 j) :
    Calls Try.prog 4 #[.int .i64 n, v, .int .i64 i, .int .i64 j] w fun e w' => e = .returned (.bool true) ∧ Below w.heap.size w w' := by
  by_cases hE : grpE n ll = 0
  · obtain ⟨n', rfl, hG⟩ := gok_of hE
    by_cases hi : i < 0 ∨ ((GL n' (msL n' ll)).length : Int) ≤ i
    · exact gcloses_early w n' v ll hl i j 1 (by decide) fun w1 hb => elem_far n' i v ll w1 (hl.below hb) hE hi
    · obtain ⟨i', rfl⟩ : ∃ i' : Nat, i = (i' : Int) := ⟨i.toNat, by omega⟩
      exact gcloses_ok w n' v ll hl i' j hE (by omega)
  · exact gcloses_early w n v ll hl i j (grpE n ll) hE fun w1 hb => elem_bad n i v ll w1 (hl.below hb) hE
end Go.Proofs.Ytnbgnoimanpjnaa
