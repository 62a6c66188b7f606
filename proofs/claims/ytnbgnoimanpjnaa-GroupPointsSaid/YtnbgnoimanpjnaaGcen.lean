/-
  The walk over group.Centre. Conditions: the slices can be read; numbers of 64 bits.
-/
import Derived.Test.YtnbgnoimanpjnaaGord
import Derived.Deep.LoopGhost
namespace Go.Proofs.Ytnbgnoimanpjnaa
set_option linter.unusedVariables false
open Go.RowKit

/-- It does not mind the order with any maker. -/
def cenB (ms : List (Nat → Nat)) (x : Nat → Nat) : Bool := ms.all fun m => decide (mvI (compF x m) = mvI (compF m x))
def cenN (ms L : List (Nat → Nat)) (k : Nat) : Nat := ((L.take k).filter (cenB ms)).length
theorem cenN_zero (ms L : List (Nat → Nat)) : cenN ms L 0 = 0 := rfl
theorem cenN_all (ms L : List (Nat → Nat)) : cenN ms L L.length = (L.filter (cenB ms)).length := by unfold cenN; rw [List.take_length]
theorem cenN_succ (ms L : List (Nat → Nat)) {k : Nat} (h : k < L.length) : cenN ms L (k + 1) = cenN ms L k + if cenB ms (L.getD k id) then 1 else 0 := by
  unfold cenN
  rw [List.take_add_one, List.filter_append, List.length_append, List.getElem?_eq_getElem h, List.getD_eq_getElem?_getD, List.getElem?_eq_getElem h]
  simp only [Option.toList, Option.getD_some, List.filter_cons, List.filter_nil]
  split <;> rfl
theorem cenN_le (ms L : List (Nat → Nat)) (k : Nat) : cenN ms L k ≤ k := by
  unfold cenN
  exact Nat.le_trans (List.length_filter_le _ _) (by rw [List.length_take]; omega)
theorem cenB_no {ms : List (Nat → Nat)} {x : Nat → Nat} {j : Nat} (hj : j < ms.length) (h : mvI (compF x (ms.getD j id)) ≠ mvI (compF (ms.getD j id) x)) : cenB ms x = false := by
  unfold cenB
  rw [List.all_eq_false]
  exact ⟨_, getD_mem hj id, by simpa using h⟩
theorem cenB_yes {ms : List (Nat → Nat)} {x : Nat → Nat} (h : ∀ j, j < ms.length → mvI (compF x (ms.getD j id)) = mvI (compF (ms.getD j id) x)) : cenB ms x = true := by
  unfold cenB
  rw [List.all_eq_true]
  intro m hm
  obtain ⟨j, hj, rfl⟩ := List.mem_iff_getElem.1 hm
  have := h j hj
  rw [List.getD_eq_getElem?_getD, List.getElem?_eq_getElem hj, Option.getD_some] at this
  simpa using this

theorem centre_bad (n : Int) (v : Value) (ll : List (List Int)) (w : World) (hl : RL w v ll) (hE : grpE n ll ≠ 0) :
    Calls Try.prog 27 #[.int .i64 n, v] w fun e w' => e = .returned (.tuple #[.int .i64 0, .int .i64 (grpE n ll)]) ∧ Below w.heap.size w w' := by
  have HO := hid (gopen_bad n v ll w hl hE)
  obtain ⟨a, c, N, rfl, hN, hc1, hc2⟩ := hl.open
  have hb : (grpE n ll != 0) = true := bne_iff_ne.2 hE
  clear hE hl hc2
  generalize grpE n ll = E at *
  go_enter Try.func27, Try.ntmps27
  go_wp2_with fail
  go_step3
  go_wp2_with fail
  refine HO.out.mono ?_
  rintro e w1 ⟨rfl, hb1⟩
  have HB := hid hb1
  clear hb1
  go_wp2
  try rw [Exit.noGoto_ret]
  go_ret2
  exact ⟨rfl, HB.out⟩

set_option maxHeartbeats 4000000 in
set_option maxRecDepth 100000 in
theorem centre_ok (n : Nat) (v : Value) (ll : List (List Int)) (w : World) (hl : RL w v ll) (hE : grpE (n : Int) ll = 0) :
    Calls Try.prog 27 #[.int .i64 n, v] w fun e w' => e = .returned (.tuple #[.int .i64 (((GL n (msL n ll)).filter (cenB (msL n ll))).length : Nat), .int .i64 0]) ∧ Below w.heap.size w w' := by
  have HO := hid (gopen_ok n v ll w hl hE)
  obtain ⟨n', hn', hG⟩ := gok_of hE
  obtain rfl : n = n' := by omega
  have hn7 := hG.n7
  have hlen := (GL_len hG.mv).2
  have hfb := (fac_bd n (by omega)).2
  have HML := hid (fun j (hj : j < (msL n ll).length) => (hG.mv _ (getD_mem hj id)).lt7 hn7)
  have HGLm := hid (fun i (hi : i < (GL n (msL n ll)).length) => (((mem_GL hG.mv _).1 (getD_mem hi id)).mv hG.mv).lt7 hn7)
  have hms4 : (msL n ll).length ≤ 4 := by rw [msL_len]; exact hG.l4
  have HT := hid (fun (x y : Nat → Nat) (w : World) hx hy => gthen_ok x y w hx hy)
  obtain ⟨a, c, N, rfl, hN, hc1, hc2⟩ := hl.open
  clear hE hl hc2 hG hn'
  generalize GL n (msL n ll) = L at *
  generalize msL n ll = ms at *
  rw [← cenN_all]
  have HC0 := hid (cenN_zero ms L)
  have HCS := hid (fun k (h : k < L.length) => cenN_succ ms L h)
  have HCL := hid (cenN_le ms L)
  have HNO := hid (fun (x : Nat → Nat) j (hj : j < ms.length) h => cenB_no (ms := ms) (x := x) (j := j) hj h)
  have HYES := hid (fun (x : Nat → Nat) h => cenB_yes (ms := ms) (x := x) h)
  generalize cenN ms L = CN at *
  generalize cenB ms = CB at *
  obtain ⟨M, hM⟩ : ∃ M, L.length = M := ⟨_, rfl⟩
  have HM := hid hM
  rw [hM] at hlen HCS HGLm ⊢
  clear hM
  obtain ⟨K, hK⟩ : ∃ K, ms.length = K := ⟨_, rfl⟩
  have HK := hid hK
  rw [hK] at hms4 HML HNO HYES
  clear hK
  have hun := Try.underlying68
  unfold mvV at HT
  go_enter Try.func27, Try.ntmps27
  go_wp2_with fail
  go_step3
  go_wp2_with fail
  refine HO.out.mono ?_
  rintro e w1 ⟨⟨s, r, rfl, hs, hr⟩, hb1⟩
  obtain ⟨ra, rc, er⟩ := hr.len
  rw [HM.out] at er
  subst er
  obtain ⟨sa, sc, es⟩ := hs.len
  rw [HK.out] at es
  subst es
  have H1 := hid (And.intro hr (And.intro hs hb1))
  clear hr hs hb1 HO
  go_wp2_with fail
  go_step3
  go_wp2_with fail
  go_loopg [9, 11, 13, 26] M (fun g cnt _ _ i wr => ∃ k : Nat, i = .int .i64 k ∧ k + g = M ∧ cnt = .int .i64 (CN k : Nat) ∧ OM w.heap.size wr (.slice ra M rc) L ∧ OM w.heap.size wr (.slice sa K sc) ms ∧ Below w.heap.size w wr)
  case atStart => exact ⟨0, rfl, Nat.zero_add _, by rw [HC0.out]; rfl, H1.out.1, H1.out.2.1, H1.out.2.2⟩
  case round =>
    clear H1
    obtain ⟨k, rfl, hkM, rfl, hr, hs, hb⟩ := hrel
    generalize hgi : gk = gi at *
    obtain ⟨W0, hW0⟩ : ∃ W0, W0 = wr := ⟨_, rfl⟩
    subst hW0
    by_cases hlt : k < M
    · have hki : (k : Int) < (M : Int) := by omega
      obtain ⟨og, oc, eo, _, hog⟩ := hr.form (by rw [HM.out]; omega)
      rw [HM.out] at eo
      obtain ⟨rfl, rfl⟩ : ra = some ⟨og, 0, none⟩ ∧ rc = oc := by simpa using eo
      obtain ⟨x, hx⟩ : ∃ x, L.getD k id = x := ⟨_, rfl⟩
      have hxl := HGLm.out k hlt
      have hrx := hr.range (i := k) (by rw [HM.out]; exact hlt)
      have hcs := HCS.out k hlt
      rw [hx] at hrx hxl hcs
      have ix : (Try.prog.info? 68).map (·.size) = some (mvC x).length := by rw [mvC_len]; exact mv_info
      have HAZ := hid (Arr.new W0 68 (mvC fun _ => 0))
      have hcl := HCL.out k
      have HI := hid (And.intro hr (And.intro hs hb))
      have HXL := hid hxl
      have HCSk := hid hcs
      clear hr hs hb eo hx hxl hcs
      go_wp2_with (first
        | (refine wpList_load_mid rfl 68 _ rfl og (k * 7) rfl (mvC x) _ hrx Try.underlying68 rfl ix ?_; clear hrx)
        | (refine wpList_store_arr rfl 68 _ _ rfl W0.heap.size (mvC x) rfl rfl HAZ.out (by rw [mvC_len, mvC_len]) ix (mvC_one _) ?_
           intro w5 hA5 hg5
           have hB5 : Below W0.heap.size W0 w5 := ((Below.refl _ _).alloc (Nat.le_refl _) _).grown hg5 (by simp) (fun b e => by cases e; exact Nat.le_refl _)
           have H5 := hid (And.intro hA5 (And.intro (HI.out.1.below hB5) (And.intro (HI.out.2.1.below hB5) (HI.out.2.2.trans (hB5.mono HI.out.2.2.size)))))
           clear hA5 hg5 hB5)
        | fail)
      go_loopg [13, 32] K (fun g2 _ j wq => ∃ t : Nat, j = .int .i64 t ∧ t + g2 = K ∧ Hid (∀ t', t' < t → mvI (compF x (ms.getD t' id)) = mvI (compF (ms.getD t' id) x)) ∧ Arr wq W0.heap.size 68 (mvC x) ∧ OM w.heap.size wq (.slice (some ⟨og, 0, none⟩) M rc) L ∧ OM w.heap.size wq (.slice sa K sc) ms ∧ Below w.heap.size w wq)
      case atStart => exact ⟨0, rfl, Nat.zero_add _, hid (fun t' h => by omega), H5.out.1, H5.out.2.1, H5.out.2.2.1, H5.out.2.2.2⟩
      case round =>
        clear H5 HI HAZ
        obtain ⟨t, rfl, htK, HT2, hA, hr, hs, hb⟩ := hrel
        generalize hgj : gk = gj at *
        by_cases htl : t < K
        · have hti : (t : Int) < (K : Int) := by omega
          obtain ⟨sg, sc', es, _, hsg⟩ := hs.form (by rw [HK.out]; omega)
          rw [HK.out] at es
          obtain ⟨rfl, rfl⟩ : sa = some ⟨sg, 0, none⟩ ∧ sc = sc' := by simpa using es
          obtain ⟨m, hm⟩ : ∃ m, ms.getD t id = m := ⟨_, rfl⟩
          have hml := HML.out t htl
          have hrm := hs.range (i := t) (by rw [HK.out]; exact htl)
          rw [hm] at hrm hml
          have im : (Try.prog.info? 68).map (·.size) = some (mvC m).length := by rw [mvC_len]; exact mv_info
          have HAZ := hid (Arr.new wr 68 (mvC fun _ => 0))
          have HI := hid (And.intro hA (And.intro hr (And.intro hs hb)))
          have HM2 := hid hm
          have HNOt := hid (HNO.out x t htl)
          rw [hm] at HNOt
          have hwq := hA.lt
          clear hA hr hs hb es hm
          go_wp2_with (first
            | (refine wpList_load_mid rfl 68 _ rfl sg (t * 7) rfl (mvC m) _ hrm Try.underlying68 rfl im ?_; clear hrm)
            | (refine wpList_store_arr rfl 68 _ _ rfl wr.heap.size (mvC m) rfl rfl HAZ.out (by rw [mvC_len, mvC_len]) im (mvC_one _) ?_
               intro w7 hA7 hg7
               have hB7 : Below wr.heap.size wr w7 := ((Below.refl _ _).alloc (Nat.le_refl _) _).grown hg7 (by simp) (fun b e => by cases e; exact Nat.le_refl _)
               have H7 := hid (And.intro hA7 (And.intro (HI.out.1.below hB7) (And.intro (HI.out.2.1.below hB7) (And.intro (HI.out.2.2.1.below hB7) (HI.out.2.2.2.trans (hB7.mono HI.out.2.2.2.size))))))
               clear hA7 hg7 hB7)
            | fail)
          have hxl := HXL.out
          have HLX := hid (fun w' (hb : Below w7.heap.size w7 w') => (H7.out.2.1.below hb).range)
          have HLM := hid (fun w' (hb : Below w7.heap.size w7 w') => (H7.out.1.below hb).range)
          refine region_dagL [36, 37, 38, 39, 40, 41] [fun v _ => v = .agg (mvC x).toArray, fun v _ => v = .agg (mvC m).toArray, fun v _ => v = .agg (mvC (compF x m)).toArray, fun v _ => v = .agg (mvC m).toArray, fun v _ => v = .agg (mvC x).toArray, fun v _ => v = .agg (mvC (compF m x)).toArray] (by kernel_rfl) (by kernel_rfl) rfl rfl
            ⟨Kp_eq _, Kp_eq _, Kp_eq _, Kp_eq _, Kp_eq _, Kp_eq _, trivial⟩ ⟨?_, ?_, ?_, ?_, ?_, ?_, trivial⟩ ?_
          · intro a w' K hb hf hd hK
            exact wp_load_mid 68 _ rfl W0.heap.size 0 (hf 11 rfl) (mvC x) _ (HLX.out w' hb) hun rfl ix (hK _ _ rfl (Below.refl _ _))
          · intro a w' K hb hf hd hK
            exact wp_load_mid 68 _ rfl wr.heap.size 0 (hf 13 rfl) (mvC m) _ (HLM.out w' hb) hun rfl im (hK _ _ rfl (Below.refl _ _))
          · intro a w' K hb hf hd hK
            have h3 : a.eval (.tmp 36) = _ := hd 0 (by decide) (by kernel_rfl)
            have h4 : a.eval (.tmp 37) = _ := hd 1 (by decide) (by kernel_rfl)
            refine dag_call _ _ _ #[_, _] rfl (by rw [List.map_toArray, List.map_cons, List.map_cons, List.map_nil, h3, h4]) _ Try.func58 (by kernel_rfl) (by kernel_rfl) ?_
            refine (HT.out x m _ hxl hml).mono ?_
            rintro e w2 ⟨rfl, hb2⟩
            exact ⟨_, rfl, hK _ _ rfl hb2⟩
          · intro a w' K hb hf hd hK
            exact wp_load_mid 68 _ rfl wr.heap.size 0 (hf 13 rfl) (mvC m) _ (HLM.out w' hb) hun rfl im (hK _ _ rfl (Below.refl _ _))
          · intro a w' K hb hf hd hK
            exact wp_load_mid 68 _ rfl W0.heap.size 0 (hf 11 rfl) (mvC x) _ (HLX.out w' hb) hun rfl ix (hK _ _ rfl (Below.refl _ _))
          · intro a w' K hb hf hd hK
            have h3 : a.eval (.tmp 39) = _ := hd 3 (by decide) (by kernel_rfl)
            have h4 : a.eval (.tmp 40) = _ := hd 4 (by decide) (by kernel_rfl)
            refine dag_call _ _ _ #[_, _] rfl (by rw [List.map_toArray, List.map_cons, List.map_cons, List.map_nil, h3, h4]) _ Try.func58 (by kernel_rfl) (by kernel_rfl) ?_
            refine (HT.out m x _ hml hxl).mono ?_
            rintro e w2 ⟨rfl, hb2⟩
            exact ⟨_, rfl, hK _ _ rfl hb2⟩
          · rintro vals w8 ⟨h0, h1, h2, h3, h4, h5, _⟩ hb8
            simp only [Nat.reduceAdd] at h0 h1 h2 h3 h4 h5
            simp only [putAll, Act.put, List.setIfInBounds_toArray, List.set_cons_zero, List.set_cons_succ, List.drop_succ_cons, List.drop_zero, List.length_cons, List.length_nil, Nat.reduceAdd]
            rw [h0, h1, h2, h3, h4, h5]
            have H8 := hid (And.intro (H7.out.2.1.below hb8) (And.intro (H7.out.2.2.1.below hb8) (And.intro (H7.out.2.2.2.1.below hb8) (H7.out.2.2.2.2.trans (hb8.mono H7.out.2.2.2.2.size)))))
            have hinfo : ∃ i, Try.prog.info? 3 = some i := by
              have := Try.info3
              cases e : Try.prog.info? 3 with
              | none => rw [e] at this; simp at this
              | some i => exact ⟨i, rfl⟩
            obtain ⟨i0, hi0⟩ := hinfo
            have heq := run_eq_ints (P := Try.prog) w8 9998 Try.underlying68 Try.underlying3 hi0 (by kernel_rfl) (mvI_len (compF x m)) (mvI_len (compF m x))
            rw [← mvC_I, ← mvC_I] at heq
            clear h0 h1 h2 h3 h4 h5 hb8 HLX HLM H7 HI HAZ
            by_cases he : mvI (compF x m) = mvI (compF m x)
            · rw [decide_eq_true he] at heq
              have HT3 : Hid (∀ t', t' < t + 1 → mvI (compF x (ms.getD t' id)) = mvI (compF (ms.getD t' id) x)) := hid (fun t' h => by
                by_cases e : t' = t
                · rw [e, HM2.out]; exact he
                · exact HT2.out t' (by omega))
              clear he HNOt
              go_wp2
              go_roundg (gj - 1)
              case measure => omega
              case rel => exact ⟨t + 1, by go_num, by omega, HT3, H8.out.1, H8.out.2.1, H8.out.2.2.1, H8.out.2.2.2⟩
            · rw [decide_eq_false he] at heq
              have hno := HNOt.out he
              have HCk : Hid (CN (k + 1) = CN k) := hid (by rw [HCSk.out, hno, if_neg (by decide), Nat.add_zero])
              clear he HNOt hno
              go_wp2
              go_roundg (gi - 1)
              case measure => omega
              case rel => exact ⟨k + 1, by go_num, by omega, by rw [HCk.out], H8.out.2.1, H8.out.2.2.1, H8.out.2.2.2⟩
        · obtain rfl : t = K := by omega
          have hti : ¬ (t : Int) < (t : Int) := by omega
          have hyes := HYES.out x HT2.out
          have HCk : Hid (CN (k + 1) = CN k + 1) := hid (by rw [HCSk.out, hyes, if_pos rfl])
          have HI := hid (And.intro hr (And.intro hs hb))
          clear hr hs hb hA hyes
          go_wp2
          go_roundg (gi - 1)
          case measure => omega
          case rel => exact ⟨k + 1, by go_num, by omega, by rw [HCk.out]; go_num, HI.out.1, HI.out.2.1, HI.out.2.2⟩
    · obtain rfl : k = M := by omega
      have hki : ¬ (k : Int) < (k : Int) := by omega
      have HB := hid hb
      clear hr hs hb
      go_wp2
      try rw [Exit.noGoto_ret]
      go_ret2
      exact ⟨rfl, HB.out⟩
end Go.Proofs.Ytnbgnoimanpjnaa
