/-
  The walk over parterrelaw1.GroupDivides. Conditions: the slices can be read; numbers of 64 bits.
-/
import Derived.Test.YtnbgnoimanpjnaaGlmade
import Derived.Test.YtnbgnoimanpjnaaGcen
import Derived.Test.YtnbgnoimanpjnaaGder
namespace Go.Proofs.Ytnbgnoimanpjnaa
set_option linter.unusedVariables false
open Go.RowKit

/-- All permutations below n. -/
def allL (n : Nat) : List (Nat → Nat) := (List.range (fac n)).map (unF n)
theorem allL_len (n : Nat) : (allL n).length = fac n := by simp [allL]
theorem mem_allL (n : Nat) (x : Nat → Nat) : x ∈ allL n ↔ Mv n x := by
  unfold allL
  rw [List.mem_map]
  constructor
  · rintro ⟨k, hk, rfl⟩
    exact un_mv (List.mem_range.1 hk)
  · intro P
    exact ⟨rkF n x, List.mem_range.2 (rk_lt P.pm), un_rk P⟩
theorem allL_nodup (n : Nat) : (allL n).Nodup := by
  unfold allL List.Nodup
  rw [List.pairwise_map]
  have h1 : (List.range (fac n)).Pairwise (fun a b => a < b ∧ a < fac n ∧ b < fac n) := List.Pairwise.imp_of_mem (fun {a b} ha hb h => ⟨h, List.mem_range.1 ha, List.mem_range.1 hb⟩) List.pairwise_lt_range
  refine h1.imp fun {a b} h e => ?_
  have := congrArg (rkF n) e
  rw [rk_un h.2.1, rk_un h.2.2] at this
  omega
theorem order_div {n : Nat} {ms : List (Nat → Nat)} (hm : ∀ m ∈ ms, Mv n m) : (GL n ms).length ∣ fac n := by
  rw [← allL_len n]
  exact lagrange (allL_nodup n) (GL_nodup n ms) (mem_allL n) (mem_GL hm) (fun x hx => hx.mv hm) (fun x hx => hx) (fun x y hx hy => comp_mv hx hy) GenF.one (fun x y hx hy => hx.mul hy) fun x hx => hx.bk hm
theorem part_div {n : Nat} {ms own : List (Nat → Nat)} (hm : ∀ m ∈ ms, Mv n m) (hs : ∀ x ∈ own, GenF ms x) : (GL n own).length ∣ (GL n ms).length := by
  have ho : ∀ x ∈ own, Mv n x := fun x hx => (hs x hx).mv hm
  exact lagrange (GL_nodup n ms) (GL_nodup n own) (mem_GL hm) (mem_GL ho) (fun x hx => hx.closed (G := GenF ms) GenF.one fun y hy c hc => hy.mul (hs c hc)) (fun x hx => hx.mv hm) (fun x y hx hy => hx.mul hy) GenF.one (fun x y hx hy => hx.mul hy) fun x hx => hx.bk ho
theorem cen_iff {n : Nat} (hn : n ≤ 7) {ms : List (Nat → Nat)} (hm : ∀ m ∈ ms, Mv n m) {x : Nat → Nat} (P : Mv n x) : cenB ms x = true ↔ ∀ m ∈ ms, compF x m = compF m x := by
  unfold cenB
  rw [List.all_eq_true]
  constructor
  · intro h m hmm
    exact mvI_inj hn (comp_mv P (hm m hmm)) (comp_mv (hm m hmm) P) (of_decide_eq_true (h m hmm))
  · intro h m hmm
    rw [h m hmm]
    simp
theorem cen_div {n : Nat} (hn : n ≤ 7) {ms : List (Nat → Nat)} (hm : ∀ m ∈ ms, Mv n m) : 1 ≤ ((GL n ms).filter (cenB ms)).length ∧ ((GL n ms).filter (cenB ms)).length ∣ (GL n ms).length := by
  have hmem : ∀ x, x ∈ (GL n ms).filter (cenB ms) ↔ GenF ms x ∧ ∀ m ∈ ms, compF x m = compF m x := fun x => by
    rw [List.mem_filter, mem_GL hm]
    constructor
    · rintro ⟨h1, h2⟩
      exact ⟨h1, (cen_iff hn hm (h1.mv hm)).1 h2⟩
    · rintro ⟨h1, h2⟩
      exact ⟨h1, (cen_iff hn hm (h1.mv hm)).2 h2⟩
  constructor
  · exact List.length_pos_of_mem ((hmem id).2 ⟨GenF.one, fun m _ => rfl⟩)
  · refine lagrange (GL_nodup n ms) ((GL_nodup n ms).filter _) (mem_GL hm) hmem (fun x hx => hx.1) (fun x hx => hx.mv hm) (fun x y hx hy => hx.mul hy) ⟨GenF.one, fun m _ => rfl⟩ (fun x y hx hy => ⟨hx.1.mul hy.1, fun m hmm => ?_⟩) fun x hx => ⟨hx.1.bk hm, fun m hmm => ?_⟩
    · rw [comp_assoc, hy.2 m hmm, ← comp_assoc, hx.2 m hmm, comp_assoc]
    · have P := hx.1.mv hm
      have h1 : compF (bkF n x) (compF (compF x m) (bkF n x)) = compF m (bkF n x) := by
        rw [comp_assoc, ← comp_assoc (bkF n x) x, bk_comp P]
        rfl
      rw [hx.2 m hmm] at h1
      have h2 : compF (compF m x) (bkF n x) = m := by
        rw [comp_assoc, comp_bk P]
        rfl
      rw [h2] at h1
      exact h1
theorem der_div {n : Nat} {ms : List (Nat → Nat)} (hm : ∀ m ∈ ms, Mv n m) : 1 ≤ derN n ms ∧ derN n ms ∣ (GL n ms).length :=
  ⟨(GL_len (cmL_mv hm)).1, part_div hm fun x hx => by
    obtain ⟨a, b, ha, hb, rfl⟩ := (mem_cmL hm x).1 hx
    exact ha.com hm hb⟩
theorem tmod_zero {a b : Nat} (h : b ∣ a) : (a : Int).tmod (b : Int) = 0 := by
  rw [← Int.ofNat_tmod, Nat.mod_eq_zero_of_dvd h]
  rfl
theorem RL.upto {w : World} {a : Option Addr} {n c i : Nat} {ll : List (List Int)} (h : RL w (.slice a n c) ll) (hi : i ≤ n) : RL w (.slice a i c) (ll.take i) := by
  obtain ⟨a', c', e, h1, h2⟩ := h
  simp only [Value.slice.injEq] at e
  obtain ⟨rfl, rfl, rfl⟩ := e
  have hl : (ll.take i).length = i := by rw [List.length_take]; omega
  refine ⟨a, c, by rw [hl], by rw [hl]; omega, fun hp => ?_⟩
  rw [hl] at hp ⊢
  obtain ⟨g, off, e, hg, hc⟩ := h2 (by omega)
  refine ⟨g, off, e, hg, fun j hj => ?_⟩
  obtain ⟨u, h3, h4⟩ := hc j (by omega)
  refine ⟨u, h3, ?_⟩
  rwa [List.getD_eq_getElem?_getD, List.getElem?_take_of_lt hj, ← List.getD_eq_getElem?_getD]
theorem first_take {n : Int} : ∀ {ll : List (List Int)} (k : Nat), firstE n ll = 0 → firstE n (ll.take k) = 0
  | [], k, h => by simp [firstE]
  | l :: ll, 0, h => by simp [firstE]
  | l :: ll, k + 1, h => by
    rw [List.take_succ_cons]
    unfold firstE at h ⊢
    by_cases hm : memE n l = 0
    · rw [if_neg (by rw [hm]; decide)] at h ⊢
      exact first_take k h
    · rw [if_pos hm] at h
      exact absurd h hm
theorem grp_take {n : Int} {ll : List (List Int)} (k : Nat) (h : grpE n ll = 0) : grpE n (ll.take k) = 0 := by
  have h0 := grpE_zero h
  unfold grpE at h ⊢
  rw [if_neg (by omega)] at h ⊢
  rw [if_neg (by omega)] at h
  rw [if_neg (by rw [List.length_take]; omega)]
  exact first_take k h

set_option maxHeartbeats 1000000 in
theorem gdiv_bad (w : World) (n : Int) (v : Value) (ll : List (List Int)) (hl : RL w v ll) (part : Int) (hE : grpE n ll ≠ 0) :
    Calls Try.prog 6 #[.int .i64 n, v, .int .i64 part] w fun e w' => e = .returned (.bool true) ∧ Below w.heap.size w w' := by
  have HM := hid (fun w1 => lmade_ok w1)
  have HO := hid (fun w1 (hb : Below w.heap.size w w1) => order_bad n v ll w1 (hl.below hb) hE)
  obtain ⟨a, c, N, rfl, hN, hc1, hc2⟩ := hl.open
  have hb : (grpE n ll != 0) = true := bne_iff_ne.2 hE
  clear hE hl hc2
  generalize grpE n ll = E at *
  go_enter Try.func6, Try.ntmps6
  go_wp2_with fail
  refine (HM.out _).mono ?_
  rintro e w1 ⟨rfl, hb1⟩
  have H1 := hid hb1
  clear hb1
  go_wp2_with fail
  refine (HO.out _ H1.out).mono ?_
  rintro e w2 ⟨rfl, hb2⟩
  have H2 := hid (H1.out.trans (hb2.mono H1.out.size))
  clear hb2
  go_wp2
  go_ret
  exact ⟨rfl, H2.out⟩

set_option maxHeartbeats 4000000 in
set_option maxRecDepth 100000 in
theorem gdiv_ok (w : World) (n : Nat) (v : Value) (ll : List (List Int)) (hl : RL w v ll) (part : Int) (hE : grpE (n : Int) ll = 0) :
    Calls Try.prog 6 #[.int .i64 n, v, .int .i64 part] w fun e w' => e = .returned (.bool true) ∧ Below w.heap.size w w' := by
  obtain ⟨n', hn', hG⟩ := gok_of hE
  obtain rfl : n = n' := by omega
  have hn7 := hG.n7
  have HM := hid (fun w1 => lmade_ok w1)
  have HO := hid (fun w1 (hb : Below w.heap.size w w1) => order_ok n v ll w1 (hl.below hb) hE)
  have HFA := hid (fun (w1 : World) => factorial_ok n w1 (by omega))
  have HC := hid (fun w1 (hb : Below w.heap.size w w1) => centre_ok n v ll w1 (hl.below hb) hE)
  have HD := hid (fun w1 (hb : Below w.heap.size w w1) => derived_ok n v ll w1 (hl.below hb) hE)
  have hl4 := hG.l4
  obtain ⟨a, c, N, rfl, hN, hc1, hc2⟩ := hl.open
  rw [hN.out] at hl4
  obtain ⟨j, hj, hjp⟩ : ∃ j : Nat, j ≤ N ∧ ((0 ≤ part ∧ part < (N : Int)) ∧ part = (j : Int) ∨ ¬ (0 ≤ part ∧ part < (N : Int)) ∧ j = N) := by
    by_cases h : 0 ≤ part ∧ part < (N : Int)
    · exact ⟨part.toNat, by omega, .inl ⟨h, by omega⟩⟩
    · exact ⟨N, Nat.le_refl _, .inr ⟨h, rfl⟩⟩
  have HP := hid (fun w1 (hb : Below w.heap.size w w1) => order_ok n (.slice a j c) (ll.take j) w1 ((hl.below hb).upto hj) (grp_take j hE))
  have hGt : GOk n (ll.take j) := by
    obtain ⟨n2, h2, hG2⟩ := gok_of (grp_take j hE)
    obtain rfl : n = n2 := by omega
    exact hG2
  have hms : msL n (ll.take j) = (msL n ll).take j := by unfold msL; rw [List.map_take]
  have d1 := order_div hG.mv
  have d2 : (GL n (msL n (ll.take j))).length ∣ (GL n (msL n ll)).length := by
    rw [hms]
    exact part_div hG.mv fun x hx => GenF.maker (List.mem_of_mem_take hx)
  obtain ⟨c1, d3⟩ := cen_div hn7 hG.mv
  obtain ⟨c2, d4⟩ := der_div hG.mv
  have l1 := (GL_len hG.mv)
  have l2 := (GL_len hGt.mv)
  have hfb := fac7 n hn7
  have e1 := tmod_zero d1
  have e2 := tmod_zero d2
  have e3 := tmod_zero d3
  have e4 := tmod_zero d4
  clear d1 d2 d3 d4 hms hGt hG hE hl hc2 hn'
  generalize (GL n (msL n ll)).length = O at *
  generalize (GL n (msL n (ll.take j))).length = P at *
  generalize ((GL n (msL n ll)).filter (cenB (msL n ll))).length = C at *
  generalize derN n (msL n ll) = D at *
  generalize fac n = F at *
  by_cases h0 : part < 0
  · obtain rfl : j = N := by omega
    have h0' : ¬ 0 ≤ part := by omega
    clear hjp
    have o1 : ¬ (O : Int) < 1 := by omega
    have o0 : ¬ (O : Int) = 0 := by omega
    have p1 : ¬ (P : Int) < 1 := by omega
    have p0 : ¬ (P : Int) = 0 := by omega
    have q1 : (C : Int) > 0 := by omega
    have q0 : ¬ (C : Int) = 0 := by omega
    have r1 : (D : Int) > 0 := by omega
    have r0 : ¬ (D : Int) = 0 := by omega
    have hjc : j ≤ c := by omega
    go_enter Try.func6, Try.ntmps6
    go_wp2_with fail
    refine (HM.out _).mono ?_
    rintro e w1 ⟨rfl, hb1⟩
    have H1 := hid hb1
    clear hb1
    go_wp2_with fail
    refine (HO.out _ H1.out).mono ?_
    rintro e w2 ⟨rfl, hb2⟩
    have H2 := hid (H1.out.trans (hb2.mono H1.out.size))
    clear hb2
    go_wp2_with fail
    refine (HFA.out _).mono ?_
    rintro e w3 ⟨rfl, rfl⟩
    go_wp2_with fail
    refine (HP.out _ H2.out).mono ?_
    rintro e w4 ⟨rfl, hb4⟩
    have H4 := hid (H2.out.trans (hb4.mono H2.out.size))
    clear hb4
    go_wp2_with fail
    refine (HC.out _ H4.out).mono ?_
    rintro e w5 ⟨rfl, hb5⟩
    have H5 := hid (H4.out.trans (hb5.mono H4.out.size))
    clear hb5
    go_wp2_with fail
    refine (HD.out _ H5.out).mono ?_
    rintro e w6 ⟨rfl, hb6⟩
    have H6 := hid (H5.out.trans (hb6.mono H5.out.size))
    clear hb6
    go_wp2
    go_ret
    exact ⟨rfl, H6.out⟩
  by_cases h1 : part < (N : Int)
  · obtain rfl : part = (j : Int) := by omega
    have h0' : 0 ≤ (j : Int) := by omega
    clear hjp
    have o1 : ¬ (O : Int) < 1 := by omega
    have o0 : ¬ (O : Int) = 0 := by omega
    have p1 : ¬ (P : Int) < 1 := by omega
    have p0 : ¬ (P : Int) = 0 := by omega
    have q1 : (C : Int) > 0 := by omega
    have q0 : ¬ (C : Int) = 0 := by omega
    have r1 : (D : Int) > 0 := by omega
    have r0 : ¬ (D : Int) = 0 := by omega
    have hjc : j ≤ c := by omega
    go_enter Try.func6, Try.ntmps6
    go_wp2_with fail
    refine (HM.out _).mono ?_
    rintro e w1 ⟨rfl, hb1⟩
    have H1 := hid hb1
    clear hb1
    go_wp2_with fail
    refine (HO.out _ H1.out).mono ?_
    rintro e w2 ⟨rfl, hb2⟩
    have H2 := hid (H1.out.trans (hb2.mono H1.out.size))
    clear hb2
    go_wp2_with fail
    refine (HFA.out _).mono ?_
    rintro e w3 ⟨rfl, rfl⟩
    go_wp2_with fail
    refine (HP.out _ H2.out).mono ?_
    rintro e w4 ⟨rfl, hb4⟩
    have H4 := hid (H2.out.trans (hb4.mono H2.out.size))
    clear hb4
    go_wp2_with fail
    refine (HC.out _ H4.out).mono ?_
    rintro e w5 ⟨rfl, hb5⟩
    have H5 := hid (H4.out.trans (hb5.mono H4.out.size))
    clear hb5
    go_wp2_with fail
    refine (HD.out _ H5.out).mono ?_
    rintro e w6 ⟨rfl, hb6⟩
    have H6 := hid (H5.out.trans (hb6.mono H5.out.size))
    clear hb6
    go_wp2
    go_ret
    exact ⟨rfl, H6.out⟩
  · obtain rfl : j = N := by omega
    have h0' : 0 ≤ part := by omega
    clear hjp
    have o1 : ¬ (O : Int) < 1 := by omega
    have o0 : ¬ (O : Int) = 0 := by omega
    have p1 : ¬ (P : Int) < 1 := by omega
    have p0 : ¬ (P : Int) = 0 := by omega
    have q1 : (C : Int) > 0 := by omega
    have q0 : ¬ (C : Int) = 0 := by omega
    have r1 : (D : Int) > 0 := by omega
    have r0 : ¬ (D : Int) = 0 := by omega
    have hjc : j ≤ c := by omega
    go_enter Try.func6, Try.ntmps6
    go_wp2_with fail
    refine (HM.out _).mono ?_
    rintro e w1 ⟨rfl, hb1⟩
    have H1 := hid hb1
    clear hb1
    go_wp2_with fail
    refine (HO.out _ H1.out).mono ?_
    rintro e w2 ⟨rfl, hb2⟩
    have H2 := hid (H1.out.trans (hb2.mono H1.out.size))
    clear hb2
    go_wp2_with fail
    refine (HFA.out _).mono ?_
    rintro e w3 ⟨rfl, rfl⟩
    go_wp2_with fail
    refine (HP.out _ H2.out).mono ?_
    rintro e w4 ⟨rfl, hb4⟩
    have H4 := hid (H2.out.trans (hb4.mono H2.out.size))
    clear hb4
    go_wp2_with fail
    refine (HC.out _ H4.out).mono ?_
    rintro e w5 ⟨rfl, hb5⟩
    have H5 := hid (H4.out.trans (hb5.mono H4.out.size))
    clear hb5
    go_wp2_with fail
    refine (HD.out _ H5.out).mono ?_
    rintro e w6 ⟨rfl, hb6⟩
    have H6 := hid (H5.out.trans (hb6.mono H5.out.size))
    clear hb6
    go_wp2
    go_ret
    exact ⟨rfl, H6.out⟩

theorem gdiv_walk (w : World) (n : Int) (_hn : I64 n) (v : Value) (ll : List (List Int)) (hl : RL w v ll) (_hll : ∀ l ∈ ll, ∀ x ∈ l, I64 x) (part : Int) (_hi : I64 part) :
    Calls Try.prog 6 #[.int .i64 n, v, .int .i64 part] w fun e w' => e = .returned (.bool true) ∧ Below w.heap.size w w' := by
  by_cases hE : grpE n ll = 0
  · obtain ⟨n', rfl, hG⟩ := gok_of hE
    exact gdiv_ok w n' v ll hl part hE
  · exact gdiv_bad w n v ll hl part hE
end Go.Proofs.Ytnbgnoimanpjnaa
