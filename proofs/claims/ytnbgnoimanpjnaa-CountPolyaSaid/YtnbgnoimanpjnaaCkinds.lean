/-
  The walk over count.kinds. Conditions: the slices can be read; numbers of 64 bits.
-/
import Derived.Test.YtnbgnoimanpjnaaCall
import Derived.Test.YtnbgnoimanpjnaaCkof
import Derived.Test.YtnbgnoimanpjnaaDagJ
namespace Go.Proofs.Ytnbgnoimanpjnaa
set_option linter.unusedVariables false
open Go.RowKit Go.Maps

/-- The kind of a permutation of n points. -/
def kdL (n : Nat) (x : Nat → Nat) : List Int := kdI (kdF x n n)
/-- The kinds of the first k; how many there are of a kind. -/
def skS (n : Nat) (L : List (Nat → Nat)) : Nat → List (List Int)
  | 0 => []
  | k + 1 => ins (kdL n (L.getD k id)) (skS n L k)
def ckN (n : Nat) (L : List (Nat → Nat)) (k : Nat) (y : List Int) : Int := (((L.take k).filter fun x => kdL n x == y).length : Nat)
theorem ckN_le (n : Nat) (L : List (Nat → Nat)) (k : Nat) (y : List Int) : 0 ≤ ckN n L k y ∧ ckN n L k y ≤ k := by
  unfold ckN
  have h1 := List.length_filter_le (fun x => kdL n x == y) (L.take k)
  rw [List.length_take] at h1
  omega
theorem ckN_up {n k : Nat} {L : List (Nat → Nat)} (h : k < L.length) : upC (ckN n L k) (kdL n (L.getD k id)) (ckN n L k (kdL n (L.getD k id)) + 1) = ckN n L (k + 1) := by
  funext y
  unfold upC ckN
  rw [List.take_add_one, List.filter_append, List.length_append]
  have e : L[k]? = some (L.getD k id) := by simp [h]
  rw [e]
  by_cases hy : y = kdL n (L.getD k id)
  · subst hy
    simp
  · rw [if_neg hy]
    have : (kdL n (L.getD k id) == y) = false := beq_eq_false_iff_ne.2 (fun e => hy e.symm)
    rw [Option.toList_some, List.filter_cons_of_neg (by rw [this]; simp)]
    simp
theorem kinds_bad (n : Int) (v : Value) (ll : List (List Int)) (w : World) (hl : RL w v ll) (hE : grpE n ll ≠ 0) :
    Calls Try.prog 65 #[.int .i64 n, v] w fun e w' => e = .returned (.tuple #[.map none, .int .i64 0, .int .i64 (grpE n ll)]) ∧ Below w.heap.size w w' := by
  have HO := hid (All_bad n v ll w hl hE)
  obtain ⟨a, c, N, rfl, hN, hc1, hc2⟩ := hl.open
  have hb : (grpE n ll != 0) = true := bne_iff_ne.2 hE
  clear hE hl hc2
  generalize grpE n ll = E at *
  go_enter Try.func65, Try.ntmps65
  go_wp2_with fail
  refine HO.out.mono ?_
  rintro e w1 ⟨rfl, hb1⟩
  have HB := hid hb1
  clear hb1
  go_wp2
  go_ret3
  exact ⟨rfl, HB.out⟩

set_option maxHeartbeats 4000000 in
set_option maxRecDepth 100000 in
theorem kinds_ok (n : Nat) (v : Value) (ll : List (List Int)) (w : World) (hl : RL w v ll) (hE : grpE (n : Int) ll = 0) :
    Calls Try.prog 65 #[.int .i64 n, v] w fun e w' => (∃ b, e = .returned (.tuple #[.map (some b), .int .i64 ((GL n (msL n ll)).length : Nat), .int .i64 0]) ∧ w.heap.size ≤ b ∧ KC w' b (3 * (GL n (msL n ll)).length) (skS n (GL n (msL n ll)) (GL n (msL n ll)).length) (ckN n (GL n (msL n ll)) (GL n (msL n ll)).length)) ∧ Below w.heap.size w w' := by
  have HO := hid (All_ok n v ll w hl hE)
  obtain ⟨n', hn', hG⟩ := gok_of hE
  obtain rfl : n = n' := by omega
  have hn7 := hG.n7
  have hn1 := hG.n1
  have hlen := GL_len9 hG
  have hfb := fac7 n hn7
  have hLm := GL_mv hG
  have HRL := hid (fun B U w1 q (h : OL B U w1 q ((GL n (msL n ll)).map (elL n))) => h.rlm (by omega) hn7)
  obtain ⟨a, c, N, rfl, hN, hc1, hc2⟩ := hl.open
  clear hE hl hc2 hG hn'
  generalize GL n (msL n ll) = L at *
  have HKO := hid (fun (u : Value) (x : Nat → Nat) (w1 : World) (hu : Sl w1 u (elL n x)) (hx : Mv n x) => kindof_ok u x n w1 hn1 hn7 hu hx)
  have HKY := hid (fun (k : Nat) (hk : k < L.length) => (kindKey (x := kdF (L.getD k id) n n) (fun i _ => by have := kd_le (L.getD k id) n n i; omega)))
  have HMV := hid (fun (k : Nat) (hk : k < L.length) => hLm _ (getD_mem hk id))
  have HS0 : Hid (skS n L 0 = []) := hid rfl
  have HSS : Hid (∀ k, skS n L (k + 1) = ins (kdL n (L.getD k id)) (skS n L k)) := hid (fun k => rfl)
  have HC0 : Hid (ckN n L 0 = fun _ => 0) := hid (by funext y; simp [ckN])
  have HCS := hid (fun k (h : k < L.length) => ckN_up (n := n) (L := L) (k := k) h)
  have HCL := hid (ckN_le n L)
  have HKD : Hid (∀ x, kF (kdI (kdF x n n)) = kF (kdL n x)) := hid (fun x => rfl)
  have HMA := hid (fun (w1 : World) (u : Value) (h : RL w1 u (L.map (elL n))) i (hi : i < L.length) => h.mvAt hi)
  have HLL : Hid ((L.map (elL n)).length = L.length) := hid (by simp)
  generalize skS n L = SK at *
  generalize ckN n L = CK at *
  obtain ⟨M, hM⟩ : ∃ M, L.length = M := ⟨_, rfl⟩
  rw [hM] at hlen HKY HMV HCS HMA HLL ⊢
  clear hM hLm
  have hmm := @run_makeMap Try.prog
  go_enter Try.func65, Try.ntmps65
  go_wp2_with fail
  refine HO.out.mono ?_
  rintro e w1 ⟨⟨r, rfl, hr⟩, hb1⟩
  obtain ⟨ra, rc, er⟩ := hr.len
  rw [HLL.out] at er
  subst er
  have H1 := hid (And.intro (HRL.out _ _ _ _ hr) hb1)
  clear hr hb1
  have HKN := hid (KC.new w1)
  have hb0 : Below w1.heap.size w1 (w1.alloc (.map #[] 0)) := (Below.refl _ _).alloc (Nat.le_refl _) _
  have HB0 := hid hb0
  clear hb0
  go_wp2_with fail
  go_loopw [11, 24] (fun _ i wr => ∃ k : Nat, i = .int .i64 k ∧ k ≤ M ∧ KC wr w1.heap.size (3 * k) (SK k) (CK k) ∧ Below w1.heap.size w1 wr) (fun _ i _ => M - (intOf i).toNat)
  case atStart => exact ⟨0, rfl, Nat.zero_le _, by rw [HS0.out, HC0.out]; exact HKN.out, HB0.out⟩
  case round =>
    obtain ⟨k, rfl, hk, hkc, hb⟩ := hrel
    by_cases hlt : k < M
    · have hki : (k : Int) < (M : Int) := by omega
      obtain ⟨x, hx⟩ : ∃ x, L.getD k id = x := ⟨_, rfl⟩
      obtain ⟨g1, o1, c1, a1, d1, e1, hg1, hc1', hs1⟩ := HMA.out w1 _ H1.out.1 k hlt
      simp only [Value.slice.injEq] at e1
      obtain ⟨rfl, rfl⟩ : ra = some ⟨g1, o1, none⟩ ∧ rc = c1 := ⟨e1.1, e1.2.2⟩
      have hc2' := (hb.cell (p := ⟨g1, o1 + k, none⟩) hg1).trans hc1'
      have hky := HKY.out k hlt
      have hmv := HMV.out k hlt
      have hcs := HCS.out k hlt
      have hss := HSS.out k
      have hcl := HCL.out k
      rw [hx] at hky hmv hcs hss hs1
      have hkd := HKD.out x
      rw [hkd] at hky
      have HROW := hid (fun w2 (hb2 : Below w1.heap.size w1 w2) => HKO.out (.slice a1 n d1) x w2 (hs1.below hb2) hmv)
      obtain ⟨y, hy⟩ : ∃ y, kdL n x = y := ⟨_, rfl⟩
      rw [hy] at hky hcs hss hkd
      rw [hkd] at HROW
      have hcy := hcl y
      obtain ⟨cy, hcye⟩ : ∃ cy, CK k y = cy := ⟨_, rfl⟩
      rw [hcye] at hcy hcs
      have hwfc : (Lit.int .i64 (cy + 1)).wf = true := WalkArith.wf_i64 (by omega)
      have HLK : Hid (∀ w2 n2 S2, KC w2 w1.heap.size n2 S2 (CK k) → (Instr.lookup 81 (.map (some w1.heap.size)) (kF y) false).run Try.prog w2 = .ok (.int .i64 cy) w2) := hid (fun w2 n2 S2 h => by rw [h.look hky, hcye])
      have HCS' := hid hcs
      have HSS' := hid hss
      have HJ : Hid ((KC wr.drew w1.heap.size (3 * k) (SK k) (CK k) ∨ KC wr.drew w1.heap.size (3 * k + 1) (ins y (SK k)) (CK k)) ∧ Below w1.heap.size w1 wr.drew) := hid ⟨.inl hkc.drew, hb.drew⟩
      have HEN : Hid (∀ w2, (KC w2 w1.heap.size (3 * k) (SK k) (CK k) ∨ KC w2 w1.heap.size (3 * k + 1) (ins y (SK k)) (CK k)) → ∃ (v0 : Value) (st : Nat) (w3 : World), (Instr.mapEntry 81 (.map (some w1.heap.size)) (kF y)).run Try.prog w2 = .ok (.tuple #[v0, .int .i64 ((st : Nat) : Int)]) w3 ∧ w2.grownBy w3 (some w1.heap.size) ∧ KC w3 w1.heap.size (3 * k + 1) (ins y (SK k)) (CK k) ∧ (KC w2 w1.heap.size (3 * k + 1) (ins y (SK k)) (CK k) → w3.heap[w1.heap.size]? = w2.heap[w1.heap.size]?) ∧
          ∀ (w4 : World) (c : Int), w4.heap[w1.heap.size]? = w3.heap[w1.heap.size]? → (Lit.int .i64 c).wf = true → ∃ w5, (Instr.entryStore 81 (.map (some w1.heap.size)) (.int .i64 ((st : Nat) : Int)) (.int .i64 c)).run Try.prog w4 = .ok () w5 ∧ KC w5 w1.heap.size (3 * (k + 1)) (ins y (SK k)) (upC (CK k) y c) ∧ w4.grownBy w5 (some w1.heap.size)) := hid (fun w2 h => by
        by_cases h2 : KC w2 w1.heap.size (3 * k + 1) (ins y (SK k)) (CK k)
        · obtain ⟨v0, st, w3, e1, e2, e3, _, e5⟩ := h2.entry (by omega) hky
          have hyS : y ∈ ins y (SK k) := mem_ins.2 (.inl rfl)
          refine ⟨v0, st, w3, e1, e2, (e3 hyS).1, fun _ => (e3 hyS).2, fun w4 c e6 hc => ?_⟩
          obtain ⟨w5, f1, f2, f3⟩ := e5 w4 c e6 hc
          rw [show ins y (ins y (SK k)) = ins y (SK k) from if_pos hyS] at f2
          exact ⟨w5, f1, f2.mono (by omega), f3⟩
        · have h1 := h.resolve_right h2
          obtain ⟨v0, st, w3, e1, e2, _, e4, e5⟩ := h1.entry (by omega) hky
          refine ⟨v0, st, w3, e1, e2, e4, fun h3 => absurd h3 h2, fun w4 c e6 hc => ?_⟩
          obtain ⟨w5, f1, f2, f3⟩ := e5 w4 c e6 hc
          exact ⟨w5, f1, f2.mono (by omega), f3⟩)
      clear hkc hb hs1 hx e1 hc1' hcs hss hcl hkd hmv hy hcye hky
      go_wp2_with fail
      refine region_dagJL [28, 29, 30, 31, 32, 33, 34] [fun v _ => v = .map (some w1.heap.size), fun v _ => v = .slice a1 n d1, fun v _ => v = kF y, fun v _ => v = .int .i64 cy, fun v _ => v = .int .i64 (cy + 1),
          fun v w2 => ∃ (v0 : Value) (st : Nat), v = .tuple #[v0, .int .i64 ((st : Nat) : Int)] ∧ KC w2 w1.heap.size (3 * k + 1) (ins y (SK k)) (CK k) ∧ ∀ (w4 : World) (c : Int), w4.heap[w1.heap.size]? = w2.heap[w1.heap.size]? → (Lit.int .i64 c).wf = true → ∃ w5, (Instr.entryStore 81 (.map (some w1.heap.size)) (.int .i64 ((st : Nat) : Int)) (.int .i64 c)).run Try.prog w4 = .ok () w5 ∧ KC w5 w1.heap.size (3 * (k + 1)) (ins y (SK k)) (upC (CK k) y c) ∧ w4.grownBy w5 (some w1.heap.size),
          fun v w2 => ∃ (st : Nat), v = .int .i64 ((st : Nat) : Int) ∧ KC w2 w1.heap.size (3 * k + 1) (ins y (SK k)) (CK k) ∧ ∀ (w4 : World) (c : Int), w4.heap[w1.heap.size]? = w2.heap[w1.heap.size]? → (Lit.int .i64 c).wf = true → ∃ w5, (Instr.entryStore 81 (.map (some w1.heap.size)) (.int .i64 ((st : Nat) : Int)) (.int .i64 c)).run Try.prog w4 = .ok () w5 ∧ KC w5 w1.heap.size (3 * (k + 1)) (ins y (SK k)) (upC (CK k) y c) ∧ w4.grownBy w5 (some w1.heap.size)]
        (fun w2 => (KC w2 w1.heap.size (3 * k) (SK k) (CK k) ∨ KC w2 w1.heap.size (3 * k + 1) (ins y (SK k)) (CK k)) ∧ Below w1.heap.size w1 w2)
        (fun w2 w3 => KC w2 w1.heap.size (3 * k + 1) (ins y (SK k)) (CK k) → w3.heap[w1.heap.size]? = w2.heap[w1.heap.size]?)
        (by kernel_rfl) (by kernel_rfl) rfl rfl
        ⟨KpJ_eq _, KpJ_eq _, KpJ_eq _, KpJ_eq _, KpJ_eq _, ?_, ?_, trivial⟩ HJ.out
        ⟨fun a w K hj hf hd hK => dag_move _ rfl (hK _ _ (hf 9 rfl) hj (fun _ => rfl)), fun a w K hj hf hd hK => dag_move _ rfl (hK _ _ (hf 11 rfl) hj (fun _ => rfl)), ?_, ?_, ?_, ?_, ?_, trivial⟩ ?_
      · rintro v w2 w3 ⟨v0, st, e1, e2, e3⟩ _ _ hT
        have e := hT e2
        exact ⟨v0, st, e1, e2.block e, fun w4 c h hc => e3 w4 c (h.trans e) hc⟩
      · rintro v w2 w3 ⟨st, e1, e2, e3⟩ _ _ hT
        have e := hT e2
        exact ⟨st, e1, e2.block e, fun w4 c h hc => e3 w4 c (h.trans e) hc⟩
      · intro a w2 K hj hf hd hK
        have h1 : a.eval (.tmp 29) = .slice a1 n d1 := hd 1 (by decide) (by kernel_rfl)
        refine dag_call 88 _ _ #[.slice a1 n d1] rfl (by simp [h1]) Try.f88 rfl (by kernel_rfl) (by kernel_rfl) ((HROW.out w2 hj.2).mono ?_)
        rintro e w3 ⟨rfl, hb3⟩
        have hbl : w1.heap.size < w2.heap.size := by
          rcases hj.1 with h | h
          · exact h.lt
          · exact h.lt
        refine ⟨_, rfl, hK _ _ rfl ⟨?_, hj.2.trans (hb3.mono hj.2.size)⟩ (fun _ => hb3.block _ hbl)⟩
        rcases hj.1 with h | h
        · exact .inl (h.below hb3)
        · exact .inr (h.below hb3)
      · intro a w2 K hj hf hd hK
        have h0 : a.tmps[28]?.getD undef = .map (some w1.heap.size) := ev_tmp (hd 0 (by decide) (by kernel_rfl))
        have h2 : a.tmps[30]?.getD undef = kF y := ev_tmp (hd 2 (by decide) (by kernel_rfl))
        have hlk : (Instr.lookup 81 (.map (some w1.heap.size)) (kF y) false).run Try.prog w2 = .ok (.int .i64 cy) w2 := by
          rcases hj.1 with h | h
          · exact HLK.out _ _ _ h
          · exact HLK.out _ _ _ h
        refine dag_val _ ?_ (hK _ _ rfl hj (fun _ => rfl))
        clear hK hf hd
        go_simp
      · intro a w2 K hj hf hd hK
        have h3 : a.tmps[31]?.getD undef = .int .i64 cy := ev_tmp (hd 3 (by decide) (by kernel_rfl))
        have hw : IntKind.i64.wrap (cy + 1) = cy + 1 := IntWalk.i64_in _ (by omega)
        refine dag_val _ ?_ (hK _ _ rfl hj (fun _ => rfl))
        clear hK hf hd
        go_simp
      · intro a w2 K hj hf hd hK
        have h0 : a.tmps[28]?.getD undef = .map (some w1.heap.size) := ev_tmp (hd 0 (by decide) (by kernel_rfl))
        have h2 : a.tmps[30]?.getD undef = kF y := ev_tmp (hd 2 (by decide) (by kernel_rfl))
        obtain ⟨v0, st, w3, e1, e2, e3, e4, e5⟩ := HEN.out w2 hj.1
        have hb3 : Below w1.heap.size w1 w3 := hj.2.grown e2 hj.2.size (fun b e => by cases e; exact Nat.le_refl _)
        unfold Oper.wp
        simp [execOp, h0, h2, e1, Result.andThen, Act.eval]
        exact hK _ _ ⟨v0, st, rfl, e3, e5⟩ ⟨.inr e3, hb3⟩ e4
      · intro a w2 K hj hf hd hK
        obtain ⟨v0, st, e1, e2, e3⟩ := hd 5 (by decide) (by kernel_rfl)
        have h5 : a.tmps[33]?.getD undef = .tuple #[v0, .int .i64 ((st : Nat) : Int)] := ev_tmp e1
        refine dag_val (.int .i64 ((st : Nat) : Int)) ?_ (hK _ _ ⟨st, rfl, e2, e3⟩ hj (fun _ => rfl))
        clear hK hf hd
        go_simp
      · rintro vals w6 ⟨h0, h1, h2, h3, h4, h5, ⟨st, h6, e2, e3⟩, _⟩ hj6
        simp only [Nat.reduceAdd] at h0 h1 h2 h3 h4 h5 h6
        simp only [putAll, Act.put, List.setIfInBounds_toArray, List.set_cons_zero, List.set_cons_succ, List.drop_succ_cons, List.drop_zero, List.length_cons, List.length_nil, Nat.reduceAdd]
        rw [h0, h1, h2, h3, h4, h6]
        obtain ⟨w7, f1, f2, f3⟩ := e3 w6 (cy + 1) rfl hwfc
        rw [HCS'.out, ← HSS'.out] at f2
        have HX := hid (And.intro f2 (hj6.2.grown f3 hj6.2.size (fun b e => by cases e; exact Nat.le_refl _)))
        clear h0 h1 h2 h3 h4 h6 h5 e2 e3 hj6 f2 f3
        go_wp2
        go_roundw
        case rel => exact ⟨k + 1, by go_num, by omega, HX.out.1, HX.out.2⟩
        case measure => simp [intOf] <;> omega
    · obtain rfl : k = M := by omega
      have hki : ¬ (k : Int) < (k : Int) := by omega
      have HI := hid (And.intro hkc (H1.out.2.trans (hb.mono H1.out.2.size)))
      have hsz := H1.out.2.size
      clear hkc hb
      go_wp2
      go_ret3
      exact ⟨⟨_, rfl, hsz, HI.out.1⟩, HI.out.2⟩
end Go.Proofs.Ytnbgnoimanpjnaa
