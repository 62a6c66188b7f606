/-
  The walk over group.Deep. Conditions: the slices can be read; numbers of 64 bits.
-/
import Derived.Test.YtnbgnoimanpjnaaGlord
import Derived.Test.YtnbgnoimanpjnaaGel
import Derived.Lib.SliceRun
namespace Go.Proofs.Ytnbgnoimanpjnaa
set_option linter.unusedVariables false
open Go.RowKit Go.Maps

/-- The first t points' images, the others cleared; those of a list. -/
def trF (t : Nat) (x : Nat → Nat) (i : Nat) : Nat := if i < t then x i else 0
def imgS (L : List (Nat → Nat)) (t : Nat) : Nat → List (List Int)
  | 0 => []
  | k + 1 => ins (mvI (trF t (L.getD k id))) (imgS L t k)
def imgN (L : List (Nat → Nat)) (t : Nat) : Nat := (imgS L t L.length).length
/-- n (n - 1) .. of t factors. -/
def fallN (n : Nat) : Nat → Nat
  | 0 => 1
  | t + 1 => fallN n t * (n - t)
/-- How many points at once go everywhere. -/
structure DeepP (n : Nat) (L : List (Nat → Nat)) (r : Nat) : Prop where
  le : r ≤ n
  yes : ∀ s, 1 ≤ s → s ≤ r → fallN n s ≤ imgN L s
  no : r < n → imgN L (r + 1) < fallN n (r + 1)
theorem DeepP.uniq {n r r' : Nat} {L : List (Nat → Nat)} (h : DeepP n L r) (h' : DeepP n L r') : r = r' := by
  rcases Nat.lt_trichotomy r r' with e | e | e
  · have h1 := h.no (by have := h'.le; omega)
    have h2 := h'.yes (r + 1) (by omega) (by omega)
    omega
  · exact e
  · have h1 := h'.no (by have := h.le; omega)
    have h2 := h.yes (r' + 1) (by omega) (by omega)
    omega
theorem fall_bd : ∀ n, n ≤ 7 → ∀ t, t ≤ n → 1 ≤ fallN n t ∧ fallN n t ≤ 5040 := by
  intro n hn t ht
  have : ∀ m : Fin 8, ∀ k : Fin 8, k.1 ≤ m.1 → 1 ≤ fallN m.1 k.1 ∧ fallN m.1 k.1 ≤ 5040 := by decide +kernel
  exact this ⟨n, by omega⟩ ⟨t, by omega⟩ ht
theorem imgS_le (L : List (Nat → Nat)) (t : Nat) : ∀ k, (imgS L t k).length ≤ k
  | 0 => Nat.le_refl _
  | k + 1 => by
    have ih := imgS_le L t k
    unfold imgS ins
    split
    · omega
    · simp only [List.length_cons]; omega
theorem trF_lt {t : Nat} {x : Nat → Nat} (h : ∀ i, i < 7 → x i < 7) : ∀ i, i < 7 → trF t x i < 7 := fun i hi => by
  unfold trF
  split
  · exact h i hi
  · omega
/-- 'clear' of an array's cells from t on. -/
theorem wpList_clearM {ops : Array Oper} {rest : List Oper} {o : Oper} {a : Act} {w : World} {Q : Exit → Act → World → Prop} (s : Operand) (hgd : o.guard = none) (ho : o.op = .call { callee := .builtin .clear, args := #[s], argTypes := #[23] }) (hd : o.dst = none)
    (b t n c : Nat) (ad : Option Addr) (x : Nat → Nat) (hs : a.eval s = .slice ad n c) (hn : n = 7 - t) (ht : t ≤ 7) (had : 0 < n → ad = some ⟨b, t, none⟩) (hA : Arr w b 68 (mvC x))
    (h : ∀ w', Arr w' b 68 (mvC (trF t x)) → w.grownBy w' (some b) → wpList Try.prog ops Q rest a w') : wpList Try.prog ops Q (o :: rest) a w := by
  refine wpList_plain hgd fun K hK => ?_
  have key : ∃ w', (Builtin.clear_ #[23] o.type #[.slice ad n c]).run Try.prog w = .ok (.tuple #[]) w' ∧ Arr w' b 68 (mvC (trF t x)) ∧ w.grownBy w' (some b) := by
    by_cases h0 : n = 0
    · subst h0
      have hx : mvC (trF t x) = mvC x := mvC_congr fun i hi => by unfold trF; rw [if_pos (by omega)]
      refine ⟨w, ?_, by rw [hx]; exact hA, World.grownBy.refl _ _⟩
      cases ad <;> simp [Builtin.clear_, run_underlying Try.underlying23]
    · obtain rfl := had (by omega)
      refine ⟨w.setCells b t (List.replicate n (.int .i64 0)), Lib.run_clear_slice w 23 3 o.type (.int .i64 0) Try.underlying23 Try.zeroValue3 rfl rfl b t n c (by omega) (fun j hj => ?_) (fun j hj => hA.frozen _), ?_, grown_setCells _ _ _⟩
      · rw [hA.cell, mvC_get (by omega)]
        rfl
      · have h1 := Arr.setCells (b := b) (t := 68) (List.replicate n (.int .i64 0)) ((mvC x).take t) ((mvC x).drop t) w (by rw [List.take_append_drop]; exact hA) (by rw [List.length_drop, mvC_len, List.length_replicate]; omega)
        rw [List.length_take, mvC_len, show min t 7 = t by omega] at h1
        have e : (mvC x).take t ++ List.replicate n (.int .i64 0) = mvC (trF t x) := by
          refine List.ext_getElem? fun i => ?_
          by_cases hi : i < 7
          · rw [mvC_get hi]
            by_cases hit : i < t
            · rw [List.getElem?_append_left (by rw [List.length_take, mvC_len]; omega), List.getElem?_take_of_lt hit, mvC_get hi]
              simp [trF, hit]
            · rw [List.getElem?_append_right (by rw [List.length_take, mvC_len]; omega), List.length_take, mvC_len, List.getElem?_replicate, if_pos (by omega)]
              simp [trF, hit]
          · rw [List.getElem?_eq_none (by rw [List.length_append, List.length_take, mvC_len, List.length_replicate]; omega), List.getElem?_eq_none (by rw [mvC_len]; omega)]
        rw [e] at h1
        exact h1
  obtain ⟨w', h1, h2, h3⟩ := key
  unfold Oper.wp execOp
  simp only [ho, resolve, invoke, builtin, Sem.run_bind, Sem.run_pure, Result.andThen_ok, List.map_toArray, List.map_cons, List.map_nil, hs, h1]
  have := hK _ _ (h w' h2 h3)
  simpa [Oper.upon, hd, Act.put] using this

/-- 'a[t:]' of an array. -/
theorem wpList_sliceM {ops : Array Oper} {rest : List Oper} {o : Oper} {a : Act} {w : World} {Q : Exit → Act → World → Prop} (x lo : Operand) (hgd : o.guard = none) (ho : o.op = .slice 68 x (some lo) none none)
    (b t : Nat) (hx : a.eval x = .pointer (some ⟨b, 0, none⟩)) (hlo : a.eval lo = .int .i64 ((t : Int) + 1)) (ht : t + 1 ≤ 7)
    (h : ∀ ad n c, n = 7 - (t + 1) → (0 < n → ad = some ⟨b, t + 1, none⟩) → wpList Try.prog ops Q rest (a.put o.dst (.slice ad n c)) w) : wpList Try.prog ops Q (o :: rest) a w := by
  refine wpList_plain hgd fun K hK => ?_
  have hl : Try.prog.arrayLen 68 = 7 := by kernel_rfl
  have he : Try.prog.elem 68 = 3 := by kernel_rfl
  have hu : Try.prog.underlying 68 = some (.array (Try.prog.arrayLen 68) (Try.prog.elem 68)) := by rw [hl, he]; exact Try.underlying68
  have h1 := run_sliceAt_array_l (P := Try.prog) (w := w) 68 ⟨b, 0, none⟩ hu .i64 ((t : Int) + 1) (by omega) (by rw [hl]; omega)
  rw [he, Try.sizeOf3, hl] at h1
  unfold Oper.wp execOp
  simp only [ho, hx, hlo, Option.map_some, Option.map_none, Sem.run_bind, Sem.run_pure, Result.andThen_ok, h1]
  refine hK _ _ (h _ _ _ ?_ ?_)
  · omega
  · intro h0
    have ht0 : ((t : Int) + 1).toNat = t + 1 := by omega
    rw [ht0] at h0 ⊢
    rw [if_neg (by omega), Nat.mul_one, Addr.add_mid, Nat.zero_add]

theorem deep_bad (n : Int) (v : Value) (ll : List (List Int)) (w : World) (hl : RL w v ll) (hE : grpE n ll ≠ 0) :
    Calls Try.prog 34 #[.int .i64 n, v] w fun e w' => e = .returned (.tuple #[.int .i64 0, .int .i64 (grpE n ll)]) ∧ Below w.heap.size w w' := by
  have HO := hid (gopen_bad n v ll w hl hE)
  obtain ⟨a, c, N, rfl, hN, hc1, hc2⟩ := hl.open
  have hb : (grpE n ll != 0) = true := bne_iff_ne.2 hE
  clear hE hl hc2
  generalize grpE n ll = E at *
  go_enter Try.func34, Try.ntmps34
  go_wp2_with fail
  refine HO.out.mono ?_
  rintro e w1 ⟨rfl, hb1⟩
  have HB := hid hb1
  clear hb1
  go_wp2
  go_ret2
  exact ⟨rfl, HB.out⟩

set_option maxHeartbeats 4000000 in
set_option maxRecDepth 100000 in
theorem deep_ok (n : Nat) (v : Value) (ll : List (List Int)) (w : World) (hl : RL w v ll) (hE : grpE (n : Int) ll = 0) :
    Calls Try.prog 34 #[.int .i64 n, v] w fun e w' => (∃ r : Nat, e = .returned (.tuple #[.int .i64 (r : Nat), .int .i64 0]) ∧ DeepP n (GL n (msL n ll)) r) ∧ Below w.heap.size w w' := by
  have HO := hid (gopen_ok n v ll w hl hE)
  obtain ⟨n', hn', hG⟩ := gok_of hE
  obtain rfl : n = n' := by omega
  have hn7 := hG.n7
  have hlen := GL_len9 hG
  have hfb := fac7 n hn7
  have HLT := hid (fun k (hk : k < (GL n (msL n ll)).length) => (GL_mv hG _ (getD_mem hk id)).lt7 hn7)
  obtain ⟨a, c, N, rfl, hN, hc1, hc2⟩ := hl.open
  clear hE hl hc2 hG hn'
  generalize GL n (msL n ll) = L at *
  have HDP : Hid (∀ r, r ≤ n → (∀ s, 1 ≤ s → s ≤ r → fallN n s ≤ imgN L s) → (r < n → imgN L (r + 1) < fallN n (r + 1)) → DeepP n L r) := hid (fun r h1 h2 h3 => ⟨h1, h2, h3⟩)
  have HS0 : Hid (∀ t, imgS L t 0 = []) := hid (fun t => rfl)
  have HSS : Hid (∀ t k, imgS L t (k + 1) = ins (mvI (trF t (L.getD k id))) (imgS L t k)) := hid (fun t k => rfl)
  have HSN : Hid (∀ t, (imgS L t L.length).length = imgN L t) := hid (fun t => rfl)
  have HSL := hid (imgS_le L)
  have HF0 : Hid (fallN n 0 = 1) := hid rfl
  have HFS : Hid (∀ t, fallN n (t + 1) = fallN n t * (n - t)) := hid (fun t => rfl)
  have HFB := hid (fall_bd n hn7)
  generalize DeepP n L = DP at *
  generalize imgN L = IN at *
  generalize imgS L = IS at *
  generalize fallN n = FN at *
  obtain ⟨M, hM⟩ : ∃ M, L.length = M := ⟨_, rfl⟩
  have HM := hid hM
  rw [hM] at hlen HLT HSN
  clear hM
  go_enter Try.func34, Try.ntmps34
  go_wp2_with fail
  refine HO.out.mono ?_
  rintro e w1 ⟨⟨s, r, rfl, hs, hr⟩, hb1⟩
  obtain ⟨a3, c3, e3⟩ := hs.len
  subst e3
  obtain ⟨og, oc, er, _, hog⟩ := hr.form (by rw [HM.out]; omega)
  rw [HM.out] at er
  subst er
  have H1 := hid (And.intro hr hb1)
  clear hb1 hs hr HO
  have hmm := @run_makeMap Try.prog
  go_wp2_with fail
  go_loopw [9, 10, 11, 12, 13] (fun v9 v10 _ _ _ wr => ∃ k : Nat, v10 = .int .i64 ((k : Int) + 1) ∧ k ≤ n ∧ v9 = .int .i64 (FN k : Nat) ∧ Hid (∀ s, 1 ≤ s → s ≤ k → FN s ≤ IN s) ∧ OM w.heap.size wr (.slice (some ⟨og, 0, none⟩) M oc) L ∧ Below w.heap.size w wr) (fun _ v10 _ _ _ _ => n + 2 - (intOf v10).toNat)
  case atStart => exact ⟨0, rfl, Nat.zero_le _, by rw [HF0.out]; rfl, hid (fun s h1 h2 => by omega), H1.out.1, H1.out.2⟩
  case round =>
    clear H1
    obtain ⟨k, rfl, hk, rfl, HY, hr, hb⟩ := hrel
    obtain ⟨W0, hW0⟩ : ∃ W0, W0 = wr := ⟨_, rfl⟩
    subst hW0
    by_cases hlt : k < n
    · have hki : (k : Int) + 1 ≤ (n : Int) := by omega
      have hfk := HFB.out k hk
      have hfk1 := HFB.out (k + 1) hlt
      have hfs := HFS.out k
      have hmul : ((FN k : Nat) : Int) * ((n : Int) - ((k : Int) + 1) + 1) = ((FN (k + 1) : Nat) : Int) := by
        rw [hfs, Int.natCast_mul]
        congr 1
        omega
      have HI := hid (And.intro hr hb)
      have HKM := hid (KM.new (κ := List Int) 68 kF W0)
      have hb0 : Below W0.heap.size W0 (W0.alloc (.map #[] 0)) := (Below.refl _ _).alloc (Nat.le_refl _) _
      have HB0 := hid hb0
      have hk7 : k + 1 ≤ 7 := by omega
      have hk7i : (k : Int) + 1 ≤ 7 := by omega
      have hk0i : (0 : Int) ≤ (k : Int) + 1 := by omega
      clear hr hb hfs hb0
      go_wp2_with fail
      go_loopw [12, 13, 38] (fun _ _ i wr => ∃ q : Nat, i = .int .i64 q ∧ q ≤ M ∧ KM 68 kF wr W0.heap.size q (IS (k + 1) q) ∧ OM w.heap.size wr (.slice (some ⟨og, 0, none⟩) M oc) L ∧ Below w.heap.size w wr ∧ W0.heap.size < wr.heap.size) (fun _ _ i _ => M - (intOf i).toNat)
      case atStart => exact ⟨0, rfl, Nat.zero_le _, by rw [HS0.out]; exact HKM.out, HI.out.1.below HB0.out, HI.out.2.trans (HB0.out.mono HI.out.2.size), by simp⟩
      case round =>
        obtain ⟨q, rfl, hq, hkm, hr, hb, hsz⟩ := hrel
        by_cases hqM : q < M
        · have hqi : (q : Int) < (M : Int) := by omega
          obtain ⟨x, hx⟩ : ∃ x, L.getD q id = x := ⟨_, rfl⟩
          have hrx := hr.range (i := q) (by rw [HM.out]; exact hqM)
          have hxl := HLT.out q hqM
          have hss := HSS.out (k + 1) q
          rw [hx] at hrx hxl hss
          have HSq := hid hss
          have hkey := moveKey (trF_lt (t := k + 1) hxl)
          rw [mvV_kF] at hkey
          have ix : (Try.prog.info? 68).map (·.size) = some (mvC x).length := by rw [mvC_len]; exact mv_info
          have HAZ := hid (Arr.new wr 68 (mvC fun _ => 0))
          have HI2 := hid (And.intro hkm (And.intro hr (And.intro hb hsz)))
          have hqw : (Lit.int .i64 ((q : Nat) : Int)).wf = true := WalkArith.wf_i64 (by omega)
          have hqm : q < maxLen := by unfold maxLen; omega
          clear hkm hr hb hx hss hxl
          go_wp2_with (first
            | (refine wpList_load_mid rfl 68 _ rfl og (q * 7) rfl (mvC x) _ hrx Try.underlying68 rfl ix ?_; clear hrx)
            | (refine wpList_store_arr rfl 68 _ _ rfl wr.heap.size (mvC x) rfl rfl HAZ.out (by rw [mvC_len, mvC_len]) ix (mvC_one _) ?_
               intro w5 hA5 hg5
               have hB5 : Below wr.heap.size wr w5 := ((Below.refl _ _).alloc (Nat.le_refl _) _).grown hg5 (by simp) (fun b e => by cases e; exact Nat.le_refl _)
               have H5 := hid (And.intro hA5 hB5)
               clear hA5 hg5 hB5)
            | (refine wpList_sliceM _ _ rfl rfl wr.heap.size k rfl rfl hk7 ?_; intro ad sn sc hsn had)
            | (refine wpList_clearM _ rfl rfl rfl wr.heap.size (k + 1) sn sc ad x rfl hsn hk7 had H5.out.1 ?_
               intro w6 hA6 hg6
               have hB6 : Below wr.heap.size wr w6 := H5.out.2.grown hg6 H5.out.2.size (fun b e => by cases e; exact Nat.le_refl _)
               have r6 := hA6.range
               have H6 := hid (And.intro (HI2.out.1.below hB6) hB6)
               have i6 : (Try.prog.info? 68).map (·.size) = some (mvC (trF (k + 1) x)).length := by rw [mvC_len]; exact mv_info
               clear hA6 hg6 hB6)
            | (refine wpList_load_mid rfl 68 _ rfl wr.heap.size 0 rfl (mvC (trF (k + 1) x)) _ r6 Try.underlying68 rfl i6 ?_; clear r6)
            | (refine wpList_km rfl _ _ _ 77 rfl 68 kF moveLaw kF_inj Try.underlying77 W0.heap.size q (IS (k + 1) q) rfl H6.out.1 hqm (mvI (trF (k + 1) x)) ((q : Nat) : Int) (mvV_kF (trF (k + 1) x)) rfl hkey hqw ?_
               intro w7 hkm7 hg7)
            | fail)
          rw [← HSq.out] at hkm7
          have hogW := (HI.out.1.lt og rfl).2
          have hB6 := H6.out.2
          have hr7 := (HI2.out.2.1.below hB6).kept hg7 (.inr (by simp [Value.ownBlock]; omega))
          have hb7 := (HI2.out.2.2.1.trans (hB6.mono HI2.out.2.2.1.size)).grown hg7 (Nat.le_trans HI2.out.2.2.1.size hB6.size) (fun b e => by cases e; exact HI.out.2.size)
          have HX := hid (And.intro hkm7 (And.intro hr7 (And.intro hb7 (Nat.lt_of_lt_of_le HI2.out.2.2.2 (Nat.le_trans hB6.size hg7.size)))))
          clear hkm7 hg7 hB6 hr7 hb7
          go_roundw
          case rel => exact ⟨q + 1, by go_num, by omega, HX.out.1, HX.out.2.1, HX.out.2.2.1, HX.out.2.2.2⟩
          case measure => simp [intOf] <;> omega
        · obtain rfl : q = M := by omega
          have hqi : ¬ (q : Int) < (q : Int) := by omega
          have hsn := HSN.out (k + 1)
          have hsl := HSL.out (k + 1) q
          rw [hsn] at hsl
          have HI2 := hid (And.intro hkm (And.intro hr hb))
          have HSNk := hid hsn
          clear hkm hr hb hsn
          by_cases hc : IN (k + 1) < FN (k + 1)
          · have hci : ((IN (k + 1) : Nat) : Int) < ((FN (k + 1) : Nat) : Int) := by omega
            have HD := hid (HDP.out k (by omega) HY.out (fun _ => hc))
            go_wp2_with (first
              | (refine wpList_kmlen rfl _ 77 rfl 68 kF Try.underlying77 W0.heap.size q (IS (k + 1) q) rfl HI2.out.1 ?_; rw [HSNk.out])
              | fail)
            go_ret2
            exact ⟨⟨k, by go_num, HD.out⟩, HI2.out.2.2⟩
          · have hci : ¬ ((IN (k + 1) : Nat) : Int) < ((FN (k + 1) : Nat) : Int) := by omega
            have HY2 : Hid (∀ s, 1 ≤ s → s ≤ k + 1 → FN s ≤ IN s) := hid (fun s h1 h2 => by
              by_cases e : s = k + 1
              · rw [e]; omega
              · exact HY.out s h1 (by omega))
            go_wp2_with (first
              | (refine wpList_kmlen rfl _ 77 rfl 68 kF Try.underlying77 W0.heap.size q (IS (k + 1) q) rfl HI2.out.1 ?_; rw [HSNk.out])
              | fail)
            go_roundw
            case rel => exact ⟨k + 1, by go_num, by omega, rfl, HY2, HI2.out.2.1, HI2.out.2.2⟩
            case measure => simp [intOf] <;> omega
    · obtain rfl : k = n := by omega
      have hki : ¬ (k : Int) + 1 ≤ (k : Int) := by omega
      have HD := hid (HDP.out k (Nat.le_refl _) HY.out (fun h => by omega))
      have HB := hid hb
      clear hr hb
      go_wp2
      go_ret2
      exact ⟨⟨k, rfl, HD.out⟩, HB.out⟩
end Go.Proofs.Ytnbgnoimanpjnaa
