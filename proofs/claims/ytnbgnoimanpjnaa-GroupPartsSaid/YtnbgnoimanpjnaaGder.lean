/-
  The walk over group.Derived. Conditions: the slices can be read; numbers of 64 bits.
-/
import Derived.Test.YtnbgnoimanpjnaaGord
import Derived.Test.YtnbgnoimanpjnaaGapp
import Derived.Test.YtnbgnoimanpjnaaGel
import Derived.Test.YtnbgnoimanpjnaaGcom
import Derived.Deep.LoopGhost
namespace Go.Proofs.Ytnbgnoimanpjnaa
set_option linter.unusedVariables false
open Go.RowKit

/-- The makers' commutators, so far. -/
structure CI (n : Nat) (ms l : List (Nat → Nat)) (i j : Nat) : Prop where
  sub : ∀ x ∈ l, ∃ a b, a ∈ ms ∧ b ∈ ms ∧ x = comF n a b
  far : ∀ k, k < i → ∀ b ∈ ms, comF n (ms.getD k id) b ∈ l
  now : ∀ t, t < j → comF n (ms.getD i id) (ms.getD t id) ∈ l
  len : l.length = i * ms.length + j
section
variable {n : Nat} {ms l : List (Nat → Nat)} {i j : Nat}
theorem CI.start (n : Nat) (ms : List (Nat → Nat)) : CI n ms [] 0 0 := ⟨by simp, fun k h => by omega, fun t h => by omega, by simp⟩
theorem CI.add (h : CI n ms l i j) (hi : i < ms.length) (hj : j < ms.length) : CI n ms (l ++ [comF n (ms.getD i id) (ms.getD j id)]) i (j + 1) := by
  refine ⟨fun x hx => ?_, fun k hk b hb => List.mem_append_left _ (h.far k hk b hb), fun t ht => ?_, by rw [List.length_append, h.len]; simp [Nat.add_assoc]⟩
  · rcases List.mem_append.1 hx with hx | hx
    · exact h.sub x hx
    · exact ⟨_, _, getD_mem hi id, getD_mem hj id, List.mem_singleton.1 hx⟩
  · by_cases e : t = j
    · rw [e]; simp
    · exact List.mem_append_left _ (h.now t (by omega))
theorem CI.next (h : CI n ms l i ms.length) : CI n ms l (i + 1) 0 := by
  refine ⟨h.sub, fun k hk b hb => ?_, fun t ht => by omega, by rw [h.len, Nat.add_mul]; omega⟩
  by_cases e : k = i
  · obtain ⟨t, ht, rfl⟩ := List.mem_iff_getElem.1 hb
    have := h.now t ht
    rw [e]
    rwa [List.getD_eq_getElem?_getD (l := ms) (i := t), List.getElem?_eq_getElem ht] at this
  · exact h.far k (by omega) b hb
/-- What is kept of the list that makes the commutators' group. -/
structure DI (n : Nat) (ms own : List (Nat → Nat)) : Prop where
  com : ∀ a ∈ ms, ∀ b ∈ ms, comF n a b ∈ own
  der : ∀ x ∈ own, GenF (cmL n ms) x
  len : own.length ≤ 16 + (GL n own).length
theorem CI.done (h : CI n ms l ms.length 0) (h4 : ms.length ≤ 4) (hm : ∀ m ∈ ms, Mv n m) : DI n ms l := by
  refine ⟨fun a ha b hb => ?_, fun x hx => ?_, ?_⟩
  · obtain ⟨t, ht, rfl⟩ := List.mem_iff_getElem.1 ha
    have := h.far t ht b hb
    rwa [List.getD_eq_getElem?_getD (l := ms) (i := t), List.getElem?_eq_getElem ht] at this
  · obtain ⟨a, b, ha, hb, rfl⟩ := h.sub x hx
    exact GenF.maker ((mem_cmL hm _).2 ⟨a, b, GenF.maker ha, GenF.maker hb, rfl⟩)
  · have h1 := h.len
    have : ms.length * ms.length ≤ 4 * 4 := Nat.mul_le_mul h4 h4
    omega
theorem DI.mv {own : List (Nat → Nat)} (h : DI n ms own) (hm : ∀ m ∈ ms, Mv n m) : ∀ x ∈ own, Mv n x := fun x hx => (h.der x hx).mv (cmL_mv hm)
theorem DI.add {own : List (Nat → Nat)} (h : DI n ms own) (hm : ∀ m ∈ ms, Mv n m) {x m : Nat → Nat} (hx : x ∈ own) (hmm : m ∈ ms) (hn : ¬ GenF own (cjF n m x)) : DI n ms (own ++ [cjF n m x]) ∧ (GL n own).length + 1 ≤ (GL n (own ++ [cjF n m x])).length := by
  have hd := cm_normal hm (GenF.maker hmm) (h.der x hx)
  have h1 := GL_more (h.mv hm) (hd.mv (cmL_mv hm)) hn
  refine ⟨⟨fun a ha b hb => List.mem_append_left _ (h.com a ha b hb), fun z hz => ?_, ?_⟩, h1⟩
  · rcases List.mem_append.1 hz with hz | hz
    · exact h.der z hz
    · rw [List.mem_singleton.1 hz]; exact hd
  · have := h.len
    rw [List.length_append]
    simp only [List.length_cons, List.length_nil]
    omega
/-- In a round: some change, or all were looked at. -/
structure DR (n : Nat) (ms old own : List (Nat → Nat)) (b : Bool) (i j : Nat) : Prop where
  di : DI n ms own
  pre : old <+: own
  yes : b = true → (GL n old).length + 1 ≤ (GL n own).length
  no : b = false → own = old ∧ (∀ k, k < i → ∀ m ∈ ms, GenF old (cjF n m (old.getD k id))) ∧ ∀ t, t < j → GenF old (cjF n (ms.getD t id) (old.getD i id))
theorem DR.start {own : List (Nat → Nat)} (h : DI n ms own) : DR n ms own own false 0 0 := ⟨h, List.prefix_refl _, (by simp), fun _ => ⟨rfl, fun k h => by omega, fun t h => by omega⟩⟩
theorem DR.getD {old own : List (Nat → Nat)} {b : Bool} (h : DR n ms old own b i j) (hi : i < old.length) : old.getD i id ∈ own := h.pre.subset (getD_mem hi id)
theorem DR.there {old own : List (Nat → Nat)} {b : Bool} (h : DR n ms old own b i j) (hj : j < ms.length) (hy : GenF own (cjF n (ms.getD j id) (old.getD i id))) : DR n ms old own b i (j + 1) := by
  refine ⟨h.di, h.pre, h.yes, fun hb => ?_⟩
  obtain ⟨h1, h2, h3⟩ := h.no hb
  refine ⟨h1, h2, fun t ht => ?_⟩
  by_cases e : t = j
  · rw [e, ← h1]
    rw [← h1] at hy
    exact hy
  · exact h3 t (by omega)
theorem DR.add {old own : List (Nat → Nat)} {b : Bool} (h : DR n ms old own b i j) (hm : ∀ m ∈ ms, Mv n m) (hi : i < old.length) (hj : j < ms.length) (hy : ¬ GenF own (cjF n (ms.getD j id) (old.getD i id))) : DR n ms old (own ++ [cjF n (ms.getD j id) (old.getD i id)]) true i (j + 1) := by
  obtain ⟨h1, h2⟩ := h.di.add hm (h.getD hi) (getD_mem hj id) hy
  refine ⟨h1, h.pre.trans (List.prefix_append _ _), fun _ => ?_, by simp⟩
  cases b with
  | true => have := h.yes rfl; omega
  | false => obtain ⟨e, _⟩ := h.no rfl; rw [e] at h2 ⊢; exact h2
theorem DR.next {old own : List (Nat → Nat)} {b : Bool} (h : DR n ms old own b i ms.length) : DR n ms old own b (i + 1) 0 := by
  refine ⟨h.di, h.pre, h.yes, fun hb => ?_⟩
  obtain ⟨h1, h2, h3⟩ := h.no hb
  refine ⟨h1, fun k hk m hm => ?_, fun t ht => by omega⟩
  by_cases e : k = i
  · obtain ⟨t, ht, rfl⟩ := List.mem_iff_getElem.1 hm
    have := h3 t ht
    rw [e]
    rwa [List.getD_eq_getElem?_getD (l := ms) (i := t), List.getElem?_eq_getElem ht] at this
  · exact h2 k (by omega) m hm
theorem DR.end' {old own : List (Nat → Nat)} (h : DR n ms old own false old.length 0) (hm : ∀ m ∈ ms, Mv n m) : GL n own = GL n (cmL n ms) := by
  obtain ⟨rfl, h2, _⟩ := h.no rfl
  refine GL_same (h.di.mv hm) (cmL_mv hm) (der_same hm h.di.com h.di.der fun x hx m hmm => ?_)
  obtain ⟨t, ht, rfl⟩ := List.mem_iff_getElem.1 hx
  have := h2 t ht m hmm
  rwa [List.getD_eq_getElem?_getD, List.getElem?_eq_getElem ht] at this
end
/-- How many the commutators make. -/
noncomputable def derN (n : Nat) (ms : List (Nat → Nat)) : Nat := (GL n (cmL n ms)).length

theorem derived_bad (n : Int) (v : Value) (ll : List (List Int)) (w : World) (hl : RL w v ll) (hE : grpE n ll ≠ 0) :
    Calls Try.prog 28 #[.int .i64 n, v] w fun e w' => e = .returned (.tuple #[.int .i64 0, .int .i64 (grpE n ll)]) ∧ Below w.heap.size w w' := by
  have HO := hid (gopen_bad n v ll w hl hE)
  obtain ⟨a, c, N, rfl, hN, hc1, hc2⟩ := hl.open
  have hb : (grpE n ll != 0) = true := bne_iff_ne.2 hE
  clear hE hl hc2
  generalize grpE n ll = E at *
  go_enter Try.func28, Try.ntmps28
  go_wp2_with fail
  refine HO.out.mono ?_
  rintro e w1 ⟨rfl, hb1⟩
  have HB := hid hb1
  clear hb1
  go_wp2
  go_ret2
  exact ⟨rfl, HB.out⟩

/-- Apart from a block. -/
def Ap (v : Value) (b : Nat) : Prop := ∀ g, v.ownBlock = some g → g ≠ b
theorem Ap.app {v : Value} {b n c g s : Nat} (h : Ap v b) (hb : b < s) (hgo : v.ownBlock = some g ∨ s ≤ g) : Ap (.slice (some ⟨g, 0, none⟩) n c) b := by
  intro k hk
  obtain rfl : g = k := by simpa [Value.ownBlock] using hk
  rcases hgo with h1 | h1
  · exact h g h1
  · omega
theorem Ap.new {B : Nat} {w : World} {v : Value} {l : List (Nat → Nat)} (h : OM B w v l) {b : Nat} (hb : w.heap.size ≤ b) : Ap v b := fun g hg => by have := (h.lt g hg).2; omega
theorem Ap.ne {v : Value} {b : Nat} (h : Ap v b) : some b ≠ v.ownBlock := fun e => h b e.symm rfl
theorem OM.far {B B' : Nat} {w w' : World} {u v : Value} {l l' : List (Nat → Nat)} (h : OM B w u l) (hg : w.grownBy w' v.ownBlock) (ha : ∀ b, u.ownBlock = some b → Ap v b) : OM B w' u l := by
  refine h.kept hg ?_
  cases hu : u.ownBlock with
  | none => exact .inl rfl
  | some b => exact .inr (ha b hu).ne
theorem gback_mv {n : Nat} {x : Nat → Nat} (hn : n ≤ 7) (P : Mv n x) (w : World) :
    Calls Try.prog 59 #[mvV x] w fun e w' => e = .returned (mvV (bkF n x)) ∧ Below w.heap.size w w' :=
  gback_ok x (bkF n x) w (P.lt7 hn) (fun i _ => congrFun (comp_bk P) i) fun j hj => ⟨congrFun (bk_comp P) j, (bk_mv P).lt7 hn j hj⟩

set_option maxHeartbeats 4000000 in
set_option maxRecDepth 100000 in
theorem derived_ok (n : Nat) (v : Value) (ll : List (List Int)) (w : World) (hl : RL w v ll) (hE : grpE (n : Int) ll = 0) :
    Calls Try.prog 28 #[.int .i64 n, v] w fun e w' => e = .returned (.tuple #[.int .i64 (derN n (msL n ll) : Nat), .int .i64 0]) ∧ Below w.heap.size w w' := by
  have HO := hid (gopen_ok n v ll w hl hE)
  obtain ⟨n', hn', hG⟩ := gok_of hE
  obtain rfl : n = n' := by omega
  have hn7 := hG.n7
  have hfb := fac7 n hn7
  have HMV := hid hG.mv
  have HPJ := hid (fun j (hj : j < (msL n ll).length) => hG.mv _ (getD_mem hj id))
  have hms4 : (msL n ll).length ≤ 4 := by rw [msL_len]; exact hG.l4
  have HBK := hid (fun (x : Nat → Nat) (P : Mv n x) (w : World) => gback_mv hn7 P w)
  have HT := hid (fun (x y : Nat → Nat) (w : World) hx hy => gthen_ok x y w hx hy)
  have HCT := hid (fun (x : Nat → Nat) (v : Value) (L : List (Nat → Nat)) (w : World) hl hlen => contains_mv x v L w hl hlen)
  have HMD := hid (fun (v : Value) (own : List (Nat → Nat)) (w : World) hv hm hlen => made_ok n v own w hn7 hv hm hlen)
  have HCI := hid (CI.start n (msL n ll))
  have HDN : Hid (derN n (msL n ll) = (GL n (cmL n (msL n ll))).length) := hid rfl
  have HGF := hid (fun (own : List (Nat → Nat)) (h : ∀ m ∈ own, Mv n m) => (GL_len h).2)
  obtain ⟨a, c, N, rfl, hN, hc1, hc2⟩ := hl.open
  clear hE hl hc2 hG hn'
  generalize derN n (msL n ll) = DN at *
  generalize msL n ll = ms at *
  obtain ⟨K, hK⟩ : ∃ K, ms.length = K := ⟨_, rfl⟩
  have HK := hid hK
  rw [hK] at hms4 HPJ
  clear hK
  have hun := Try.underlying68
  unfold mvV at HT HBK
  have H4 : Hid (∀ x, Mv n x → ∀ i, i < 7 → x i < 7) := hid (fun x P => P.lt7 hn7)
  go_enter Try.func28, Try.ntmps28
  go_wp2_with fail
  refine HO.out.mono ?_
  rintro e w1 ⟨⟨s, r, rfl, hs, hr⟩, hb1⟩
  obtain ⟨ra, rc, er⟩ := hr.len
  subst er
  obtain ⟨sa, sc, es⟩ := hs.len
  rw [HK.out] at es
  subst es
  have H1 := hid (And.intro hs hb1)
  have HSA := hid (fun b hb => (hs.lt b hb).2)
  have hw1s := hb1.size
  clear hr hs hb1 HO
  go_wp2_with fail
  go_loopw [9, 33] (fun v9 i wr => ∃ (l : List (Nat → Nat)) (k : Nat), i = .int .i64 k ∧ k ≤ K ∧ Hid (CI n ms l k 0) ∧ OM w1.heap.size wr v9 l ∧ OM w.heap.size wr (.slice sa K sc) ms ∧ Below w.heap.size w wr ∧ w1.heap.size ≤ wr.heap.size) (fun _ i _ => K - (intOf i).toNat)
  case atStart => exact ⟨[], 0, rfl, Nat.zero_le _, HCI.out, OM.nil _ _, H1.out.1, H1.out.2, Nat.le_refl _⟩
  case round =>
    clear H1 HCI
    obtain ⟨l, k, rfl, hk, HC, ho, hs, hb, hw1⟩ := hrel
    obtain ⟨W0, hW0⟩ : ∃ W0, W0 = wr := ⟨_, rfl⟩
    subst hW0
    by_cases hlt : k < K
    · have hki : (k : Int) < (K : Int) := by omega
      obtain ⟨sg, sc', es, _, hsg⟩ := hs.form (by rw [HK.out]; omega)
      rw [HK.out] at es
      obtain ⟨rfl, rfl⟩ : sa = some ⟨sg, 0, none⟩ ∧ sc = sc' := by simpa using es
      obtain ⟨x, hx⟩ : ∃ x, ms.getD k id = x := ⟨_, rfl⟩
      have hPx := HPJ.out k hlt
      have hrx := hs.range (i := k) (by rw [HK.out]; exact hlt)
      rw [hx] at hrx hPx
      have ix : (Try.prog.info? 68).map (·.size) = some (mvC x).length := by rw [mvC_len]; exact mv_info
      have HAZ := hid (Arr.new W0 68 (mvC fun _ => 0))
      have HI := hid (And.intro ho (And.intro hs hb))
      have HXE := hid hx
      clear ho hs hb es hx
      go_wp2_with (first
        | (refine wpList_load_mid rfl 68 _ rfl sg (k * 7) rfl (mvC x) _ hrx Try.underlying68 rfl ix ?_; clear hrx)
        | (refine wpList_store_arr rfl 68 _ _ rfl W0.heap.size (mvC x) rfl rfl HAZ.out (by rw [mvC_len, mvC_len]) ix (mvC_one _) ?_
           intro w5 hA5 hg5
           have hB5 : Below W0.heap.size W0 w5 := ((Below.refl _ _).alloc (Nat.le_refl _) _).grown hg5 (by simp) (fun b e => by cases e; exact Nat.le_refl _)
           have H5 := hid (And.intro hA5 (And.intro (HI.out.1.below hB5) (And.intro (HI.out.2.1.below hB5) (And.intro (HI.out.2.2.trans (hB5.mono HI.out.2.2.size)) (And.intro (Ap.new HI.out.1 (Nat.le_refl _)) (Nat.le_trans hw1 hB5.size))))))
           clear hA5 hg5 hB5)
        | fail)
      go_loopw [9, 39] (fun v9 j wr => ∃ (l : List (Nat → Nat)) (t : Nat), j = .int .i64 t ∧ t ≤ K ∧ Hid (CI n ms l k t) ∧ OM w1.heap.size wr v9 l ∧ Ap v9 W0.heap.size ∧ OM w.heap.size wr (.slice (some ⟨sg, 0, none⟩) K sc) ms ∧ Arr wr W0.heap.size 68 (mvC x) ∧ Below w.heap.size w wr ∧ w1.heap.size ≤ wr.heap.size) (fun _ j _ => K - (intOf j).toNat)
      case atStart => exact ⟨l, 0, rfl, Nat.zero_le _, HC.out, H5.out.2.1, H5.out.2.2.2.2.1, H5.out.2.2.1, H5.out.1, H5.out.2.2.2.1, H5.out.2.2.2.2.2⟩
      case round =>
        clear H5 HI HAZ HC
        obtain ⟨l, t, rfl, ht, HC, ho, hap, hs, hA, hb, hw1⟩ := hrel
        by_cases htl : t < K
        · have hti : (t : Int) < (K : Int) := by omega
          obtain ⟨m, hm⟩ : ∃ m, ms.getD t id = m := ⟨_, rfl⟩
          have hPm := HPJ.out t htl
          have hrm := hs.range (i := t) (by rw [HK.out]; exact htl)
          rw [hm] at hrm hPm
          have im : (Try.prog.info? 68).map (·.size) = some (mvC m).length := by rw [mvC_len]; exact mv_info
          have HAZ := hid (Arr.new wr 68 (mvC fun _ => 0))
          have HI := hid (And.intro ho (And.intro hs (And.intro hA (And.intro hb (And.intro hap hw1)))))
          have HC2 := hid (HC.out.add (by rw [HK.out]; exact hlt) (by rw [HK.out]; exact htl))
          rw [HXE.out, hm] at HC2
          have hlenl := HC.out.len
          rw [HK.out] at hlenl
          have hkk : k * K ≤ 4 * 4 := Nat.mul_le_mul (by omega) (by omega)
          have hl9 : l.length ≤ 1000000000 := by omega
          have hW0 := hA.lt
          clear ho hs hA hb hm hap hlenl hkk
          go_wp2_with (first
            | (refine wpList_load_mid rfl 68 _ rfl sg (t * 7) rfl (mvC m) _ hrm Try.underlying68 rfl im ?_; clear hrm)
            | (refine wpList_store_arr rfl 68 _ _ rfl wr.heap.size (mvC m) rfl rfl HAZ.out (by rw [mvC_len, mvC_len]) im (mvC_one _) ?_
               intro w7 hA7 hg7
               have hB7 : Below wr.heap.size wr w7 := ((Below.refl _ _).alloc (Nat.le_refl _) _).grown hg7 (by simp) (fun b e => by cases e; exact Nat.le_refl _)
               have H7 := hid (And.intro hA7 (And.intro (HI.out.1.below hB7) (And.intro (HI.out.2.1.below hB7) (And.intro (HI.out.2.2.1.below hB7) (And.intro (HI.out.2.2.2.1.trans (hB7.mono HI.out.2.2.2.1.size)) hB7.size)))))
               clear hA7 hg7 hB7)
            | fail)
          have HLX := hid (fun w' (hb : Below w7.heap.size w7 w') => (H7.out.2.2.2.1.below hb).range)
          have HLM := hid (fun w' (hb : Below w7.heap.size w7 w') => (H7.out.1.below hb).range)
          have hxl := H4.out _ hPx
          have hml := H4.out _ hPm
          have hbx := H4.out _ (bk_mv hPx)
          have hbm := H4.out _ (bk_mv hPm)
          have h48 := H4.out _ (comp_mv (bk_mv hPx) (bk_mv hPm))
          have h50 := H4.out _ (comp_mv (comp_mv (bk_mv hPx) (bk_mv hPm)) hPx)
          refine region_dagL [43, 44, 45, 46, 47, 48, 49, 50, 51, 52, 53] [fun v _ => v = u9, fun v _ => v = .agg (mvC x).toArray, fun v _ => v = .agg (mvC (bkF n x)).toArray, fun v _ => v = .agg (mvC m).toArray, fun v _ => v = .agg (mvC (bkF n m)).toArray, fun v _ => v = .agg (mvC (compF (bkF n x) (bkF n m))).toArray, fun v _ => v = .agg (mvC x).toArray, fun v _ => v = .agg (mvC (compF (compF (bkF n x) (bkF n m)) x)).toArray, fun v _ => v = .agg (mvC m).toArray, fun v _ => v = .agg (mvC (comF n x m)).toArray, fun v w' => ∃ b, v = .slice (some ⟨b, 0, none⟩) 1 1 ∧ Arr w' b 68 (mvC (comF n x m))] (by kernel_rfl) (by kernel_rfl) rfl rfl
            ⟨Kp_eq _, Kp_eq _, Kp_eq _, Kp_eq _, Kp_eq _, Kp_eq _, Kp_eq _, Kp_eq _, Kp_eq _, Kp_eq _, fun v w1 w2 ⟨b, h1, h2⟩ _ hb => ⟨b, h1, h2.below hb⟩, trivial⟩ ⟨fun a w K hb hf hd hK => dag_move _ rfl (hK _ _ (hf 9 rfl) (Below.refl _ _)), ?_, ?_, ?_, ?_, ?_, ?_, ?_, ?_, ?_, ?_, trivial⟩ ?_
          · intro a w' K hb hf hd hK
            exact wp_load_mid 68 _ rfl W0.heap.size 0 (hf 11 rfl) (mvC x) _ (HLX.out w' hb) hun rfl ix (hK _ _ rfl (Below.refl _ _))
          · intro a w' K hb hf hd hK
            have h3 : a.eval (.tmp 44) = _ := hd 1 (by decide) (by kernel_rfl)
            refine dag_call _ _ _ #[_] rfl (by rw [List.map_toArray, List.map_cons, List.map_nil, h3]) _ Try.func59 (by kernel_rfl) (by kernel_rfl) ?_
            refine (HBK.out x hPx _).mono ?_
            rintro e w2 ⟨rfl, hb2⟩
            exact ⟨_, rfl, hK _ _ rfl hb2⟩
          · intro a w' K hb hf hd hK
            exact wp_load_mid 68 _ rfl wr.heap.size 0 (hf 13 rfl) (mvC m) _ (HLM.out w' hb) hun rfl im (hK _ _ rfl (Below.refl _ _))
          · intro a w' K hb hf hd hK
            have h3 : a.eval (.tmp 46) = _ := hd 3 (by decide) (by kernel_rfl)
            refine dag_call _ _ _ #[_] rfl (by rw [List.map_toArray, List.map_cons, List.map_nil, h3]) _ Try.func59 (by kernel_rfl) (by kernel_rfl) ?_
            refine (HBK.out m hPm _).mono ?_
            rintro e w2 ⟨rfl, hb2⟩
            exact ⟨_, rfl, hK _ _ rfl hb2⟩
          · intro a w' K hb hf hd hK
            have h3 : a.eval (.tmp 45) = _ := hd 2 (by decide) (by kernel_rfl)
            have h4 : a.eval (.tmp 47) = _ := hd 4 (by decide) (by kernel_rfl)
            refine dag_call _ _ _ #[_, _] rfl (by rw [List.map_toArray, List.map_cons, List.map_cons, List.map_nil, h3, h4]) _ Try.func58 (by kernel_rfl) (by kernel_rfl) ?_
            refine (HT.out _ _ _ hbx hbm).mono ?_
            rintro e w2 ⟨rfl, hb2⟩
            exact ⟨_, rfl, hK _ _ rfl hb2⟩
          · intro a w' K hb hf hd hK
            exact wp_load_mid 68 _ rfl W0.heap.size 0 (hf 11 rfl) (mvC x) _ (HLX.out w' hb) hun rfl ix (hK _ _ rfl (Below.refl _ _))
          · intro a w' K hb hf hd hK
            have h3 : a.eval (.tmp 48) = _ := hd 5 (by decide) (by kernel_rfl)
            have h4 : a.eval (.tmp 49) = _ := hd 6 (by decide) (by kernel_rfl)
            refine dag_call _ _ _ #[_, _] rfl (by rw [List.map_toArray, List.map_cons, List.map_cons, List.map_nil, h3, h4]) _ Try.func58 (by kernel_rfl) (by kernel_rfl) ?_
            refine (HT.out _ _ _ h48 hxl).mono ?_
            rintro e w2 ⟨rfl, hb2⟩
            exact ⟨_, rfl, hK _ _ rfl hb2⟩
          · intro a w' K hb hf hd hK
            exact wp_load_mid 68 _ rfl wr.heap.size 0 (hf 13 rfl) (mvC m) _ (HLM.out w' hb) hun rfl im (hK _ _ rfl (Below.refl _ _))
          · intro a w' K hb hf hd hK
            have h3 : a.eval (.tmp 50) = _ := hd 7 (by decide) (by kernel_rfl)
            have h4 : a.eval (.tmp 51) = _ := hd 8 (by decide) (by kernel_rfl)
            refine dag_call _ _ _ #[_, _] rfl (by rw [List.map_toArray, List.map_cons, List.map_cons, List.map_nil, h3, h4]) _ Try.func58 (by kernel_rfl) (by kernel_rfl) ?_
            refine (HT.out _ _ _ h50 hml).mono ?_
            rintro e w2 ⟨rfl, hb2⟩
            exact ⟨_, rfl, hK _ _ rfl hb2⟩
          · intro a w' K hb hf hd hK
            have h3 : a.tmps[52]?.getD undef = .agg (mvC (comF n x m)).toArray := ev_tmp (hd 9 (by decide) (by kernel_rfl))
            clear hf hd
            generalize comF n x m = z at *
            rw [mvC_lit z] at h3
            refine ?_
            go_simp
            exact hK _ _ ⟨_, rfl, Arr.new w' 68 (mvC z)⟩ ((Below.refl _ _).alloc (Nat.le_refl _) _)
          · rintro vals w8 ⟨h0, h1, h2, h3, h4, h5, h6, h7, h8, h9, ⟨b8, h10, hA8⟩, _⟩ hb8
            simp only [Nat.reduceAdd] at h0 h1 h2 h3 h4 h5 h6 h7 h8 h9 h10
            simp only [putAll, Act.put, List.setIfInBounds_toArray, List.set_cons_zero, List.set_cons_succ, List.drop_succ_cons, List.drop_zero, List.length_cons, List.length_nil, Nat.reduceAdd]
            rw [h0, h1, h2, h3, h4, h5, h6, h7, h8, h9, h10]
            have hr8 := hA8.range
            have H8 := hid (And.intro (H7.out.2.1.below hb8) (And.intro (H7.out.2.2.1.below hb8) (And.intro (H7.out.2.2.2.1.below hb8) (And.intro (H7.out.2.2.2.2.1.trans (hb8.mono H7.out.2.2.2.2.1.size)) (Nat.le_trans H7.out.2.2.2.2.2 hb8.size)))))
            have hs8 : w1.heap.size ≤ w8.heap.size := Nat.le_trans HI.out.2.2.2.2.2 H8.out.2.2.2.2
            clear h0 h1 h2 h3 h4 h5 h6 h7 h8 h9 h10 hA8 hb8 HLX HLM H7 HAZ hxl hml hbx hbm h48 h50
            generalize comF n x m = z at *
            go_wp2_with (first
              | (refine wpList_appm z w8 _ _ 64 rfl rfl Try.underlying64 Try.info68 w1.heap.size u9 l rfl H8.out.1 rfl hl9 hs8 hr8 (Below.refl _ _) ?_
                 intro g9 c9 w9 hO9 hg9 hgo hgl)
              | fail)
            go_roundw
            case rel =>
              refine ⟨l ++ [z], t + 1, by go_num, by omega, HC2.out, hO9, HI.out.2.2.2.2.1.app (by have := H8.out.2.2.2.2; omega) hgo, H8.out.2.1.kept hg9 (.inr ?_), H8.out.2.2.1.kept hg9 HI.out.2.2.2.2.1.ne, H8.out.2.2.2.1.grown hg9 H8.out.2.2.2.1.size (fun b e => by have := (H8.out.1.lt b e).1; omega), Nat.le_trans hs8 hg9.size⟩
              intro e
              have h1 := HSA.out sg rfl
              have h2 := (H8.out.1.lt sg e.symm).1
              omega
            case measure => simp [intOf] <;> omega
        · obtain rfl : t = K := by omega
          have hti : ¬ (t : Int) < (t : Int) := by omega
          have HN := hid ((show CI n ms l k ms.length by rw [HK.out]; exact HC.out).next)
          have HI := hid (And.intro ho (And.intro hs (And.intro hb hw1)))
          clear ho hs hb hA hap
          go_wp2
          go_roundw
          case rel => exact ⟨l, k + 1, by go_num, by omega, HN.out, HI.out.1, HI.out.2.1, HI.out.2.2.1, HI.out.2.2.2⟩
          case measure => simp [intOf] <;> omega
    · obtain rfl : k = K := by omega
      have hki : ¬ (k : Int) < (k : Int) := by omega
      have hDI := (show CI n ms l ms.length 0 by rw [HK.out]; exact HC.out).done (by rw [HK.out]; exact hms4) HMV.out
      have HD := hid hDI
      have hl16 : l.length ≤ 1000000 := by
        have h1 := hDI.len
        have h2 := HGF.out l (hDI.mv HMV.out)
        omega
      have HMD1 := hid (HMD.out u9 l _ ho.rm (hDI.mv HMV.out) hl16)
      have HI := hid (And.intro ho (And.intro hs (And.intro hb hw1)))
      clear ho hs hb hDI hl16 HC
      go_wp2_with fail
      refine HMD1.out.mono ?_
      rintro e w2 ⟨⟨r2, rfl, hr2⟩, hb2⟩
      have hap2 : ∀ b, r2.ownBlock = some b → Ap u9 b := fun b hb => Ap.new HI.out.1 (hr2.lt b hb).1
      have H2 := hid (And.intro (HI.out.1.below hb2) (And.intro (hr2.mono HI.out.2.2.1.size) (And.intro hap2 (And.intro (HI.out.2.1.below hb2) (And.intro (HI.out.2.2.1.trans (hb2.mono HI.out.2.2.1.size)) (Nat.le_trans HI.out.2.2.2 hb2.size))))))
      clear hb2 hr2 hap2 HI HMD1
      go_wp2_with fail
      go_loopg [9, 14, 15] (2 * fac n + 1) (fun g v9 v14 v15 wr => ∃ (own : List (Nat → Nat)) (bb : Bool), v15 = .bool bb ∧ Hid (DI n ms own) ∧ OM w1.heap.size wr v9 own ∧ OM w.heap.size wr v14 (GL n own) ∧ (∀ b, v14.ownBlock = some b → Ap v9 b) ∧ OM w.heap.size wr (.slice sa k sc) ms ∧ Below w.heap.size w wr ∧ w1.heap.size ≤ wr.heap.size ∧ Hid (bb = false → GL n own = GL n (cmL n ms)) ∧ Hid (2 * (fac n - (GL n own).length) + (if bb = true then 1 else 0) ≤ g))
      case atStart => exact ⟨l, true, rfl, HD.out, H2.out.1, H2.out.2.1, H2.out.2.2.1, H2.out.2.2.2.1, H2.out.2.2.2.2.1, H2.out.2.2.2.2.2, hid (by simp), hid (by rw [if_pos rfl]; omega)⟩
      case round =>
        clear H2 HD
        obtain ⟨own, bb, rfl, HD, ho, hall, hap, hs, hb, hw1, HE, HG⟩ := hrel
        generalize hgi : gk = gi at *
        obtain ⟨oa, oc, eo⟩ := ho.len
        obtain ⟨la, lc, el⟩ := hall.len
        obtain ⟨M, hM⟩ : ∃ M, own.length = M := ⟨_, rfl⟩
        have HM := hid hM
        rw [hM] at eo
        subst eo
        subst el
        clear hM
        cases bb with
        | false =>
          have hend := HE.out rfl
          have HB := hid hb
          have hdn : DN = (GL n own).length := by rw [HDN.out, hend]
          rw [← hdn]
          clear ho hall hap hs hb hend
          go_wp2
          go_ret2
          exact ⟨rfl, HB.out⟩
        | true =>
          have hrm : RM wr (.slice oa M oc) own := ho.rm
          have HI := hid (And.intro ho (And.intro hall (And.intro hap (And.intro hs (And.intro hb (And.intro hw1 hrm))))))
          have HDR := hid (DR.start HD.out)
          have hMb : M ≤ 6000 := by
            have h1 := HD.out.len
            have h2 := HGF.out own (HD.out.mv HMV.out)
            rw [HM.out] at h1
            omega
          clear ho hall hap hs hb hrm HE
          go_wp2_with fail
          go_loopw [9, 14, 15, 17, 62] (fun v9 v14 v15 _ i wr => ∃ (own' : List (Nat → Nat)) (b : Bool) (q : Nat), i = .int .i64 q ∧ q ≤ M ∧ v15 = .bool b ∧ Hid (DR n ms own own' b q 0) ∧ OM w1.heap.size wr v9 own' ∧ OM w.heap.size wr v14 (GL n own') ∧ (∀ b, v14.ownBlock = some b → Ap v9 b) ∧ OM w.heap.size wr (.slice sa k sc) ms ∧ Below w.heap.size w wr ∧ w1.heap.size ≤ wr.heap.size ∧ RM wr (.slice oa M oc) own) (fun _ _ _ _ i _ => M - (intOf i).toNat)
          case atStart => exact ⟨own, false, 0, rfl, Nat.zero_le _, rfl, HDR.out, HI.out.1, HI.out.2.1, HI.out.2.2.1, HI.out.2.2.2.1, HI.out.2.2.2.2.1, HI.out.2.2.2.2.2.1, HI.out.2.2.2.2.2.2⟩
          case round =>
            clear HI HDR
            obtain ⟨own', b, q, rfl, hq, rfl, HDR, ho, hall, hap, hs, hb, hw1, hrm⟩ := hrel
            obtain ⟨W1, hW1⟩ : ∃ W1, W1 = wr := ⟨_, rfl⟩
            subst hW1
            by_cases hqM : q < M
            · have hqi : (q : Int) < (M : Int) := by omega
              have HQM := hid hqM
              obtain ⟨oa', oc', eo, hr0⟩ := hrm
              obtain ⟨rfl, rfl⟩ : oa = oa' ∧ oc = oc' := by
                simp only [Value.slice.injEq] at eo
                exact ⟨eo.1, eo.2.2⟩
              obtain ⟨bo, rfl, hbo, hr1⟩ := hr0 (by rw [HM.out]; omega)
              obtain ⟨x, hx⟩ : ∃ x, own.getD q id = x := ⟨_, rfl⟩
              have hrx := hr1 q (by rw [HM.out]; exact hqM)
              have hPx : Mv n x := by
                rw [← hx]
                exact HDR.out.di.mv HMV.out _ (HDR.out.getD (by rw [HM.out]; exact hqM))
              rw [hx] at hrx
              have ix : (Try.prog.info? 68).map (·.size) = some (mvC x).length := by rw [mvC_len]; exact mv_info
              have HAZ := hid (Arr.new W1 68 (mvC fun _ => 0))
              have hrm : RM W1 (.slice (some ⟨bo, 0, none⟩) M oc) own := ⟨_, _, by rw [HM.out], fun _ => ⟨bo, rfl, hbo, hr1⟩⟩
              have HI := hid (And.intro ho (And.intro hall (And.intro hap (And.intro hs (And.intro hb (And.intro hw1 hrm))))))
              have HXE := hid hx
              clear ho hall hap hs hb hx hr0 hr1 hrm eo
              go_wp2_with (first
                | (refine wpList_load_mid rfl 68 _ rfl bo (q * 7) rfl (mvC x) _ hrx Try.underlying68 rfl ix ?_; clear hrx)
                | (refine wpList_store_arr rfl 68 _ _ rfl W1.heap.size (mvC x) rfl rfl HAZ.out (by rw [mvC_len, mvC_len]) ix (mvC_one _) ?_
                   intro w5 hA5 hg5
                   have hB5 : Below W1.heap.size W1 w5 := ((Below.refl _ _).alloc (Nat.le_refl _) _).grown hg5 (by simp) (fun b e => by cases e; exact Nat.le_refl _)
                   have H5 := hid (And.intro hA5 (And.intro (HI.out.1.below hB5) (And.intro (HI.out.2.1.below hB5) (And.intro (HI.out.2.2.2.1.below hB5) (And.intro (HI.out.2.2.2.2.1.trans (hB5.mono HI.out.2.2.2.2.1.size)) (And.intro (Nat.le_trans hw1 hB5.size) (And.intro (HI.out.2.2.2.2.2.2.below hB5) (And.intro (Ap.new HI.out.1 (Nat.le_refl _)) HI.out.2.2.1))))))))
                   clear hA5 hg5 hB5)
                | fail)
              go_loopw [9, 14, 15, 19, 20, 68] (fun v9 v14 v15 _ _ j wr => ∃ (own' : List (Nat → Nat)) (b : Bool) (t : Nat), j = .int .i64 t ∧ t ≤ k ∧ v15 = .bool b ∧ Hid (DR n ms own own' b q t) ∧ OM w1.heap.size wr v9 own' ∧ OM w.heap.size wr v14 (GL n own') ∧ (∀ b, v14.ownBlock = some b → Ap v9 b) ∧ OM w.heap.size wr (.slice sa k sc) ms ∧ Below w.heap.size w wr ∧ w1.heap.size ≤ wr.heap.size ∧ RM wr (.slice (some ⟨bo, 0, none⟩) M oc) own ∧ Arr wr W1.heap.size 68 (mvC x) ∧ Ap v9 W1.heap.size) (fun _ _ _ _ _ j _ => k - (intOf j).toNat)
              case atStart => exact ⟨own', b, 0, rfl, Nat.zero_le _, rfl, HDR.out, H5.out.2.1, H5.out.2.2.1, H5.out.2.2.2.2.2.2.2.2, H5.out.2.2.2.1, H5.out.2.2.2.2.1, H5.out.2.2.2.2.2.1, H5.out.2.2.2.2.2.2.1, H5.out.1, H5.out.2.2.2.2.2.2.2.1⟩
              case round =>
                clear H5 HI HAZ HDR
                obtain ⟨own', b, t, rfl, ht, rfl, HDR, ho, hall, hap, hs, hb, hw1, hrm, hA, hapx⟩ := hrel
                by_cases htl : t < k
                · have hti : (t : Int) < (k : Int) := by omega
                  obtain ⟨sg, sc', es, _, hsg⟩ := hs.form (by rw [HK.out]; omega)
                  rw [HK.out] at es
                  obtain ⟨rfl, rfl⟩ : sa = some ⟨sg, 0, none⟩ ∧ sc = sc' := by simpa using es
                  obtain ⟨m, hm⟩ : ∃ m, ms.getD t id = m := ⟨_, rfl⟩
                  have hPm := HPJ.out t htl
                  have hrmm := hs.range (i := t) (by rw [HK.out]; exact htl)
                  rw [hm] at hrmm hPm
                  have im : (Try.prog.info? 68).map (·.size) = some (mvC m).length := by rw [mvC_len]; exact mv_info
                  have HAZ := hid (Arr.new wr 68 (mvC fun _ => 0))
                  have HI := hid (And.intro ho (And.intro hall (And.intro hap (And.intro hs (And.intro hb (And.intro hw1 (And.intro hrm (And.intro hA hapx))))))))
                  have hpo := HDR.out.di.mv HMV.out
                  have HPO := hid hpo
                  have hol : own'.length ≤ 16 + fac n := Nat.le_trans HDR.out.di.len (Nat.add_le_add_left (HGF.out own' hpo) 16)
                  have hol9 : own'.length ≤ 1000000000 := by omega
                  have hgl9 : (GL n own').length ≤ 1000000000 := by have := HGF.out own' hpo; omega
                  have hW1 := hA.lt
                  have HTH := hid (fun h => HDR.out.there (by rw [HK.out]; exact htl) h)
                  have HAD := hid (fun h => HDR.out.add HMV.out (by rw [HM.out]; exact hqM) (by rw [HK.out]; exact htl) h)
                  rw [HXE.out, hm] at HTH HAD
                  have hsgw := HSA.out sg rfl
                  obtain ⟨la, lc, el⟩ := hall.len
                  clear ho hall hap hs hb hrm hA hapx hm es hpo
                  go_wp2_with (first
                    | (refine wpList_load_mid rfl 68 _ rfl sg (t * 7) rfl (mvC m) _ hrmm Try.underlying68 rfl im ?_; clear hrmm)
                    | (refine wpList_store_arr rfl 68 _ _ rfl wr.heap.size (mvC m) rfl rfl HAZ.out (by rw [mvC_len, mvC_len]) im (mvC_one _) ?_
                       intro w7 hA7 hg7
                       have hB7 : Below wr.heap.size wr w7 := ((Below.refl _ _).alloc (Nat.le_refl _) _).grown hg7 (by simp) (fun b e => by cases e; exact Nat.le_refl _)
                       have H7 := hid (And.intro hA7 (And.intro (HI.out.2.2.2.2.2.2.2.1.below hB7) hB7))
                       clear hA7 hg7 hB7)
                    | fail)
                  have HLX := hid (fun w' (hb : Below w7.heap.size w7 w') => (H7.out.2.1.below hb).range)
                  have HLM := hid (fun w' (hb : Below w7.heap.size w7 w') => (H7.out.1.below hb).range)
                  have hxl := H4.out _ hPx
                  have hml := H4.out _ hPm
                  have hbm := H4.out _ (bk_mv hPm)
                  have h75 := H4.out _ (comp_mv (bk_mv hPm) hPx)
                  have hPy : Mv n (cjF n m x) := cj_mv hPm hPx
                  refine region_dagL [72, 73, 74, 75, 76, 77, 20] [fun v _ => v = .agg (mvC m).toArray, fun v _ => v = .agg (mvC (bkF n m)).toArray, fun v _ => v = .agg (mvC x).toArray, fun v _ => v = .agg (mvC (compF (bkF n m) x)).toArray, fun v _ => v = .agg (mvC m).toArray, fun v _ => v = .agg (mvC (cjF n m x)).toArray, fun v w' => ∃ b, v = .pointer (some ⟨b, 0, none⟩) ∧ w7.heap.size ≤ b ∧ Arr w' b 68 (mvC fun _ => 0)] (by kernel_rfl) (by kernel_rfl) rfl rfl
                    ⟨Kp_eq _, Kp_eq _, Kp_eq _, Kp_eq _, Kp_eq _, Kp_eq _, fun v w1 w2 ⟨b, h1, h2, h3⟩ _ hb => ⟨b, h1, h2, h3.below hb⟩, trivial⟩ ⟨?_, ?_, ?_, ?_, ?_, ?_, ?_, trivial⟩ ?_
                  · intro a w' K hb hf hd hK
                    exact wp_load_mid 68 _ rfl wr.heap.size 0 (hf 19 rfl) (mvC m) _ (HLM.out w' hb) hun rfl im (hK _ _ rfl (Below.refl _ _))
                  · intro a w' K hb hf hd hK
                    have h3 : a.eval (.tmp 72) = _ := hd 0 (by decide) (by kernel_rfl)
                    refine dag_call _ _ _ #[_] rfl (by rw [List.map_toArray, List.map_cons, List.map_nil, h3]) _ Try.func59 (by kernel_rfl) (by kernel_rfl) ?_
                    refine (HBK.out m hPm _).mono ?_
                    rintro e w2 ⟨rfl, hb2⟩
                    exact ⟨_, rfl, hK _ _ rfl hb2⟩
                  · intro a w' K hb hf hd hK
                    exact wp_load_mid 68 _ rfl W1.heap.size 0 (hf 17 rfl) (mvC x) _ (HLX.out w' hb) hun rfl ix (hK _ _ rfl (Below.refl _ _))
                  · intro a w' K hb hf hd hK
                    have h3 : a.eval (.tmp 73) = _ := hd 1 (by decide) (by kernel_rfl)
                    have h4 : a.eval (.tmp 74) = _ := hd 2 (by decide) (by kernel_rfl)
                    refine dag_call _ _ _ #[_, _] rfl (by rw [List.map_toArray, List.map_cons, List.map_cons, List.map_nil, h3, h4]) _ Try.func58 (by kernel_rfl) (by kernel_rfl) ?_
                    refine (HT.out _ _ _ hbm hxl).mono ?_
                    rintro e w2 ⟨rfl, hb2⟩
                    exact ⟨_, rfl, hK _ _ rfl hb2⟩
                  · intro a w' K hb hf hd hK
                    exact wp_load_mid 68 _ rfl wr.heap.size 0 (hf 19 rfl) (mvC m) _ (HLM.out w' hb) hun rfl im (hK _ _ rfl (Below.refl _ _))
                  · intro a w' K hb hf hd hK
                    have h3 : a.eval (.tmp 75) = _ := hd 3 (by decide) (by kernel_rfl)
                    have h4 : a.eval (.tmp 76) = _ := hd 4 (by decide) (by kernel_rfl)
                    refine dag_call _ _ _ #[_, _] rfl (by rw [List.map_toArray, List.map_cons, List.map_cons, List.map_nil, h3, h4]) _ Try.func58 (by kernel_rfl) (by kernel_rfl) ?_
                    refine (HT.out _ _ _ h75 hml).mono ?_
                    rintro e w2 ⟨rfl, hb2⟩
                    exact ⟨_, rfl, hK _ _ rfl hb2⟩
                  · intro a w' K hb hf hd hK
                    refine ?_
                    go_simp
                    exact hK _ _ ⟨_, rfl, hb.size, Arr.new _ _ _⟩ ((Below.refl _ _).alloc (Nat.le_refl _) _)
                  · rintro vals w8 ⟨h0, h1, h2, h3, h4, h5, ⟨b8, h6, hb8s, hA8⟩, _⟩ hb8
                    simp only [Nat.reduceAdd] at h0 h1 h2 h3 h4 h5 h6
                    simp only [putAll, Act.put, List.setIfInBounds_toArray, List.set_cons_zero, List.set_cons_succ, List.drop_succ_cons, List.drop_zero, List.length_cons, List.length_nil, Nat.reduceAdd]
                    rw [h0, h1, h2, h3, h4, h5, h6]
                    have hwr8 : Below wr.heap.size wr w8 := H7.out.2.2.trans (hb8.mono H7.out.2.2.size)
                    have hb8w : wr.heap.size ≤ b8 := Nat.le_trans H7.out.2.2.size hb8s
                    have H8 := hid (And.intro hA8 hwr8)
                    have HINM := hid (inM_iff hn7 hPy (fun y hy => ((mem_GL HPO.out y).1 hy).mv HPO.out))
                    have HGY := hid (mem_GL HPO.out (cjF n m x))
                    clear h0 h1 h2 h3 h4 h5 h6 hA8 hb8 hwr8 HLX HLM H7 HAZ hxl hml hbm h75
                    generalize cjF n m x = y at *
                    have iy : (Try.prog.info? 68).map (·.size) = some (mvC y).length := by rw [mvC_len]; exact mv_info
                    subst el
                    go_wp2_with (first
                      | (refine wpList_store_arr rfl 68 _ _ rfl b8 (mvC y) rfl rfl H8.out.1 (by rw [mvC_len, mvC_len]) iy (mvC_one _) ?_
                         intro w9 hA9 hg9
                         have hB9 : Below wr.heap.size wr w9 := H8.out.2.grown hg9 H8.out.2.size (fun b e => by cases e; exact hb8w)
                         have H9 := hid (And.intro hA9 hB9)
                         have r9 := hA9.range
                         clear hA9 hg9 hB9)
                      | (refine wpList_load_mid rfl 68 _ rfl b8 0 rfl (mvC y) _ r9 Try.underlying68 rfl iy ?_)
                      | fail)
                    refine (HCT.out y _ _ _ (HI.out.2.1.below H9.out.2).rm hgl9).mono ?_
                    rintro e w10 ⟨rfl, hb10⟩
                    have hB10 := H9.out.2.trans (hb10.mono H9.out.2.size)
                    have hA10 := H9.out.1.below hb10
                    have r10 := hA10.range
                    have H10 := hid (And.intro hA10 (And.intro hB10 (And.intro (HI.out.1.below hB10) (And.intro (HI.out.2.1.below hB10) (And.intro (HI.out.2.2.2.1.below hB10) (And.intro (HI.out.2.2.2.2.1.trans (hB10.mono HI.out.2.2.2.2.1.size)) (And.intro (Nat.le_trans HI.out.2.2.2.2.2.1 hB10.size) (And.intro (HI.out.2.2.2.2.2.2.1.below hB10) (HI.out.2.2.2.2.2.2.2.1.below hB10)))))))))
                    clear hb10 hB10 hA10 r9
                    cases hin : inM y (GL n own') with
                    | true =>
                      have HN := hid (HTH.out (HGY.out.1 (HINM.out.1 hin)))
                      clear hin r10
                      go_wp2
                      go_roundw
                      case rel => exact ⟨own', b, t + 1, by go_num, by omega, rfl, HN.out, H10.out.2.2.1, H10.out.2.2.2.1, HI.out.2.2.1, H10.out.2.2.2.2.1, H10.out.2.2.2.2.2.1, H10.out.2.2.2.2.2.2.1, H10.out.2.2.2.2.2.2.2.1, H10.out.2.2.2.2.2.2.2.2, HI.out.2.2.2.2.2.2.2.2⟩
                      case measure => simp [intOf] <;> omega
                    | false =>
                      have hnin : ¬ GenF own' y := fun h => by
                        have := HINM.out.2 (HGY.out.2 h)
                        rw [hin] at this
                        cases this
                      have HN := hid (HAD.out hnin)
                      have hpy : ∀ z ∈ own' ++ [y], Mv n z := HN.out.di.mv HMV.out
                      have HPY := hid hpy
                      have hl6 : (own' ++ [y]).length ≤ 1000000 := by rw [List.length_append]; simp; omega
                      have hs10 : w1.heap.size ≤ w10.heap.size := H10.out.2.2.2.2.2.2.1
                      have hzl := mvC_lit y
                      have HMX := hid (fun v w0 hv => HMD.out v (own' ++ [y]) w0 hv hpy hl6)
                      clear hin hnin hpy
                      go_wp2_with (first
                        | (refine wpList_load_mid rfl 68 _ rfl b8 0 rfl (mvC y) _ r10 Try.underlying68 rfl iy ?_; rw [hzl])
                        | (refine wpList_appm2 y w10 _ _ 64 rfl rfl Try.underlying64 Try.info68 w1.heap.size u9 own' rfl H10.out.2.2.1 rfl hol9 hs10 (Arr.new w10 68 (mvC y)).range ((Below.refl _ _).alloc (Nat.le_refl _) _) ?_
                           intro g11 c11 w11 hO11 hg11 hgo hgl hkeep
                           have hrm11 := H10.out.2.2.2.2.2.2.2.1.appended (l := own') HDR.out.pre hO11 hg11 hkeep
                           have hA11 := H10.out.2.2.2.2.2.2.2.2.kept hg11 HI.out.2.2.2.2.2.2.2.2.ne
                           have hS11 := H10.out.2.2.2.2.1.kept hg11 (.inr (fun e => by have h2 := (H10.out.2.2.1.lt sg e.symm).1; omega))
                           have hB11 := H10.out.2.2.2.2.2.1.grown hg11 H10.out.2.2.2.2.2.1.size (fun b e => by have := (H10.out.2.2.1.lt b e).1; omega)
                           have hap11 : Ap (.slice (some ⟨g11, 0, none⟩) (own'.length + 1) c11) W1.heap.size := HI.out.2.2.2.2.2.2.2.2.app (Nat.lt_of_lt_of_le hW1 H10.out.2.1.size) hgo
                           have H11 := hid (And.intro hO11 (And.intro hrm11 (And.intro hA11 (And.intro hS11 (And.intro hB11 (And.intro hap11 (Nat.le_trans hs10 hg11.size)))))))
                           clear hO11 hg11 hrm11 hA11 hS11 hB11 hap11 hgo hkeep)
                        | fail)
                      refine (HMX.out _ _ H11.out.1.rm).mono ?_
                      rintro e w12 ⟨⟨r12, rfl, hr12⟩, hb12⟩
                      have hap12 : ∀ b, r12.ownBlock = some b → Ap (.slice (some ⟨g11, 0, none⟩) (own'.length + 1) c11) b := fun b hb => by
                        have h1 := (hr12.lt b hb).1
                        intro g hg
                        obtain rfl : g11 = g := by simpa [Value.ownBlock] using hg
                        omega
                      have H12 := hid (And.intro (H11.out.1.below hb12) (And.intro (hr12.mono H11.out.2.2.2.2.1.size) (And.intro hap12 (And.intro (H11.out.2.2.2.1.below hb12) (And.intro (H11.out.2.2.2.2.1.trans (hb12.mono H11.out.2.2.2.2.1.size)) (And.intro (Nat.le_trans H11.out.2.2.2.2.2.2 hb12.size) (And.intro (H11.out.2.1.below hb12) (And.intro (H11.out.2.2.1.below hb12) H11.out.2.2.2.2.2.1))))))))
                      clear hb12 hr12 hap12 r10
                      go_wp2
                      go_roundw
                      case rel => exact ⟨own' ++ [y], true, t + 1, by go_num, by omega, rfl, HN.out, H12.out.1, H12.out.2.1, H12.out.2.2.1, H12.out.2.2.2.1, H12.out.2.2.2.2.1, H12.out.2.2.2.2.2.1, H12.out.2.2.2.2.2.2.1, H12.out.2.2.2.2.2.2.2.1, H12.out.2.2.2.2.2.2.2.2⟩
                      case measure => simp [intOf] <;> omega
                · obtain rfl : t = k := by omega
                  have hti : ¬ (t : Int) < (t : Int) := by omega
                  have HN := hid ((show DR n ms own own' b q ms.length by rw [HK.out]; exact HDR.out).next)
                  have HI := hid (And.intro ho (And.intro hall (And.intro hap (And.intro hs (And.intro hb (And.intro hw1 hrm))))))
                  clear ho hall hap hs hb hrm hA hapx
                  go_wp2
                  go_roundw
                  case rel => exact ⟨own', b, q + 1, by go_num, by have := HQM.out; omega, rfl, HN.out, HI.out.1, HI.out.2.1, HI.out.2.2.1, HI.out.2.2.2.1, HI.out.2.2.2.2.1, HI.out.2.2.2.2.2.1, HI.out.2.2.2.2.2.2⟩
                  case measure => have := HQM.out; simp [intOf] <;> omega
            · obtain rfl : q = M := by omega
              have hqi : ¬ (q : Int) < (q : Int) := by omega
              have HF := hid (show DR n ms own own' b own.length 0 by rw [HM.out]; exact HDR.out)
              have hfin : b = false → GL n own' = GL n (cmL n ms) := fun hb => by
                subst hb
                exact HF.out.end' HMV.out
              have HFIN := hid hfin
              have hgl := HGF.out own' (HF.out.di.mv HMV.out)
              have hg1 : 2 * (fac n - (GL n own).length) + 1 ≤ gi := by have := HG.out; simpa using this
              have hlt2 : 2 * (fac n - (GL n own').length) + (if b = true then 1 else 0) < gi := by
                cases b with
                | true =>
                  have := HF.out.yes rfl
                  rw [if_pos rfl]
                  omega
                | false =>
                  obtain ⟨e, _⟩ := HF.out.no rfl
                  rw [e, if_neg (by decide)]
                  omega
              have HLT := hid hlt2
              have HI := hid (And.intro ho (And.intro hall (And.intro hap (And.intro hs (And.intro hb hw1)))))
              clear ho hall hap hs hb hrm hfin hg1 hlt2 hgl
              go_wp2
              go_roundg (2 * (fac n - (GL n own').length) + (if b = true then 1 else 0))
              case measure => exact HLT.out
              case rel => exact ⟨own', b, rfl, hid HF.out.di, HI.out.1, HI.out.2.1, HI.out.2.2.1, HI.out.2.2.2.1, HI.out.2.2.2.2.1, HI.out.2.2.2.2.2, HFIN, hid (Nat.le_refl _)⟩
end Go.Proofs.Ytnbgnoimanpjnaa
