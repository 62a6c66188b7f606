/-
  The walks over slices.Index and slices.Contains at moves. Condition: the slice can be read.
-/
import Derived.Test.YtnbgnoimanpjnaaGmade
import Derived.Test.YtnbgnoimanpjnaaArrEq
namespace Go.Proofs.Ytnbgnoimanpjnaa
set_option linter.unusedVariables false
open Go.RowKit

theorem mvC_I (x : Nat → Nat) : mvC x = (mvI x).map (Value.int .i64) := by
  unfold mvC mvI
  rw [List.map_map]
  rfl
theorem mvI_len (x : Nat → Nat) : (mvI x).length = 7 := by simp [mvI]
theorem RM.below {w w' : World} {v : Value} {l : List (Nat → Nat)} (h : RM w v l) (hb : Below w.heap.size w w') : RM w' v l := by
  obtain ⟨a, c, rfl, h2⟩ := h
  refine ⟨a, c, rfl, fun hp => ?_⟩
  obtain ⟨b, e, hlt, hr⟩ := h2 hp
  exact ⟨b, e, Nat.lt_of_lt_of_le hlt hb.size, fun i hi q u hq => (hb.cell (p := ⟨b, i * 7 + q, none⟩) hlt).trans (hr i hi q u hq)⟩
/-- Is one among them, by its seven numbers? -/
def inM (x : Nat → Nat) (l : List (Nat → Nat)) : Bool := l.any fun y => decide (mvI x = mvI y)
theorem inM_iff {n : Nat} (hn : n ≤ 7) {x : Nat → Nat} {l : List (Nat → Nat)} (P : Mv n x) (hl : ∀ y ∈ l, Mv n y) : inM x l = true ↔ x ∈ l := by
  unfold inM
  rw [List.any_eq_true]
  constructor
  · rintro ⟨y, hy, h⟩
    rw [mvI_inj hn P (hl y hy) (of_decide_eq_true h)]
    exact hy
  · intro h
    exact ⟨x, h, by simp⟩
theorem inM_found {x : Nat → Nat} {l : List (Nat → Nat)} {k : Nat} (hk : k < l.length) (h : mvI x = mvI (l.getD k id)) : inM x l = true := by
  unfold inM
  rw [List.any_eq_true]
  exact ⟨_, getD_mem hk id, by simp [h]⟩
theorem inM_none {x : Nat → Nat} {l : List (Nat → Nat)} (h : ∀ k, k < l.length → mvI x ≠ mvI (l.getD k id)) : inM x l = false := by
  unfold inM
  rw [List.any_eq_false]
  intro y hy
  obtain ⟨k, hk, rfl⟩ := List.mem_iff_getElem.1 hy
  have := h k hk
  rw [List.getD_eq_getElem?_getD, List.getElem?_eq_getElem hk] at this
  simpa using this

set_option maxHeartbeats 1000000 in
set_option maxRecDepth 10000 in
theorem index_mv (x : Nat → Nat) (v : Value) (l : List (Nat → Nat)) (w : World) (hl : RM w v l) (hlen : l.length ≤ 1000000000) :
    Calls Try.prog 78 #[v, .agg (mvC x).toArray] w fun e w' => (∃ r : Int, e = .returned (.int .i64 r) ∧ (0 ≤ r ↔ inM x l = true)) ∧ Below w.heap.size w w' := by
  have HF := hid (fun k (h1 : k < l.length) h => inM_found (x := x) (l := l) (k := k) h1 h)
  have HNO := hid (inM_none (x := x) (l := l))
  obtain ⟨a, c, rfl, hl2⟩ := hl
  have HL2 := hid hl2
  have hA : Arr (w.alloc (.cells (mvC x).toArray 68)) w.heap.size 68 (mvC x) := Arr.new _ _ _
  have hb0 : Below w.heap.size w (w.alloc (.cells (mvC x).toArray 68)) := (Below.refl _ _).alloc (Nat.le_refl _) _
  have HI0 := hid (And.intro hA hb0)
  clear hl2 hA hb0
  obtain ⟨N, hN⟩ : ∃ N, l.length = N := ⟨_, rfl⟩
  have HN := hid hN
  rw [hN] at HF HNO HL2 hlen ⊢
  clear hN
  generalize inM x l = z at *
  go_enter Try.func78, Try.ntmps78
  go_wp2_with fail
  go_loopw [5, 8] (fun _ i wr => ∃ k : Nat, k ≤ N ∧ i = .int .i64 k ∧ Arr wr w.heap.size 68 (mvC x) ∧ Below w.heap.size w wr ∧ Hid (∀ j, j < k → mvI x ≠ mvI (l.getD j id))) (fun _ i _ => N - (intOf i).toNat)
  case atStart => exact ⟨0, Nat.zero_le _, rfl, HI0.out.1, HI0.out.2, hid (fun j hj => by omega)⟩
  case round =>
    clear HI0
    obtain ⟨k, hk, rfl, hA, hb, HE⟩ := hrel
    by_cases hlt : k < N
    · have hki : (k : Int) < (N : Int) := by omega
      obtain ⟨b, rfl, hblt, hr⟩ := HL2.out (by omega)
      obtain ⟨y, hy⟩ : ∃ y, l.getD k id = y := ⟨_, rfl⟩
      have hr1 := hr k hlt
      rw [hy] at hr1
      have HY := hid hy
      have hbs := hb.size
      have HRX := hid (fun w' (hb2 : Below wr.heap.size wr w') => (hA.below hb2).range)
      have HRY := hid (fun w' (hb2 : Below wr.heap.size wr w') => (fun q u hq => ((hb.trans (hb2.mono hbs)).cell (p := ⟨b, k * 7 + q, none⟩) hblt).trans (hr1 q u hq) : w'.rangeAt b (k * 7) (mvC y)))
      have ix : (Try.prog.info? 68).map (·.size) = some (mvC x).length := by rw [mvC_len]; exact mv_info
      have iy : (Try.prog.info? 68).map (·.size) = some (mvC y).length := by rw [mvC_len]; exact mv_info
      have hun := Try.underlying68
      have HI := hid (And.intro hA hb)
      clear hA hb hr hr1 hy HL2
      go_wp2_with fail
      refine region_dagL [11, 12, 13, 14, 15] [fun v _ => v = .agg (mvC x).toArray, fun v _ => v = .slice (some ⟨b, 0, none⟩) N c, fun v _ => v = .int .i64 (k : Int), fun v _ => v = .pointer (some ⟨b, k * 7, none⟩), fun v _ => v = .agg (mvC y).toArray] (by kernel_rfl) (by kernel_rfl) rfl rfl
        ⟨Kp_eq _, Kp_eq _, Kp_eq _, Kp_eq _, Kp_eq _, trivial⟩
        ⟨?_, fun a w K hb hf hd hK => dag_move _ rfl (hK _ _ (hf 0 rfl) (Below.refl _ _)), fun a w K hb hf hd hK => dag_move _ rfl (hK _ _ (hf 5 rfl) (Below.refl _ _)), ?_, ?_, trivial⟩ ?_
      · intro a w' K hb hf hd hK
        exact wp_load_mid 68 _ rfl w.heap.size 0 (hf 3 rfl) (mvC x) _ (HRX.out w' hb) hun rfl ix (hK _ _ rfl (Below.refl _ _))
      · intro a w' K hb hf hd hK
        have h0 : a.tmps[12]?.getD undef = .slice (some ⟨b, 0, none⟩) N c := ev_tmp (hd 1 (by decide) (by kernel_rfl))
        have h1 : a.tmps[13]?.getD undef = .int .i64 (k : Int) := ev_tmp (hd 2 (by decide) (by kernel_rfl))
        refine dag_val _ ?_ (hK _ _ rfl (Below.refl _ _))
        clear hK hf hd
        go_simp
      · intro a w' K hb hf hd hK
        have h2 : a.eval (.tmp 14) = _ := hd 3 (by decide) (by kernel_rfl)
        exact wp_load_mid 68 _ rfl b (k * 7) h2 (mvC y) _ (HRY.out w' hb) hun rfl iy (hK _ _ rfl (Below.refl _ _))
      · rintro vals w6 ⟨h0, h1, h2, h3, h4, _⟩ hb6
        simp only [Nat.reduceAdd] at h0 h1 h2 h3 h4
        simp only [putAll, Act.put, List.setIfInBounds_toArray, List.set_cons_zero, List.set_cons_succ, List.drop_succ_cons, List.drop_zero, List.length_cons, List.length_nil, Nat.reduceAdd]
        rw [h0, h1, h2, h3, h4]
        have HX := hid (And.intro (HI.out.1.below hb6) (HI.out.2.trans (hb6.mono hbs)))
        have hinfo : ∃ i, Try.prog.info? 3 = some i := by
          have := Try.info3
          cases e : Try.prog.info? 3 with
          | none => rw [e] at this; simp at this
          | some i => exact ⟨i, rfl⟩
        obtain ⟨i0, hi0⟩ := hinfo
        have heq := run_eq_ints (P := Try.prog) w6 9998 Try.underlying68 Try.underlying3 hi0 (by kernel_rfl) (mvI_len x) (mvI_len y)
        rw [← mvC_I, ← mvC_I] at heq
        clear h0 h1 h2 h3 h4 hb6 HRX HRY
        by_cases he : mvI x = mvI y
        · have hz : z = true := HF.out k hlt (by rw [HY.out]; exact he)
          have HZ := hid hz
          rw [decide_eq_true he] at heq
          clear he hz
          go_wp2
          go_ret
          exact ⟨⟨_, rfl, by rw [HZ.out]; simp⟩, HX.out.2⟩
        · rw [decide_eq_false he] at heq
          have HE2 : Hid (∀ j, j < k + 1 → mvI x ≠ mvI (l.getD j id)) := hid (fun j hj => by
            by_cases e : j = k
            · rw [e, HY.out]; exact he
            · exact HE.out j (by omega))
          clear he
          go_wp2
          go_roundw
          case rel => exact ⟨k + 1, by omega, by go_num, HX.out.1, HX.out.2, HE2⟩
          case measure => simp [intOf] <;> omega
    · obtain rfl : k = N := by omega
      have hki : ¬ (k : Int) < (k : Int) := by omega
      have HZ := hid (HNO.out HE.out)
      have HB := hid hb
      clear hb hA
      go_wp2
      go_ret
      exact ⟨⟨_, rfl, by rw [HZ.out]; simp⟩, HB.out⟩

theorem contains_mv (x : Nat → Nat) (v : Value) (l : List (Nat → Nat)) (w : World) (hl : RM w v l) (hlen : l.length ≤ 1000000000) :
    Calls Try.prog 53 #[v, .agg (mvC x).toArray] w fun e w' => e = .returned (.bool (inM x l)) ∧ Below w.heap.size w w' := by
  have hb0 : Below w.heap.size w (w.alloc (.cells (mvC x).toArray 68)) := (Below.refl _ _).alloc (Nat.le_refl _) _
  have hA : Arr (w.alloc (.cells (mvC x).toArray 68)) w.heap.size 68 (mvC x) := Arr.new _ _ _
  have HI := hid (index_mv x v l _ (hl.below hb0) hlen)
  have hr := hA.range
  have ix : (Try.prog.info? 68).map (·.size) = some (mvC x).length := by rw [mvC_len]; exact mv_info
  have HB0 := hid hb0
  obtain ⟨a, c, rfl, _⟩ := hl
  generalize inM x l = z at *
  clear hb0 hA
  go_enter Try.func53, Try.ntmps53
  go_wp2_with (first | (refine wpList_load_mid rfl 68 _ rfl w.heap.size 0 rfl (mvC x) _ hr Try.underlying68 rfl ix ?_) | fail)
  refine HI.out.mono ?_
  rintro e w1 ⟨⟨r, rfl, hrz⟩, hb1⟩
  have HB1 := hid (HB0.out.trans (hb1.mono HB0.out.size))
  clear hb1 hr
  by_cases h0 : 0 ≤ r
  · obtain rfl : z = true := hrz.1 h0
    clear hrz
    have hd := decide_eq_true h0
    go_wp2
    go_ret
    exact ⟨rfl, HB1.out⟩
  · obtain rfl : z = false := by
      cases z with
      | false => rfl
      | true => exact absurd (hrz.2 rfl) h0
    clear hrz
    have hd := decide_eq_false h0
    clear h0
    go_wp2
    go_ret
    exact ⟨rfl, HB1.out⟩
end Go.Proofs.Ytnbgnoimanpjnaa
