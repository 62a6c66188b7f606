/-
  The walk over parterrelaw4.WordNext: for every k and word it returns true. Condition: the slice can be read.
-/
import Derived.Test.YtiohfgofoklncaaWnextof
namespace Go.Proofs.Ytiohfgofoklncaa
open Go.RowKit

theorem wordNext_range (w : World) (k : Int) (v : Value) (l : List Int) (hl : Sl w v l) (h1 : k < 1 ∨ 10 < k) :
    Calls Try.prog 8 #[.int .i64 k, v] w fun e w' => e = .returned (.bool true) ∧ Below w.heap.size w w' := by
  have HN := hid (fun w => Next_range k v w h1)
  obtain ⟨a, c, N, rfl, hNl, hl1, hl2⟩ := hl.open
  clear hl hl2
  by_cases h2 : k < 1
  · go_enter Try.func8, Try.ntmps8
    go_wp2
    refine wp_loop_rounds 1 ?_
    rw [rounds_succ]
    by_cases h0 : 0 < N
    all_goals
      go_wp2_with fail
      refine (HN.out _).mono ?_
      rintro e w' ⟨rfl, hb⟩
      go_wp2
      go_ret
      exact ⟨rfl, hb⟩
  · have h3 : 10 < k := by omega
    go_enter Try.func8, Try.ntmps8
    go_wp2
    refine wp_loop_rounds 1 ?_
    rw [rounds_succ]
    by_cases h0 : 0 < N
    all_goals
      go_wp2_with fail
      refine (HN.out _).mono ?_
      rintro e w' ⟨rfl, hb⟩
      go_wp2
      go_ret
      exact ⟨rfl, hb⟩

theorem wordNext_fault (w : World) (k : Int) (v : Value) (l : List Int) (hl : Sl w v l) (hb : ∀ x ∈ l, I64 x) (h1 : 1 ≤ k) (h2 : k ≤ 10) (h3 : wordFault l ≠ 0) :
    Calls Try.prog 8 #[.int .i64 k, v] w fun e w' => e = .returned (.bool true) ∧ Below w.heap.size w w' := by
  have HW := hid (wordfault_any v l w hl)
  have HN := hid (fun n => Next_fault k v l (w.drewN n) (hl.drewN n) hb h1 h2 h3)
  have hq : (wordFault l != 0) = true := by simpa using h3
  have hq2 : (wordFault l == 0) = false := by simpa using h3
  generalize wordFault l = ee at *
  obtain ⟨a, c, N, rfl, hNl, hl1, hl2⟩ := hl.open
  clear hl hl2 h3
  go_enter Try.func8, Try.ntmps8
  go_wp2_with fail
  refine HW.out.mono ?_
  rintro e w' ⟨rfl, ⟨n, rfl⟩⟩
  go_wp2
  refine wp_loop_rounds 1 ?_
  rw [rounds_succ]
  by_cases h0 : 0 < N
  all_goals
    go_wp2_with fail
    refine (HN.out n).mono ?_
    rintro e w' ⟨rfl, hb⟩
    have hfin := (below_drewN (Below.refl w.heap.size w) n).trans hb
    go_wp2
    go_ret
    exact ⟨rfl, hfin⟩

theorem big_true {k : Int} {l : List Int} {i : Nat} (h : i < l.length) (hk : k ≤ l[i]?.getD 0) : tooBig k l = true := any_true h (by simpa using hk)
theorem big_false {k : Int} {l : List Int} (h : ∀ i, i < l.length → l[i]?.getD 0 < k) : tooBig k l = false := any_false (fun i hi => by have := h i hi; simp; omega)

set_option maxHeartbeats 1000000 in
theorem wordNext_good (w : World) (k : Int) (v : Value) (l : List Int) (hl : Sl w v l) (hb : ∀ x ∈ l, I64 x) (h1 : 1 ≤ k) (h2 : k ≤ 10) (h3 : wordFault l = 0) :
    Calls Try.prog 8 #[.int .i64 k, v] w fun e w' => e = .returned (.bool true) ∧ Below w.heap.size w w' := by
  have hW := wordfault_any v l w hl
  rw [h3] at hW
  have HW := hid hW
  have hlen := fault_len h3
  have HSM := hid (smk_of (k := k) h3)
  have HBIG := hid (fun n h => Next_big k v l (w.drewN n) (hl.drewN n) hb h1 h2 h3 h)
  have HSH := hid (fun n h h' => Next_shape k v l (w.drewN n) (hl.drewN n) hb h1 h2 h3 h h')
  have HGO := hid (fun n h h' => Next_go k v l (w.drewN n) (hl.drewN n) hb h1 h2 h3 h h')
  clear hW h3
  have hl0 := hl
  obtain ⟨a, c, N, rfl, hNl, hl1, hl2⟩ := hl.open
  rw [hNl.out] at hlen
  go_enter Try.func8, Try.ntmps8
  go_wp2_with fail
  refine HW.out.mono ?_
  rintro e w' ⟨rfl, ⟨n, rfl⟩⟩
  go_wp2
  go_loop [5, 6] (fun e i => ∃ j : Nat, j ≤ N ∧ i = .int .i64 j ∧ ((e = .int .i64 0 ∧ Hid (∀ t, t < j → l[t]?.getD 0 < k)) ∨ (e = .int .i64 1 ∧ Hid (tooBig k l = true)))) (fun _ i => N - (intOf i).toNat)
  case atStart => exact ⟨0, Nat.zero_le _, rfl, .inl ⟨rfl, hid (fun t h => by omega)⟩⟩
  case round =>
    obtain ⟨j, hj, rfl, ⟨rfl, hall⟩ | ⟨rfl, hbig⟩⟩ := hrel
    · by_cases hlt : j < N
      · obtain ⟨b, off, rfl, hbl, hc⟩ := hl2 (by omega)
        have c1 := hc j hlt
        clear hc hl2
        by_cases hk : k ≤ l[j]?.getD 0
        · have HB := hid (big_true (by rw [hNl.out]; exact hlt) hk)
          go_wp2
          go_round
          case rel => exact ⟨j + 1, by omega, by go_num, .inr ⟨rfl, HB⟩⟩
          case measure => simp [intOf] <;> omega
        · go_wp2
          go_round
          case rel => exact ⟨j + 1, by omega, by go_num, .inl ⟨rfl, hid (fun t ht => by
            by_cases e : t = j
            · rw [e]; omega
            · exact hall.out t (by omega))⟩⟩
          case measure => simp [intOf] <;> omega
      · obtain rfl : j = N := by omega
        have hnb := big_false (k := k) (l := l) (fun i hi => hall.out i (by rw [hNl.out] at hi; exact hi))
        have hsm := HSM.out hnb
        clear hl2 hall
        cases hly : Lex.lynB l with
        | false =>
          have hN := HSH.out n hnb hly
          have HN := hid hN
          have HLY := hid hly
          clear hN hly hnb
          by_cases h60 : 60 < j
          · go_wp2_with fail
            refine HN.out.mono ?_
            rintro e w' ⟨rfl, hb'⟩
            have hfin := (below_drewN (Below.refl w.heap.size w) n).trans hb'
            go_wp2
            go_ret
            exact ⟨rfl, hfin⟩
          · go_wp2_with fail
            refine HN.out.mono ?_
            rintro e w' ⟨rfl, hb'⟩
            have hfin := (below_drewN (Below.refl w.heap.size w) n).trans hb'
            go_wp2_with fail
            refine (lyndonof_any _ l _ (hl0.below hfin)).mono ?_
            rintro e w2 ⟨rfl, ⟨n2, rfl⟩⟩
            rw [HLY.out]
            go_wp2
            go_ret
            exact ⟨rfl, below_drewN hfin _⟩
        | true =>
          have HN := hid (HGO.out n hnb hly)
          have HLY := hid hly
          have HNO := hid (fun (w1 : World) (h : Below w.heap.size w w1) => nextof_any k _ l w1 (hl0.below h) h1 h2 hsm hly (by rw [hNl.out]; exact hlen))
          have hnl := nextL_len k l l.length
          rw [hNl.out] at hnl HN HNO
          generalize nextL k l j = R at *
          clear hly hnb
          generalize hne : nextErr R.length = ne at *
          have HNE := hid hne
          clear hne
          by_cases h60 : 60 < j
          · go_wp2_with fail
            refine HN.out.mono ?_
            rintro e w' ⟨⟨u, rfl, hu⟩, hb'⟩
            have hfin := (below_drewN (Below.refl w.heap.size w) n).trans hb'
            go_wp2
            go_ret
            exact ⟨rfl, hfin⟩
          · by_cases h8 : 8 < j
            · go_wp2_with fail
              refine HN.out.mono ?_
              rintro e w' ⟨⟨u, rfl, hu⟩, hb'⟩
              have hfin := (below_drewN (Below.refl w.heap.size w) n).trans hb'
              go_wp2_with fail
              refine (lyndonof_any _ l _ (hl0.below hfin)).mono ?_
              rintro e w2 ⟨rfl, ⟨n2, rfl⟩⟩
              rw [HLY.out]
              go_wp2
              go_ret
              exact ⟨rfl, below_drewN hfin _⟩
            · go_wp2_with fail
              refine HN.out.mono ?_
              rintro e w' ⟨⟨u, rfl, hu⟩, hb'⟩
              have hfin := (below_drewN (Below.refl w.heap.size w) n).trans hb'
              go_wp2_with fail
              refine (lyndonof_any _ l _ (hl0.below hfin)).mono ?_
              rintro e w2 ⟨rfl, ⟨n2, rfl⟩⟩
              rw [HLY.out]
              go_wp2_with fail
              refine (HNO.out _ (below_drewN hfin n2)).mono ?_
              rintro e w3 ⟨⟨u2, rfl, hu2⟩, hb3⟩
              have hfin3 := (below_drewN hfin n2).trans (hb3.mono (below_drewN hfin n2).size)
              go_wp2_with fail
              refine (ints_any _ _ R R _ (((hu.drewN n2).below hb3).sl (by omega)) (hu2.sl (by omega))).mono ?_
              rintro e w4 ⟨rfl, ⟨n4, rfl⟩⟩
              clear hb3 hu hu2 hb'
              go_wp2
              go_ret
              exact ⟨rfl, below_drewN hfin3 _⟩
    · have HN := hid (HBIG.out n hbig.out)
      clear hl2
      by_cases hlt : j < N
      all_goals
        go_wp2_with fail
        refine HN.out.mono ?_
        rintro e w' ⟨rfl, hb'⟩
        have hfin := (below_drewN (Below.refl w.heap.size w) n).trans hb'
        go_wp2
        go_ret
        exact ⟨rfl, hfin⟩

theorem wordNext_walk (w : World) (k : Int) (_ : I64 k) (v : Value) (l : List Int) (hl : Sl w v l) (hb : ∀ x ∈ l, I64 x) :
    Calls Try.prog 8 #[.int .i64 k, v] w fun e w' => e = .returned (.bool true) ∧ Below w.heap.size w w' := by
  by_cases h1 : k < 1 ∨ 10 < k
  · exact wordNext_range w k v l hl h1
  by_cases h3 : wordFault l = 0
  · exact wordNext_good w k v l hl hb (by omega) (by omega) h3
  · exact wordNext_fault w k v l hl hb (by omega) (by omega) h3
end Go.Proofs.Ytiohfgofoklncaa
