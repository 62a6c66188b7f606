/-
  The walk over round.Starter. Condition: the slices can be read.
-/
import Derived.Test.YtlcndccjlbahpaaRstP
import Derived.Test.YtlcndccjlbahpaaMapEnt
import Derived.Test.YtlcndccjlbahpaaLists
import Derived.BigQuiet
import Derived.BigRegion
namespace Go.Proofs.Ytlcndccjlbahpaa
set_option linter.unusedVariables false
open Go.RowKit

theorem df_mod {v X Y : Nat} (h2 : Y < v) : ((X : Int) - (Y : Int) + (v : Int)).tmod (v : Int) = (((X + v - Y) % v : Nat) : Int) := by
  rw [show ((X : Int) - (Y : Int) + (v : Int)) = ((X + v - Y : Nat) : Int) by omega, Int.ofNat_tmod]
theorem zero_int (w : World) : (zeroValue 3).run Try.prog w = .ok (.int .i64 0) w := by
  obtain ⟨i0, hi1, hz0, hz1, hz2⟩ := info_parts Try.info3
  simp [zeroValue, typeInfo, hi1, hz0, Result.andThen]

set_option maxHeartbeats 1000000 in
set_option maxRecDepth 100000 in
theorem Starter_ok (v : Nat) (u : Value) (ll : List (List Int)) (w : World) (ht : tvB v = true) (hl : RL w u ll) (hln : ll.length = (v - 1) / 2) (hb : ∀ l ∈ ll, ∀ x ∈ l, I64 x) :
    Calls Try.prog 12 #[.int .i64 v, u] w fun e w' => e = .returned (.int .i64 (stE v ll)) ∧ Below w.heap.size w w' := by
  obtain ⟨m, hm, h3, h15, hodd⟩ := tv_of ht
  obtain rfl : v = m := by omega
  have hmd : (v : Int).tmod 2 = 1 := by rw [Int.tmod_eq_emod_of_nonneg (by omega)]; omega
  have HER := hid (fun k h3 hk h4 => st_err (v := v) (ll := ll) (k := k) ht hln h3 hk h4)
  have HEN := hid (fun h3 => st_end (v := v) (ll := ll) ht hln h3)
  have hvN : v = 2 * ll.length + 1 := by omega
  have HKY := hid (fun hp => st_keys (v := v) (p := pz ll) (N := ll.length) hvN hp)
  have HVN := hid hvN
  rw [Int.toNat_natCast] at HER HEN
  obtain ⟨a, c, N, rfl, hN, hl1, hl2⟩ := hl.open
  rw [hN.out] at HER HEN HKY HVN
  have hdv : ((v : Int) - 1).tdiv 2 = (N : Int) := by
    rw [← hN.out, hln, show (v : Int) - 1 = ((v - 1 : Nat) : Int) by omega]
    exact (Int.ofNat_tdiv (v - 1) 2).symm
  have HBL : Hid (∀ i, i < N → ∀ x ∈ ll.getD i [], I64 x) := hid (fun i hi => hb _ (by
    rw [List.getD_eq_getElem?_getD, List.getElem?_eq_getElem (by rw [hN.out]; exact hi)]
    exact List.getElem_mem _))
  have HM1 : Hid (MI ((w.alloc (.map #[] 0)).alloc (.map #[] 0)) w.heap.size [] ∧ MI ((w.alloc (.map #[] 0)).alloc (.map #[] 0)) (w.heap.size + 1) [] ∧ Below w.heap.size w ((w.alloc (.map #[] 0)).alloc (.map #[] 0))) :=
    hid ⟨(MI.new w).kept (World.grownBy_alloc _ _ none) (by simp), by have := MI.new (w.alloc (.map #[] 0)); simpa using this, ((Below.refl _ _).alloc (Nat.le_refl _) _).alloc (by simp) _⟩
  have HK0 : Hid (∀ q, kyR q 0 = []) := hid fun q => rfl
  clear hl hln hb hodd ht hvN
  have hmm := @run_makeMap Try.prog
  have hN8 : N ≤ 7 := by have := HVN.out; omega
  have h3' : ¬ (v : Int) < 3 := by omega
  have h16' : ¬ (16 : Int) ≤ (v : Int) := by omega
  generalize hE : stE (v : Int) ll = E
  have HE := hid hE
  rw [hE] at HER HEN
  clear hE hl1
  obtain ⟨p, hp⟩ : ∃ p, p = pz ll := ⟨_, rfl⟩
  have HPE : Hid (∀ j, p j = (((ll.getD j [])[0]?.getD 0).toNat, ((ll.getD j [])[1]?.getD 0).toNat)) := hid (fun j => by rw [hp]; rfl)
  rw [← hp] at HEN HKY
  clear hp
  go_enter Try.func12, Try.ntmps12
  go_wp2
  go_loopw [32] (fun i wr => ∃ k : Nat, k ≤ N ∧ i = .int .i64 k ∧ Hid (∀ j, j < k → prE v (ll.getD j []) = 0) ∧ MI wr w.heap.size (kyR p k) ∧ MI wr (w.heap.size + 1) (kyR (dq v p) k) ∧ Below w.heap.size w wr) (fun i _ => N - (intOf i).toNat)
  case atStart => exact ⟨0, Nat.zero_le _, rfl, hid (fun j hj => by omega), by rw [HK0.out]; exact HM1.out.1, by rw [HK0.out]; exact HM1.out.2.1, HM1.out.2.2⟩
  case round =>
    clear HM1
    obtain ⟨k, hk, rfl, hz, hm1, hm2, hbw⟩ := hrel
    by_cases hlt : k < N
    · obtain ⟨g, off, rfl, hg, hc⟩ := hl2 (by omega)
      obtain ⟨u1, c1, s1⟩ := hc k hlt
      have c1 := (hbw.cell (p := ⟨g, off + k, none⟩) hg).trans c1
      obtain ⟨a1, cp1, N1, rfl, hN1, hl1', hl2'⟩ := s1.open
      have HERK := hid (HER.out k hz.out hlt)
      have hpk := HPE.out k
      have HBLK := hid (HBL.out k hlt)
      have HBW := hid hbw
      have HMM := hid (And.intro hm1 hm2)
      have HNX : Hid (prE v (ll.getD k []) = 0 → ∀ j, j < k + 1 → prE v (ll.getD j []) = 0) := hid (fun h j hj => by
        by_cases e : j = k
        · rw [e]; exact h
        · exact hz.out j (by omega))
      clear hc s1 hl2 hm1 hm2 hz
      by_cases hn2 : N1 = 2
      · subst hn2
        obtain ⟨b, off2, rfl, hb2, hc2⟩ := hl2' (by omega)
        have c2 := (hbw.cell (p := ⟨b, off2 + 0, none⟩) hb2).trans (hc2 0 (by omega))
        have c3 := (hbw.cell (p := ⟨b, off2 + 1, none⟩) hb2).trans (hc2 1 (by omega))
        rw [Nat.add_zero] at c2
        have HOF := hid (fun h => pr_off (v := v) (l := ll.getD k []) hN1.out h)
        have HIN := hid (fun h => pr_in (v := v) (l := ll.getD k []) hN1.out h)
        have hlen2 : (ll.getD k []).length = 2 := hN1.out
        have HI0 : I64 ((ll.getD k [])[0]?.getD 0) := HBLK.out _ (by rw [List.getElem?_eq_getElem (by omega)]; exact List.getElem_mem _)
        have HI1 : I64 ((ll.getD k [])[1]?.getD 0) := HBLK.out _ (by rw [List.getElem?_eq_getElem (by omega)]; exact List.getElem_mem _)
        clear hc2 hl2' hbw HBLK hlen2
        generalize ll.getD k [] = l1 at *
        generalize l1[0]?.getD 0 = x at *
        generalize l1[1]?.getD 0 = y at *
        unfold I64 at HI0 HI1
        by_cases hin : (1 : Int) ≤ x ∧ x < (v : Int) ∧ (1 : Int) ≤ y ∧ y < (v : Int)
        · have hz1 := HIN.out hin
          have HNX2 := hid (HNX.out hz1)
          obtain ⟨i1, i2, i3, i4⟩ := hin
          obtain ⟨X, rfl⟩ : ∃ X : Nat, x = (X : Int) := ⟨x.toNat, by omega⟩
          obtain ⟨Y, rfl⟩ : ∃ Y : Nat, y = (Y : Int) := ⟨y.toNat, by omega⟩
          rw [Int.toNat_natCast, Int.toNat_natCast] at hpk
          have HPK := hid hpk
          have t1 : ¬ (X : Int) < 1 := by omega
          have t2 : ¬ (v : Int) ≤ (X : Int) := by omega
          have t3 : ¬ (Y : Int) < 1 := by omega
          have t4 : ¬ (v : Int) ≤ (Y : Int) := by omega
          clear hpk hz1 HIN HOF HNX HERK HI0 HI1
          go_wp2
          obtain ⟨v1, st1, w1, r1, s1, g1⟩ := MI.entry (P := Try.prog) Try.underlying44 Try.underlying3 zero_int (w := wr.drew) HMM.out.1 X
          obtain ⟨w2, r2, m2, g2⟩ := s1.store (P := Try.prog) (t := 44) (.int .i64 k)
          obtain ⟨v3, st3, w3, r3, s3, g3⟩ := MI.entry (P := Try.prog) Try.underlying44 Try.underlying3 zero_int m2 Y
          obtain ⟨w4, r4, m4, g4⟩ := s3.store (P := Try.prog) (t := 44) (.int .i64 k)
          have gg := g1.trans (g2.trans (g3.trans g4))
          have hbe : some b ≠ some w.heap.size := fun e => by cases e; omega
          have hbe2 : some b ≠ some (w.heap.size + 1) := fun e => by cases e; omega
          have hsz4 : w.heap.size ≤ wr.drew.heap.size := HBW.out.size
          have HB4 := hid (HBW.out.drew.grown gg hsz4 (fun k h => by cases h; exact Nat.le_refl _))
          have d2 := gg.cell (a := ⟨b, off2, none⟩) (show wr.drew.cell? ⟨b, off2, none⟩ = _ from c2) hbe
          have d3 := gg.cell (a := ⟨b, off2 + 1, none⟩) (show wr.drew.cell? ⟨b, off2 + 1, none⟩ = _ from c3) hbe
          have HM4 := hid (And.intro m4 (MI.kept (w := wr.drew) HMM.out.2 gg (by simp)))
          clear m2 s1 s3 g1 g2 g3 g4 gg hsz4
          go_region
          clear r1 r2 r3 r4 m4 c1 c2 c3
          have q1 := df_mod (v := v) (X := X) (Y := Y) (by omega)
          have q2 := df_mod (v := v) (X := Y) (Y := X) (by omega)
          have HDQ : Hid (dq v p k = ((X + v - Y) % v, (Y + v - X) % v)) := hid (by unfold dq; rw [HPK.out])
          have l1 : (X + v - Y) % v < v := Nat.mod_lt _ (by omega)
          have l2 : (Y + v - X) % v < v := Nat.mod_lt _ (by omega)
          generalize (X + v - Y) % v = A at *
          generalize (Y + v - X) % v = B at *
          obtain ⟨v5, st5, w5, r5, s5, g5⟩ := MI.entry (P := Try.prog) Try.underlying44 Try.underlying3 zero_int (w := w4.drew) HM4.out.2 A
          obtain ⟨w6, r6, m6, g6⟩ := s5.store (P := Try.prog) (t := 44) (.int .i64 k)
          obtain ⟨v7, st7, w7, r7, s7, g7⟩ := MI.entry (P := Try.prog) Try.underlying44 Try.underlying3 zero_int m6 B
          obtain ⟨w8, r8, m8, g8⟩ := s7.store (P := Try.prog) (t := 44) (.int .i64 k)
          have e5 := g5.cell (a := ⟨b, off2, none⟩) (show w4.drew.cell? ⟨b, off2, none⟩ = _ from d2) hbe2
          have f5 := g5.cell (a := ⟨b, off2 + 1, none⟩) (show w4.drew.cell? ⟨b, off2 + 1, none⟩ = _ from d3) hbe2
          have e6 := g6.cell (a := ⟨b, off2, none⟩) e5 hbe2
          have f6 := g6.cell (a := ⟨b, off2 + 1, none⟩) f5 hbe2
          have gg := g5.trans (g6.trans (g7.trans g8))
          have hsz8 : w.heap.size ≤ w4.drew.heap.size := HB4.out.size
          have HB8 := hid (HB4.out.drew.grown gg hsz8 (fun k h => by cases h; omega))
          have HM8 := hid (And.intro (MI.kept (w := w4.drew) HM4.out.1 gg (by simp)) m8)
          clear m6 s5 s7 g5 g6 g7 g8 gg m8 HB4 HM4 HMM
          go_wp2
          go_region
          go_wp2
          go_roundw
          case rel =>
            refine ⟨k + 1, by omega, by go_num, HNX2, ?_, ?_, HB8.out⟩
            · have := HM8.out.1
              rw [kyR, HPK.out]
              exact this
            · have := HM8.out.2
              rw [kyR, HDQ.out]
              exact this
          case measure => simp [intOf] <;> omega
        · have hE1 := HOF.out hin
          have HE1 := hid ((HERK.out (by rw [hE1]; decide)).trans hE1)
          clear HIN HOF HNX HERK hpk hE1
          rcases Classical.em ((1 : Int) ≤ x) with i1 | i1
          · rcases Classical.em (x < (v : Int)) with i2 | i2
            · rcases Classical.em ((1 : Int) ≤ y) with i3 | i3
              · have i4 : ¬ y < (v : Int) := fun h => hin ⟨i1, i2, i3, h⟩
                have t1 : ¬ x < 1 := by omega
                have t2 : ¬ (v : Int) ≤ x := by omega
                have t3 : ¬ y < 1 := by omega
                have t4 : (v : Int) ≤ y := by omega
                clear hin i1 i2 i3 i4
                go_wp2
                go_ret
                exact ⟨by rw [HE1.out]; rfl, HBW.out⟩
              · have t1 : ¬ x < 1 := by omega
                have t2 : ¬ (v : Int) ≤ x := by omega
                have t3 : y < 1 := by omega
                clear hin i1 i2 i3
                go_wp2
                go_ret
                exact ⟨by rw [HE1.out]; rfl, HBW.out⟩
            · have t1 : ¬ x < 1 := by omega
              have t2 : (v : Int) ≤ x := by omega
              clear hin i1 i2
              go_wp2
              go_ret
              exact ⟨by rw [HE1.out]; rfl, HBW.out⟩
          · have t1 : x < 1 := by omega
            clear hin i1
            go_wp2
            go_ret
            exact ⟨by rw [HE1.out]; rfl, HBW.out⟩
      · have hE1 := pr_len (v := v) (l := ll.getD k []) (by rw [hN1.out]; exact hn2)
        have HE1 := hid ((HERK.out (by rw [hE1]; decide)).trans hE1)
        have hq : ((N1 : Int) != 2) = true := by simp; omega
        clear hl2' hpk HNX HERK hE1 hn2 hbw hmd hdv
        go_wp2
        go_ret
        exact ⟨by rw [HE1.out]; rfl, HBW.out⟩
    · obtain rfl : k = N := by omega
      have hEN := HEN.out hz.out
      have hKY := HKY.out (fun j hj => by
        obtain ⟨_, h5⟩ := pr_zero (hz.out j hj)
        rw [HPE.out j]
        simp only
        omega)
      have hlen1 := hm1.len (P := Try.prog) Try.underlying44
      have hlen2 := hm2.len (P := Try.prog) Try.underlying44
      have HBW := hid hbw
      clear hl2 hbw hm1 hm2 hz
      generalize (kyR p k).length = L1 at *
      generalize (kyR (dq v p) k).length = L2 at *
      cases hcov : (covB v (alR p k) && covB v (alR (dq v p) k)) with
      | false =>
        rw [hcov] at hEN hKY
        have hor := hKY.2 rfl
        have HE1 := hid hEN
        clear hKY hEN hcov
        by_cases h1 : L1 < v - 1
        · have t1 : (L1 : Int) < (v : Int) - 1 := by omega
          clear hor h1
          go_wp2
          go_ret
          exact ⟨by rw [HE1.out]; rfl, HBW.out⟩
        · have h2 : L2 < v - 1 := by omega
          have t1 : ¬ (L1 : Int) < (v : Int) - 1 := by omega
          have t2 : (L2 : Int) < (v : Int) - 1 := by omega
          clear hor h1 h2
          go_wp2
          go_ret
          exact ⟨by rw [HE1.out]; rfl, HBW.out⟩
      | true =>
        rw [hcov] at hEN hKY
        have hnor : ¬ (L1 < v - 1 ∨ L2 < v - 1) := fun h => by cases hKY.1 h
        have HE1 := hid hEN
        have t1 : ¬ (L1 : Int) < (v : Int) - 1 := by omega
        have t2 : ¬ (L2 : Int) < (v : Int) - 1 := by omega
        clear hKY hEN hcov hnor
        go_wp2
        go_ret
        exact ⟨by rw [HE1.out]; rfl, HBW.out⟩

theorem tv_no {v : Int} (h : tvB v = false) : ¬ (3 ≤ v ∧ v ≤ 15 ∧ v.tmod 2 = 1) := by
  intro ⟨h1, h2, h3⟩
  unfold tvB at h
  rw [decide_eq_false_iff_not] at h
  rw [Int.tmod_eq_emod_of_nonneg (by omega)] at h3
  omega

set_option maxHeartbeats 1000000 in
set_option maxRecDepth 100000 in
theorem Starter_any (v : Int) (u : Value) (ll : List (List Int)) (w : World) (hv : I64 v) (hl : RL w u ll) (hb : ∀ l ∈ ll, ∀ x ∈ l, I64 x) :
    Calls Try.prog 12 #[.int .i64 v, u] w fun e w' => e = .returned (.int .i64 (stE v ll)) ∧ Below w.heap.size w w' := by
  cases ht : tvB v with
  | false =>
    rw [st_bad ht]
    have hq := tv_no ht
    unfold I64 at hv
    obtain ⟨a, c, N, rfl, hN, hl1, hl2⟩ := hl.open
    clear ht hl hb hl2
    by_cases h1 : v < 3
    · clear hq
      go_enter Try.func12, Try.ntmps12
      go_wp2
      go_ret
      exact ⟨rfl, Below.refl _ _⟩
    · by_cases h2 : 16 ≤ v
      · clear hq
        go_enter Try.func12, Try.ntmps12
        go_wp2
        go_ret
        exact ⟨rfl, Below.refl _ _⟩
      · have h3 : v.tmod 2 = 0 := by
          rw [Int.tmod_eq_emod_of_nonneg (by omega)] at hq ⊢
          omega
        clear hq
        go_enter Try.func12, Try.ntmps12
        go_wp2
        go_ret
        exact ⟨rfl, Below.refl _ _⟩
  | true =>
    obtain ⟨m, rfl, h3, h15, hodd⟩ := tv_of ht
    by_cases hln : ll.length = (m - 1) / 2
    · exact Starter_ok m u ll w ht hl hln hb
    · rw [st_shape ht (by rw [Int.toNat_natCast]; exact hln)]
      have hmd : (m : Int).tmod 2 = 1 := by rw [Int.tmod_eq_emod_of_nonneg (by omega)]; omega
      have hdv : ((m : Int) - 1).tdiv 2 = (((m - 1) / 2 : Nat) : Int) := by
        rw [show (m : Int) - 1 = ((m - 1 : Nat) : Int) by omega]
        exact (Int.ofNat_tdiv (m - 1) 2).symm
      obtain ⟨a, c, N, rfl, hN, hl1, hl2⟩ := hl.open
      rw [hN.out] at hln
      have h3' : ¬ (m : Int) < 3 := by omega
      have h16' : ¬ (16 : Int) ≤ (m : Int) := by omega
      have hh7 : (m - 1) / 2 ≤ 7 := by omega
      generalize (m - 1) / 2 = h at *
      have hq : ((N : Int) != (h : Int)) = true := by simp; omega
      clear ht hl hb hl2 hln
      go_enter Try.func12, Try.ntmps12
      go_wp2
      go_ret
      exact ⟨rfl, Below.refl _ _⟩
end Go.Proofs.Ytlcndccjlbahpaa
