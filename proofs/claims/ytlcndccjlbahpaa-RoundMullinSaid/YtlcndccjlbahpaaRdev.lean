/-
  The walks over round.Develop and parterreref4.RoundsOf. Condition: the slices can be read.
-/
import Derived.Test.YtlcndccjlbahpaaRstrong
namespace Go.Proofs.Ytlcndccjlbahpaa
set_option linter.unusedVariables false
open Go.RowKit

def psT (ll : List (List Int)) (k : Nat) : List (Nat × Nat) := (List.range k).map (pz ll)
theorem psT_succ (ll : List (List Int)) (k : Nat) : psT ll (k + 1) = psT ll k ++ [pz ll k] := by simp [psT, List.range_succ]
theorem psT_len (ll : List (List Int)) (k : Nat) : (psT ll k).length = k := by simp [psT]
theorem psT_lt {v : Nat} {ll : List (List Int)} (h : ∀ j, j < ll.length → prE v (ll.getD j []) = 0) : ∀ p ∈ psT ll ll.length, p.1 < v ∧ p.2 < v := by
  intro p hp
  simp only [psT, List.mem_map, List.mem_range] at hp
  obtain ⟨j, hj, rfl⟩ := hp
  have := pz_spec (h j hj)
  omega
/-- The starter, developed. -/
def dvL (v : Nat) (ll : List (List Int)) : List (List Int) := arR v (psT ll ll.length) v

set_option maxHeartbeats 1000000 in
set_option maxRecDepth 100000 in
theorem Develop_err (v : Int) (u : Value) (ll : List (List Int)) (w : World) (hv : I64 v) (hl : RL w u ll) (hb : ∀ l ∈ ll, ∀ x ∈ l, I64 x) (hz : stE v ll ≠ 0) :
    Calls Try.prog 14 #[.int .i64 v, u] w fun e w' => e = .returned (.tuple #[.slice none 0 0, .int .i64 (stE v ll)]) ∧ Below w.heap.size w w' := by
  have HC := hid (Starter_any v u ll w hv hl hb)
  have hq : (stE v ll != 0) = true := by simpa using hz
  obtain ⟨a, c, rfl, hl1, _⟩ := hl
  generalize ll.length = N at *
  clear hz hb
  generalize stE v ll = E at *
  go_enter Try.func14, Try.ntmps14
  go_wp2_with fail
  refine HC.out.mono ?_
  rintro e w1 ⟨rfl, hb1⟩
  have HB := hid hb1
  clear hb1
  go_wp2
  go_ret2
  exact ⟨rfl, HB.out⟩

set_option maxHeartbeats 1000000 in
set_option maxRecDepth 100000 in
theorem Develop_ok (v : Nat) (u : Value) (ll : List (List Int)) (w : World) (hl : RL w u ll) (hb : ∀ l ∈ ll, ∀ x ∈ l, I64 x) (hz : stE v ll = 0) :
    Calls Try.prog 14 #[.int .i64 v, u] w fun e w' => (∃ u', e = .returned (.tuple #[u', .int .i64 0]) ∧ OL w.heap.size w'.heap.size w' u' (dvL v ll)) ∧ Below w.heap.size w w' := by
  obtain ⟨m, hm, h3, h15, hmN, hp, _, _⟩ := st_zero hz
  obtain rfl : v = m := by omega
  have HST := hid (Starter_any v u ll w (by unfold I64; omega) hl hb)
  rw [hz] at HST
  have HPZ := hid (fun j hj => pz_spec (v := v) (ll := ll) (j := j) (hp j hj))
  have HRO := hid (fun (u : Value) (w1 : World) (h : PR w1 u (psT ll ll.length)) => rounds_ok v u (psT ll ll.length) w1 (by omega) (by omega) h (psT_lt hp))
  have HDV : Hid (arR v (psT ll ll.length) v = dvL v ll) := hid rfl
  have HPS := hid (psT_succ ll)
  have HPL := hid (psT_len ll)
  have HP0 : Hid (psT ll 0 = []) := hid rfl
  obtain ⟨a, c, N, rfl, hN, hl1, hl2⟩ := hl.open
  rw [hN.out] at HPZ HRO HDV hmN
  generalize dvL v ll = DV at *
  have hN8 : N ≤ 7 := by clear hl2; omega
  have HL := hid hl2
  clear hl hz hp hl2 hmN hm hb
  go_enter Try.func14, Try.ntmps14
  go_wp2_with fail
  refine HST.out.mono ?_
  rintro e w1 ⟨rfl, hb1⟩
  have HB1 := hid hb1
  clear hb1 HST
  go_wp2
  go_loopw [7, 18] (fun s i wr => ∃ k : Nat, k ≤ N ∧ i = .int .i64 k ∧ OP w.heap.size wr s (psT ll k) ∧ Below w.heap.size w wr) (fun _ i _ => N - (intOf i).toNat)
  case atStart => exact ⟨0, Nat.zero_le _, rfl, by rw [HP0.out]; exact OP.nil _ _, HB1.out⟩
  case round =>
    clear HB1
    obtain ⟨k, hk, rfl, ho, hbw⟩ := hrel
    by_cases hlt : k < N
    · obtain ⟨g, off, rfl, hg, hc⟩ := HL.out (by omega)
      obtain ⟨u1, c1, s1⟩ := hc k hlt
      have c1 := (hbw.cell (p := ⟨g, off + k, none⟩) hg).trans c1
      obtain ⟨a1, cp1, N1, rfl, hN1, hl1', hl2'⟩ := s1.open
      obtain ⟨z1, z2, z3, z4, z5, z6, z7⟩ := HPZ.out k hlt
      obtain rfl : N1 = 2 := by rw [← hN1.out]; exact z1
      obtain ⟨b, off2, rfl, hb2, hc2⟩ := hl2' (by omega)
      have c2 := (hbw.cell (p := ⟨b, off2 + 0, none⟩) hb2).trans (hc2 0 (by omega))
      have c3 := (hbw.cell (p := ⟨b, off2 + 1, none⟩) hb2).trans (hc2 1 (by omega))
      rw [Nat.add_zero, z2] at c2
      rw [z3] at c3
      have HNW := hid (HPS.out k)
      have hlen : (psT ll k).length ≤ 1000000000000 := by rw [HPL.out]; omega
      have hszw : w.heap.size ≤ wr.heap.size := hbw.size
      have HBW := hid hbw
      clear hc hc2 s1 hl2' z1 z2 z3 hbw
      generalize (pz ll k) = pq at *
      obtain ⟨X, Y⟩ := pq
      simp only at z4 z5 z6 z7 c2 c3
      go_wp2
      go_region_law (refine step_appp (X, Y) wr _ _ 39 rfl rfl Try.underlying39 Try.info40 w.heap.size u7 (psT ll k) rfl ho rfl hlen hszw ?_; intro g3 c5 w4 hown1 hg1 hg2 hg3)
      all_goals
        (have hown2 := hown1
         rw [← HNW.out] at hown2
         have HX := hid (And.intro hown2 (HBW.out.grown hg1 hszw (fun b e => (ho.lt b e).1)))
         clear hown1 hown2 hg1 hg2 hg3 ho
         go_wp2
         go_roundw
         case rel => exact ⟨k + 1, by omega, by go_num, HX.out.1, HX.out.2⟩
         case measure => simp [intOf] <;> omega)
    · obtain rfl : k = N := by omega
      have HC := hid (HRO.out u7 wr (ho.pr (by rw [HPL.out]; omega)))
      have HB := hid hbw
      clear ho hbw
      go_wp2_with fail
      refine HC.out.mono ?_
      rintro e w2 ⟨⟨u2, rfl, hu2⟩, hb2⟩
      rw [HDV.out] at hu2
      have HX := hid (And.intro (hu2.mono HB.out.size (Nat.le_refl _)) (HB.out.trans (hb2.mono HB.out.size)))
      clear hu2 hb2
      go_wp2
      go_ret2
      exact ⟨⟨_, rfl, HX.out.1⟩, HX.out.2⟩

theorem arL_psT (v r : Nat) (ll : List (List Int)) (k : Nat) : arL v r (psT ll (k + 1)) = arS v r (arL v r (psT ll k)) (pz ll k) := by
  rw [psT_succ]
  simp only [arL, List.foldl_append, List.foldl_cons, List.foldl_nil]

set_option maxHeartbeats 2000000 in
set_option maxRecDepth 100000 in
theorem RoundsOf_ok (v : Nat) (u : Value) (ll : List (List Int)) (w : World) (hl : RL w u ll) (hz : stE v ll = 0) :
    Calls Try.prog 16 #[.int .i64 v, u] w fun e w' => (∃ u', e = .returned u' ∧ OL w.heap.size w'.heap.size w' u' (dvL v ll)) ∧ Below w.heap.size w w' := by
  obtain ⟨m, hm, h3, h15, hmN, hp, _, _⟩ := st_zero hz
  obtain rfl : v = m := by omega
  have HPZ := hid (fun j hj => pz_spec (v := v) (ll := ll) (j := j) (hp j hj))
  have HDV : Hid (arR v (psT ll ll.length) v = dvL v ll) := hid rfl
  have HLEN : Hid (∀ r k, (arL v r (psT ll k)).length = v + 1) := hid (fun r k => by unfold arL; rw [arL_len]; simp [ar0])
  have HST := hid (fun r k => arL_psT v r ll k)
  have HT0 : Hid (∀ r, arL v r (psT ll 0) = ((List.replicate (v + 1) (0 : Int)).set v (r : Int)).set r (v : Int)) := hid fun r => rfl
  have HS := hid (arR_succ v (psT ll ll.length))
  have HAL := hid (arR_len v (psT ll ll.length))
  have H0 : Hid (arR v (psT ll ll.length) 0 = []) := hid rfl
  obtain ⟨a, c, N, rfl, hN, hl1, hl2⟩ := hl.open
  rw [hN.out] at HPZ HDV hmN HS HAL H0
  generalize dvL v ll = DV at *
  have hN8 : N ≤ 7 := by clear hl2; omega
  have HL := hid hl2
  have hv2 : (v : Int) < (v : Int) + 1 := by omega
  have hcast : Hid (((v : Int) + 1) = ((v + 1 : Nat) : Int)) := hid (by omega)
  clear hl hz hp hl2 hmN hm
  go_enter Try.func16, Try.ntmps16
  go_wp2
  go_loopw [5, 6, 7, 8, 9, 10] (fun s i _ _ _ _ wr => ∃ r : Nat, r ≤ v ∧ i = .int .i64 r ∧ OL w.heap.size wr.heap.size wr s (arR v (psT ll N) r) ∧ Below w.heap.size w wr) (fun _ i _ _ _ _ _ => v - (intOf i).toNat)
  case atStart => exact ⟨0, Nat.zero_le _, rfl, by rw [H0.out]; exact OL.nil _ _ _, Below.refl _ _⟩
  case round =>
    obtain ⟨r, hr, rfl, ho, hb⟩ := hrel
    by_cases hrv : r < v
    · have hr2 : (r : Int) < (v : Int) + 1 := by omega
      have HO := hid (And.intro ho hb)
      have hwz : w.heap.size ≤ wr.heap.size := hb.size
      have HNX := hid (HS.out r)
      have HLN := hid (HAL.out r)
      clear ho hb
      generalize arR v (psT ll N) r = AR at *
      go_wp2_with (at_make; refine wpList_mk (w := wr) _ _ 38 3 (.int .i64 0) 8 rfl rfl Try.underlying38 Try.info3 rfl (by decide) wr.heap.size _ (v + 1) rfl rfl hcast.out (by omega) (Nat.le_refl _) ?_; intro w3 hs3 hgr3 hz3; have ho3 : OI wr.heap.size w3 (.slice (some ⟨wr.heap.size, 0, none⟩) (v + 1) (v + 1)) (List.replicate (v + 1) (0 : Int)) := (by unfold OI; rw [List.map_replicate]; exact hs3); have c1 := ho3.cell v (by simp); have f1 := ho3.frozen v; have q1 := ho3.stored v (r : Int); have c2 := q1.1.cell r (by simp; omega); have f2 := q1.1.frozen r; have q2 := q1.1.stored r (v : Int); have hgA : wr.grownBy w3 (some wr.heap.size) := ⟨hgr3.os, hgr3.tape, hgr3.output, hgr3.size, fun k hk _ => hgr3.block k hk (by simp)⟩; have hgB := hgA.trans (q1.2.trans q2.2); have HX := hid (And.intro q2.1 (And.intro (HO.out.1.kept hgB (fun k hk => by cases hk; exact .inr (Nat.le_refl _))) (And.intro (HO.out.2.grown hgB hwz (fun k h => by cases h; exact hwz)) (Nat.lt_of_lt_of_le hz3 (Nat.le_trans q1.2.size q2.2.size))))); clear hs3 hgr3 ho3 q1 q2 hgA hgB)
      clear HO
      rw [← HT0.out r] at HX
      generalize (List.replicate (v + 1) (0 : Int)).getD v 0 = old1 at *
      generalize ((List.replicate (v + 1) (0 : Int)).set v (r : Int)).getD r 0 = old2 at *
      generalize hH : wr.heap.size = H at *
      clear hH
      go_loopw [8, 9, 10] (fun i _ _ wq => ∃ k : Nat, k ≤ N ∧ i = .int .i64 k ∧ OI H wq (.slice (some ⟨H, 0, none⟩) (v + 1) (v + 1)) (arL v r (psT ll k)) ∧ OL w.heap.size H wq u5 AR ∧ Below w.heap.size w wq ∧ H < wq.heap.size) (fun i _ _ _ => N - (intOf i).toNat)
      case atStart => exact ⟨0, Nat.zero_le _, rfl, HX.out.1, HX.out.2.1, HX.out.2.2.1, HX.out.2.2.2⟩
      case round =>
        clear HX
        obtain ⟨k, hk, rfl, ho, hol, hb, hwl⟩ := hrel
        by_cases hlt : k < N
        · obtain ⟨g, off, rfl, hg, hc⟩ := HL.out (by omega)
          obtain ⟨u1, c1, s1⟩ := hc k hlt
          have c1 := (hb.cell (p := ⟨g, off + k, none⟩) hg).trans c1
          obtain ⟨a1, cp1, N1, rfl, hN1, hl1', hl2'⟩ := s1.open
          obtain ⟨z1, z2, z3, z4, z5, z6, z7⟩ := HPZ.out k hlt
          obtain rfl : N1 = 2 := by rw [← hN1.out]; exact z1
          obtain ⟨b, off2, rfl, hb2, hc2⟩ := hl2' (by omega)
          have c2 := (hb.cell (p := ⟨b, off2 + 0, none⟩) hb2).trans (hc2 0 (by omega))
          have c3 := (hb.cell (p := ⟨b, off2 + 1, none⟩) hb2).trans (hc2 1 (by omega))
          rw [Nat.add_zero, z2] at c2
          rw [z3] at c3
          have HSK := hid (HST.out r k)
          have hDl := HLEN.out r k
          have HW := hid (And.intro hol hb)
          clear hc hc2 s1 hl2' z1 z2 z3 hol hb
          generalize (pz ll k) = pq at *
          obtain ⟨x, y⟩ := pq
          simp only at z4 z5 z6 z7 c2 c3
          have m1 := tm_nat x r v
          have m2 := tm_nat y r v
          have b1 : (x + r) % v < v := Nat.mod_lt _ (by omega)
          have b2 : (y + r) % v < v := Nat.mod_lt _ (by omega)
          have HSS : Hid (arL v r (psT ll (k + 1)) = ((arL v r (psT ll k)).set ((x + r) % v) (((y + r) % v : Nat) : Int)).set ((y + r) % v) (((x + r) % v : Nat) : Int)) := HSK
          clear HSK
          generalize arL v r (psT ll k) = DK at *
          generalize (x + r) % v = x' at *
          generalize (y + r) % v = y' at *
          have hbx : (x' : Int) < (v : Int) + 1 := by omega
          have hby : (y' : Int) < (v : Int) + 1 := by omega
          have e1 := ho.cell x' (by rw [hDl]; omega)
          have g1 := ho.frozen x'
          have q1 := ho.stored x' (y' : Int)
          have e2 := q1.1.cell y' (by rw [List.length_set, hDl]; omega)
          have g2 := q1.1.frozen y'
          have q2 := q1.1.stored y' (x' : Int)
          rw [← HSS.out] at q2
          have hgB := q1.2.trans q2.2
          have HX := hid (And.intro q2.1 (And.intro (HW.out.1.kept hgB (fun k hk => by cases hk; exact .inr (Nat.le_refl _))) (And.intro (HW.out.2.grown hgB HW.out.2.size (fun k h => by cases h; exact hwz)) (Nat.lt_of_lt_of_le hwl (Nat.le_trans q1.2.size q2.2.size)))))
          clear q1 q2 hgB ho HW hwl hDl
          generalize DK.getD x' 0 = o1 at *
          generalize (DK.set x' (y' : Int)).getD y' 0 = o2 at *
          go_wp2
          go_roundw
          case rel => exact ⟨k + 1, by omega, by go_num, HX.out.1, HX.out.2.1, HX.out.2.2.1, HX.out.2.2.2⟩
          case measure => simp [intOf] <;> omega
        · obtain rfl : k = N := by omega
          have HQ := hid ho
          have HB := hid hb
          obtain ⟨vs, o1, o2, o3, o4⟩ := hol
          have hvs : vs.length ≤ 1000000000000 := by rw [o3, HLN.out]; omega
          have HP2 := hid o2
          have HP3 := hid o3
          have HP4 := hid o4
          have hB : w.heap.size ≤ wr.heap.size := hb.size
          clear o2 o3 o4 ho hb
          go_wp2_with (at_builtin; refine wpList_app wr _ _ 22 38 (.slice none 0 0) 24 rfl rfl Try.underlying22 Try.info38 rfl (by decide) w.heap.size u5 vs rfl o1 rfl rfl hvs hB ?_; intro g4 c4 w5 hown1 hg1 hg2 hg3)
          have hol2 := OL.snoc o1 HP2.out HP3.out HP4.out HQ.out hwz hown1 hg1
          have HEND := hid (And.intro hol2 (HB.out.grown hg1 hB (fun b e => (o1.lt b e).1)))
          clear hol2 hown1 hg1 hg2 hg3 o1
          go_roundw
          case rel => exact ⟨r + 1, by omega, by go_num, by rw [HNX.out]; exact HEND.out.1, HEND.out.2⟩
          case measure => simp [intOf] <;> omega
    · obtain rfl : r = v := by omega
      rw [HDV.out] at ho
      have HX := hid (And.intro ho hb)
      clear ho hb
      go_wp2
      go_ret
      exact ⟨⟨_, rfl, HX.out.1⟩, HX.out.2⟩
end Go.Proofs.Ytlcndccjlbahpaa
