/-
  The walks over round.around and round.rounds. Conditions: the pairs can be read and lie below v.
-/
import Derived.Test.YtlcndccjlbahpaaPairs
import Derived.BigQuiet
namespace Go.Proofs.Ytlcndccjlbahpaa
set_option linter.unusedVariables false
open Go.RowKit

def arS (v r : Nat) (l : List Int) (p : Nat × Nat) : List Int := (l.set ((p.1 + r) % v) (((p.2 + r) % v : Nat) : Int)).set ((p.2 + r) % v) (((p.1 + r) % v : Nat) : Int)
def ar0 (v r : Nat) : List Int := ((List.replicate (v + 1) (0 : Int)).set v (r : Int)).set r (v : Int)
def arL (v r : Nat) (ps : List (Nat × Nat)) : List Int := ps.foldl (arS v r) (ar0 v r)

theorem arS_len (v r : Nat) (l : List Int) (p : Nat × Nat) : (arS v r l p).length = l.length := by simp [arS]
theorem arL_take (v r : Nat) (ps : List (Nat × Nat)) (k : Nat) (hk : k < ps.length) : arL v r (ps.take (k + 1)) = arS v r (arL v r (ps.take k)) (ps.getD k (0, 0)) := by
  rw [List.take_add_one, List.getElem?_eq_getElem hk]
  simp only [arL, List.foldl_append, Option.toList_some, List.foldl_cons, List.foldl_nil]
  simp [ List.getD_eq_getElem?_getD, List.getElem?_eq_getElem hk]
theorem arL_len (v r : Nat) : ∀ (ps : List (Nat × Nat)) (l : List Int), (ps.foldl (arS v r) l).length = l.length
  | [], l => rfl
  | p :: ps, l => by rw [List.foldl_cons, arL_len v r ps, arS_len]
theorem tm_nat (a b v : Nat) : ((a : Int) + (b : Int)).tmod (v : Int) = (((a + b) % v : Nat) : Int) := by
  rw [← Int.natCast_add, Int.ofNat_tmod]

set_option maxHeartbeats 1000000 in
set_option maxRecDepth 100000 in
theorem around_ok (v r : Nat) (u : Value) (ps : List (Nat × Nat)) (w : World) (h0 : 0 < v) (hv : v ≤ 64) (hr : r < v) (hl : PR w u ps) (hp : ∀ p ∈ ps, p.1 < v ∧ p.2 < v) :
    Calls Try.prog 33 #[.int .i64 v, .int .i64 r, u] w fun e w' => (∃ u', e = .returned u' ∧ OI w.heap.size w' u' (arL v r ps)) ∧ Below w.heap.size w w' := by
  have HLEN : Hid (∀ k, (arL v r (ps.take k)).length = v + 1) := hid (fun k => by unfold arL; rw [arL_len]; simp [ar0])
  have HST := hid (arL_take v r ps)
  have HP : Hid (∀ k, k < ps.length → (ps.getD k (0, 0)).1 < v ∧ (ps.getD k (0, 0)).2 < v) := hid (fun k hk => hp _ (by
    rw [List.getD_eq_getElem?_getD, List.getElem?_eq_getElem hk]; exact List.getElem_mem _))
  have HTK : Hid (arL v r (ps.take ps.length) = arL v r ps) := hid (by rw [List.take_length])
  have HT0 : Hid (arL v r (ps.take 0) = ((List.replicate (v + 1) (0 : Int)).set v (r : Int)).set r (v : Int)) := hid rfl
  obtain ⟨a, c, N, rfl, hN, hl1, hl2⟩ := hl.open
  rw [hN.out] at HST HP HTK
  have hr2 : (r : Int) < (v : Int) + 1 := by omega
  have hv2 : (v : Int) < (v : Int) + 1 := by omega
  have hcast : Hid (((v : Int) + 1) = ((v + 1 : Nat) : Int)) := hid (by omega)
  clear hp hl
  generalize arL v r ps = R at *
  obtain ⟨D, hD⟩ : ∃ D : Nat → List Int, D = fun k => arL v r (ps.take k) := ⟨_, rfl⟩
  have HD : Hid (∀ k, arL v r (ps.take k) = D k) := hid (fun k => by rw [hD])
  clear hD
  go_enter Try.func33, Try.ntmps33
  go_wp2_with (at_make; refine wpList_mk (w := w) _ _ 38 3 (.int .i64 0) 8 rfl rfl Try.underlying38 Try.info3 rfl (by decide) w.heap.size _ (v + 1) rfl rfl hcast.out (by omega) (Nat.le_refl _) ?_; intro w3 hs3 hgr3 hz3; have ho3 : OI w.heap.size w3 (.slice (some ⟨w.heap.size, 0, none⟩) (v + 1) (v + 1)) (List.replicate (v + 1) (0 : Int)) := (by unfold OI; rw [List.map_replicate]; exact hs3); have c1 := ho3.cell v (by simp); have f1 := ho3.frozen v; have q1 := ho3.stored v (r : Int); have c2 := q1.1.cell r (by simp; omega); have f2 := q1.1.frozen r; have q2 := q1.1.stored r (v : Int); have HX := hid (And.intro q2.1 ((((Below.refl w.heap.size w).grown hgr3 (Nat.le_refl _) (fun k h => by cases h)).grown q1.2 (Nat.le_of_lt hz3) (fun k h => by cases h; exact Nat.le_refl _)).grown q2.2 (Nat.le_trans (Nat.le_of_lt hz3) q1.2.size) (fun k h => by cases h; exact Nat.le_refl _))); clear hs3 hgr3 ho3 q1 q2)
  go_loopw [25] (fun i wr => ∃ k : Nat, k ≤ N ∧ i = .int .i64 k ∧ OI w.heap.size wr (.slice (some ⟨w.heap.size, 0, none⟩) (v + 1) (v + 1)) (D k) ∧ Below w.heap.size w wr ∧ w.heap.size < wr.heap.size) (fun i _ => N - (intOf i).toNat)
  case atStart => exact ⟨0, Nat.zero_le _, rfl, HX.out.1.cast ((HD.out 0).symm.trans HT0.out).symm, HX.out.2, Nat.lt_of_lt_of_le hz3 (by simp [World.setCell])⟩
  case round =>
    clear HX
    obtain ⟨k, hk, rfl, ho, hb, hwl⟩ := hrel
    by_cases hlt : k < N
    · obtain ⟨b, rfl, hblt, hc⟩ := hl2 (by omega)
      obtain ⟨c1, c2⟩ := hc k hlt
      have c1 := (hb.cell (p := ⟨b, k * 2, none⟩) hblt).trans c1
      have c2 := (hb.cell (p := ⟨b, k * 2 + 1, none⟩) hblt).trans c2
      obtain ⟨p1, p2⟩ := HP.out k hlt
      have hst := HST.out k hlt
      rw [HD.out, HD.out] at hst
      have HS := hid hst
      clear hst hl2 hc
      generalize (ps.getD k (0, 0)) = pq at *
      obtain ⟨x, y⟩ := pq
      simp only at p1 p2 c1 c2
      have m1 := tm_nat x r v
      have m2 := tm_nat y r v
      have b1 : (x + r) % v < v := Nat.mod_lt _ h0
      have b2 : (y + r) % v < v := Nat.mod_lt _ h0
      have HSS : Hid (D (k + 1) = ((D k).set ((x + r) % v) (((y + r) % v : Nat) : Int)).set ((y + r) % v) (((x + r) % v : Nat) : Int)) := HS
      have hDl : Hid ((D k).length = v + 1) := hid (by rw [← HD.out]; exact HLEN.out k)
      have HW := hid (And.intro (ho.alloc (.cells #[.int .i64 x, .int .i64 y] 40)) (And.intro (hb.alloc hb.size (.cells #[.int .i64 x, .int .i64 y] 40)) (Nat.lt_trans hwl (pl_lt wr (.cells #[.int .i64 x, .int .i64 y] 40)))))
      have d1 := pl0 wr (.int .i64 x) (.int .i64 y) 40
      have d2 := pl1 wr (.int .i64 x) (.int .i64 y) 40
      clear HS ho hb
      generalize (x + r) % v = x' at *
      generalize (y + r) % v = y' at *
      go_wp2
      generalize wr.alloc (.cells #[.int .i64 x, .int .i64 y] 40) = w4 at *
      go_quiet (fail)
      have hbx : (x' : Int) < (v : Int) + 1 := by omega
      have hby : (y' : Int) < (v : Int) + 1 := by omega
      obtain ⟨ho4, hb4, hl4⟩ := HW.out
      have ho5 : OI w.heap.size (w4.drewN nq) (.slice (some ⟨w.heap.size, 0, none⟩) (v + 1) (v + 1)) (D k) := ho4.drewN nq
      have hb5 := below_drewN hb4 nq
      have hl5 : w.heap.size < (w4.drewN nq).heap.size := hl4
      clear ho4 hb4 hl4 HW d1 d2
      generalize w4.drewN nq = w5 at *
      have e1 := ho5.cell x' (by rw [hDl.out]; omega)
      have g1 := ho5.frozen x'
      have q1 := ho5.stored x' (y' : Int)
      have e2 := q1.1.cell y' (by rw [List.length_set, hDl.out]; omega)
      have g2 := q1.1.frozen y'
      have q2 := q1.1.stored y' (x' : Int)
      rw [← HSS.out] at q2
      have HX := hid (And.intro q2.1 (And.intro ((hb5.grown q1.2 hb5.size (fun k h => by cases h; exact Nat.le_refl _)).grown q2.2 (Nat.le_trans hb5.size q1.2.size) (fun k h => by cases h; exact Nat.le_refl _)) (Nat.lt_of_lt_of_le hl5 (Nat.le_trans q1.2.size q2.2.size))))
      clear q1 q2 ho5 hb5 hl5 hwl
      generalize (D k).getD x' 0 = old1 at *
      generalize ((D k).set x' (y' : Int)).getD y' 0 = old2 at *
      go_wp2
      go_roundw
      case rel => exact ⟨k + 1, by omega, by go_num, HX.out.1, HX.out.2.1, HX.out.2.2⟩
      case measure => simp [intOf] <;> omega
    · obtain rfl : k = N := by omega
      have HX := hid (And.intro (ho.cast ((HD.out k).symm.trans HTK.out)) hb)
      clear hl2 ho hb
      go_wp2
      go_ret
      exact ⟨⟨_, rfl, HX.out.1⟩, HX.out.2⟩

def arR (v : Nat) (ps : List (Nat × Nat)) (k : Nat) : List (List Int) := (List.range k).map fun r => arL v r ps
theorem arR_len (v : Nat) (ps : List (Nat × Nat)) (k : Nat) : (arR v ps k).length = k := by simp [arR]
theorem arR_succ (v : Nat) (ps : List (Nat × Nat)) (k : Nat) : arR v ps (k + 1) = arR v ps k ++ [arL v k ps] := by simp [arR, List.range_succ]
theorem arR_getD (v : Nat) (ps : List (Nat × Nat)) (k : Nat) (i : Nat) (hi : i < k) : (arR v ps k).getD i [] = arL v i ps := by
  simp [arR, List.getD_eq_getElem?_getD, hi]

set_option maxHeartbeats 1000000 in
set_option maxRecDepth 100000 in
theorem rounds_ok (v : Nat) (u : Value) (ps : List (Nat × Nat)) (w : World) (h0 : 0 < v) (hv : v ≤ 64) (hl : PR w u ps) (hp : ∀ p ∈ ps, p.1 < v ∧ p.2 < v) :
    Calls Try.prog 26 #[.int .i64 v, u] w fun e w' => (∃ u', e = .returned u' ∧ OL w.heap.size w'.heap.size w' u' (arR v ps v)) ∧ Below w.heap.size w w' := by
  have HAR := hid (fun r (w1 : World) (hr : r < v) (h : Below w.heap.size w w1) => around_ok v r u ps w1 h0 hv hr (hl.below h) hp)
  have HS := hid (arR_succ v ps)
  have HL := hid (arR_len v ps)
  have H0 : Hid (arR v ps 0 = []) := hid rfl
  obtain ⟨a, c, N, rfl, hN, hl1, hl2⟩ := hl.open
  clear hp hl hl2
  have HAL : Hid (∀ r, arL v r ps = arL v r ps) := hid fun r => rfl
  generalize hF : (fun k => arR v ps k) = F at *
  have HF : Hid (∀ k, arR v ps k = F k) := hid (fun k => by rw [← hF])
  clear hF
  go_enter Try.func26, Try.ntmps26
  go_wp2
  go_loopw [5, 8] (fun s i wr => ∃ k : Nat, k ≤ v ∧ i = .int .i64 k ∧ OL w.heap.size wr.heap.size wr s (arR v ps k) ∧ Below w.heap.size w wr) (fun _ i _ => v - (intOf i).toNat)
  case atStart => exact ⟨0, Nat.zero_le _, rfl, by rw [H0.out]; exact OL.nil _ _ _, Below.refl _ _⟩
  case round =>
    obtain ⟨k, hk, rfl, ho, hb⟩ := hrel
    by_cases hlt : k < v
    · have HC := hid (HAR.out k wr hlt hb)
      have HO := hid ho
      have HB := hid hb
      clear ho hb
      go_wp2_with fail
      refine HC.out.mono ?_
      rintro e w2 ⟨⟨u2, rfl, hu2⟩, hb2⟩
      obtain ⟨a9, c9, e9⟩ := hu2.len
      generalize hLA : (arL v k ps).length = la at *
      subst e9
      have HQ := hid hu2
      obtain ⟨vs, o1, o2, o3, o4⟩ := HO.out.below hb2
      have hvs : vs.length ≤ 1000000000000 := by
        have := HL.out k
        omega
      have HO2 := hid o2
      have HO3 := hid o3
      have HO4 := hid o4
      have hB : w.heap.size ≤ w2.heap.size := Nat.le_trans HB.out.size hb2.size
      have HB2 := hid (HB.out.trans (hb2.mono HB.out.size))
      have HW1 := hid HB.out.size
      clear hu2 hb2 o2 o3 o4
      go_wp2_with (at_builtin; refine wpList_app w2 _ _ 22 38 (.slice none 0 0) 24 rfl rfl Try.underlying22 Try.info38 rfl (by decide) w.heap.size _ vs rfl o1 rfl rfl hvs hB ?_; intro g3 c3 w4 hown1 hg1 hg2 hg3)
      have hol2 := OL.snoc o1 HO2.out HO3.out HO4.out HQ.out HW1.out hown1 hg1
      have HEND := hid (And.intro hol2 (HB2.out.grown hg1 hB (fun b e => (o1.lt b e).1)))
      clear hol2 hown1 hg1 hg2 hg3 o1
      go_roundw
      case rel => exact ⟨k + 1, by omega, by go_num, by rw [HS.out]; exact HEND.out.1, HEND.out.2⟩
      case measure => simp [intOf] <;> omega
    · obtain rfl : k = v := by omega
      have HX := hid (And.intro ho hb)
      clear ho hb
      go_wp2
      go_ret
      exact ⟨⟨_, rfl, HX.out.1⟩, HX.out.2⟩
end Go.Proofs.Ytlcndccjlbahpaa
