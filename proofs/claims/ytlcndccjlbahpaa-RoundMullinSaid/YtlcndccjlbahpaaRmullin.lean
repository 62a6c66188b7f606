/-
  The walk over the law RoundMullin. Condition: the slices can be read and hold integers of 64 bits.
-/
import Derived.Test.YtlcndccjlbahpaaRdevQ
import Derived.Deep.RegionLaw
namespace Go.Proofs.Ytlcndccjlbahpaa
set_option linter.unusedVariables false
open Go.RowKit

theorem OI.lit2 (B : Nat) (w : World) (x y : Int) (hb : B ≤ w.heap.size) : OI B (w.alloc (.cells #[.int .i64 x, .int .i64 y] 3)) (.slice (some ⟨w.heap.size, 0, none⟩) 2 2) [x, y] := Ow.lit 3 B w #[.int .i64 x, .int .i64 y] 2 hb rfl (by decide)
theorem lsL_short (v : Nat) (ll : List (List Int)) (k : Nat) : ∀ i, i < (lsL v ll k).length → ((lsL v ll k).getD i []).length ≤ 17592186044416 := by
  intro i hi
  rw [lsL_len] at hi
  rw [lsL_getD hi]
  simp
theorem lsL_i64 {v : Nat} (hv : v ≤ 64) {ll : List (List Int)} {k : Nat} (hp : ∀ j, j < k → (pz ll j).1 < v ∧ (pz ll j).2 < v) : ∀ l ∈ lsL v ll k, ∀ x ∈ l, I64 x := by
  intro l hl x hx
  simp only [lsL, List.mem_map, List.mem_range] at hl
  obtain ⟨j, hj, rfl⟩ := hl
  have := hp j hj
  unfold I64
  simp only [List.mem_cons, List.not_mem_nil, or_false] at hx
  omega

set_option maxHeartbeats 1000000 in
set_option maxRecDepth 100000 in
theorem Mullin_no (w : World) (v : Int) (hv : I64 v) (u : Value) (ll : List (List Int)) (hl : RL w u ll) (hb : ∀ l ∈ ll, ∀ x ∈ l, I64 x) (hz : stE v ll ≠ 0) :
    Calls Try.prog 7 #[.int .i64 v, u] w fun e w' => e = .returned (.bool true) ∧ Below w.heap.size w w' := by
  have HF := hid (roundFact_any w)
  have HSG := hid (fun w1 (h : Below w.heap.size w w1) => Strong_err v u ll w1 hv (hl.below h) hb hz)
  have hq : (stE v ll != 0) = true := by simpa using hz
  clear hl hb hz hv
  generalize stE v ll = E at *
  go_enter Try.func7, Try.ntmps7
  go_wp2_with fail
  refine HF.out.mono ?_
  rintro e w1 ⟨rfl, hb1⟩
  have B1 := hid hb1
  clear hb1
  go_wp2_with fail
  refine (HSG.out _ B1.out).mono ?_
  rintro e w2 ⟨rfl, hb2⟩
  have B2 := hid (B1.out.trans (hb2.mono B1.out.size))
  clear hb2
  go_wp2
  go_ret
  exact ⟨rfl, B2.out⟩

set_option maxHeartbeats 1000000 in
set_option maxRecDepth 100000 in
theorem Mullin_weak (w : World) (v : Nat) (u : Value) (ll : List (List Int)) (hl : RL w u ll) (hb : ∀ l ∈ ll, ∀ x ∈ l, I64 x) (hz : stE v ll = 0) (hs : sgB v (pz ll) ll.length = false) :
    Calls Try.prog 7 #[.int .i64 v, u] w fun e w' => e = .returned (.bool true) ∧ Below w.heap.size w w' := by
  have HF := hid (roundFact_any w)
  have HSG := hid (fun w1 (h : Below w.heap.size w w1) => Strong_ok v u ll w1 (hl.below h) hb hz)
  rw [hs] at HSG
  clear hl hb hz hs
  go_enter Try.func7, Try.ntmps7
  go_wp2_with fail
  refine HF.out.mono ?_
  rintro e w1 ⟨rfl, hb1⟩
  have B1 := hid hb1
  clear hb1
  go_wp2_with fail
  refine (HSG.out _ B1.out).mono ?_
  rintro e w2 ⟨rfl, hb2⟩
  have B2 := hid (B1.out.trans (hb2.mono B1.out.size))
  clear hb2
  go_wp2
  go_ret
  exact ⟨rfl, B2.out⟩

set_option maxHeartbeats 2000000 in
set_option maxRecDepth 100000 in
theorem Mullin_ok (w : World) (v : Nat) (u : Value) (ll : List (List Int)) (hl : RL w u ll) (hb : ∀ l ∈ ll, ∀ x ∈ l, I64 x) (hz : stE v ll = 0) (hs : sgB v (pz ll) ll.length = true) :
    Calls Try.prog 7 #[.int .i64 v, u] w fun e w' => e = .returned (.bool true) ∧ Below w.heap.size w w' := by
  obtain ⟨m, hm, h3, h15, hmN, hp, _, _⟩ := st_zero hz
  obtain rfl : v = m := by omega
  obtain ⟨hz2, _⟩ := ls_st hz
  obtain ⟨hm1, hm2⟩ := mullin hz hs
  have HF := hid (roundFact_any w)
  have HSG := hid (fun w1 (h : Below w.heap.size w w1) => Strong_ok v u ll w1 (hl.below h) hb hz)
  rw [hs] at HSG
  have HDV := hid (fun w1 (h : Below w.heap.size w w1) => Develop_ok v u ll w1 (hl.below h) hb hz)
  have HDL := hid (fun (x : Value) (w1 : World) (h : RL w1 x (lsL v ll ll.length)) => Develop_ok v x (lsL v ll ll.length) w1 h (lsL_i64 (by omega) (fun j hj => by have := pz_spec (hp j hj); omega)) hz2)
  have HRO := hid (fun (x y : Value) (w1 : World) (h1 : RL w1 x (dvL v ll)) (h2 : RL w1 y (dvL v (lsL v ll ll.length))) => Rooms_any ((v : Int) + 1) x y (dvL v ll) (dvL v (lsL v ll ll.length)) w1 h1 h2 (dv_i64 hz) (dv_i64 hz2))
  rw [hm1, hm2] at HRO
  have HD1 := hid (And.intro (dv_len v ll) (dv_short (v := v) (by omega) ll))
  have HD2 := hid (And.intro (dv_len v (lsL v ll ll.length)) (dv_short (v := v) (by omega) (lsL v ll ll.length)))
  have HPZ := hid (fun j hj => pz_spec (v := v) (ll := ll) (j := j) (hp j hj))
  have HLS := hid (lsL_succ v ll)
  have HLL := hid (lsL_len v ll)
  have HLB := hid (lsL_short v ll ll.length)
  have HL0 : Hid (lsL v ll 0 = []) := hid rfl
  obtain ⟨a, c, N, rfl, hN, hl1, hl2⟩ := hl.open
  rw [hN.out] at HDL HRO HD2 HPZ HLB hmN
  have hN8 : N ≤ 7 := by clear hl2; omega
  have HL := hid hl2
  generalize dvL v ll = D1 at *
  generalize dvL v (lsL v ll N) = D2 at *
  clear hl hb hz hz2 hs hp hm1 hm2 hm hmN hl2
  go_enter Try.func7, Try.ntmps7
  go_wp2_with fail
  refine HF.out.mono ?_
  rintro e w1 ⟨rfl, hb1⟩
  have B1 := hid hb1
  clear hb1
  go_wp2_with fail
  refine (HSG.out _ B1.out).mono ?_
  rintro e w2 ⟨rfl, hb2⟩
  have B2 := hid (B1.out.trans (hb2.mono B1.out.size))
  clear hb2
  go_wp2
  go_loopw [8, 9] (fun s i wr => ∃ k : Nat, k ≤ N ∧ i = .int .i64 k ∧ OL w.heap.size wr.heap.size wr s (lsL v ll k) ∧ Below w.heap.size w wr) (fun _ i _ => N - (intOf i).toNat)
  case atStart => exact ⟨0, Nat.zero_le _, rfl, by rw [HL0.out]; exact OL.nil _ _ _, B2.out⟩
  case round =>
    clear B1 B2
    obtain ⟨k, hk, rfl, ho, hbw⟩ := hrel
    by_cases hlt : k < N
    · obtain ⟨g, off, rfl, hg, hc⟩ := HL.out (by omega)
      obtain ⟨u1, c1, s1⟩ := hc k hlt
      have c1 := (hbw.cell (p := ⟨g, off + k, none⟩) hg).trans c1
      obtain ⟨a1, cp1, N1, rfl, hN1, hl1', hl2'⟩ := s1.open
      obtain ⟨z1, z2, z3, z4, z5, z6, z7⟩ := HPZ.out k hlt
      obtain rfl : N1 = 2 := by rw [← hN1.out]; exact z1
      obtain ⟨b, off2, rfl, hb2, hc2⟩ := hl2' (by omega)
      have c2 := (hbw.cell (p := ⟨b, off2 + 0, none⟩) hb2).trans (hc2 0 (by omega))
      have c3 := (hbw.cell (p := ⟨b, off2 + 1, none⟩) hb2).trans (hc2 1 (by omega))
      rw [Nat.add_zero, z2] at c2
      rw [z3] at c3
      have HNW := hid (HLS.out k)
      have hkN : (k : Int) < (N : Int) := by omega
      clear hc hc2 s1 hl2' z1 z2 z3
      generalize (pz ll k).1 = X at *
      generalize (pz ll k).2 = Y at *
      have hszw : w.heap.size ≤ wr.heap.size := hbw.size
      have hb0 : Below wr.heap.size wr (wr.drew.alloc (.cells #[.int .i64 ((v : Int) - X), .int .i64 ((v : Int) - Y)] 3)) := (Below.refl wr.heap.size wr).drew.alloc (Nat.le_refl _) _
      have hu0 := OI.lit2 wr.heap.size wr.drew ((v : Int) - X) ((v : Int) - Y) (Nat.le_refl _)
      have hol := ho.below hb0
      have hsz0 : w.heap.size ≤ (wr.drew.alloc (.cells #[.int .i64 ((v : Int) - X), .int .i64 ((v : Int) - Y)] 3)).heap.size := Nat.le_trans hszw hb0.size
      have HB0 := hid (hbw.trans (hb0.mono hszw))
      have HQ := hid hu0
      obtain ⟨vs, o1, o2, o3, o4⟩ := hol
      have hvs : vs.length ≤ 1000000000000 := by rw [o3, HLL.out]; omega
      have HP2 := hid o2
      have HP3 := hid o3
      have HP4 := hid o4
      have w1 : IntKind.i64.wrap ((v : Int) - (X : Int)) = (v : Int) - (X : Int) := IntWalk.i64_in _ (by omega)
      have w2 : IntKind.i64.wrap ((v : Int) - (Y : Int)) = (v : Int) - (Y : Int) := IntWalk.i64_in _ (by omega)
      clear o2 o3 o4 ho hbw hb0 hu0
      go_wp2
      go_region_law (refine step_app (wr.drew.alloc (.cells #[.int .i64 ((v : Int) - X), .int .i64 ((v : Int) - Y)] 3)) _ _ 22 38 (.slice none 0 0) 24 rfl rfl Try.underlying22 Try.info38 rfl (by decide) w.heap.size u8 vs rfl o1 rfl rfl hvs hsz0 ?_; intro g4 c4 w5 hown1 hg1 hg2 hg3)
      all_goals
        (have hol2 := OL.snoc o1 HP2.out HP3.out HP4.out HQ.out hszw hown1 hg1
         rw [← HNW.out] at hol2
         have HEND := hid (And.intro hol2 (HB0.out.grown hg1 hsz0 (fun b e => (o1.lt b e).1)))
         clear hol2 hown1 hg1 hg2 hg3 o1 c1 c2 c3
         go_wp2
         go_roundw
         case rel => exact ⟨k + 1, by omega, by go_num, HEND.out.1, HEND.out.2⟩
         case measure => simp [intOf] <;> omega)
    · obtain rfl : k = N := by omega
      obtain ⟨aL, cL, eL⟩ := ho.len
      have hrl := ho.rl (by rw [HLL.out]; omega) HLB.out
      have HDL2 := hid (fun (w1 : World) (h : Below wr.heap.size wr w1) => HDL.out u8 w1 (hrl.below h))
      have HB := hid hbw
      have HD := hid (HDV.out wr hbw)
      clear eL hrl ho hbw
      go_wp2_with fail
      refine HD.out.mono ?_
      rintro e w4 ⟨⟨x4, rfl, hx4⟩, hb4⟩
      have HDD := hid (HDL2.out w4 hb4)
      have HX4 := hid (hx4.rl (by rw [HD1.out.1]; omega) HD1.out.2)
      have B4 := hid (HB.out.trans (hb4.mono HB.out.size))
      clear hb4 hx4
      go_wp2_with fail
      refine HDD.out.mono ?_
      rintro e w5 ⟨⟨x5, rfl, hx5⟩, hb5⟩
      have HX5 := hid (hx5.rl (by rw [HD2.out.1]; omega) HD2.out.2)
      have HR := hid (HRO.out x4 x5 w5 (HX4.out.below hb5) HX5.out)
      have B5 := hid (B4.out.trans (hb5.mono B4.out.size))
      clear hb5 hx5
      go_wp2_with fail
      refine HR.out.mono ?_
      rintro e w6 ⟨rfl, hb6⟩
      have B6 := hid (B5.out.trans (hb6.mono B5.out.size))
      clear hb6
      go_wp2
      go_ret
      exact ⟨rfl, B6.out⟩

theorem roundMullin_walk (w : World) (v : Int) (hv : I64 v) (u : Value) (ll : List (List Int)) (hl : RL w u ll) (hb : ∀ l ∈ ll, ∀ x ∈ l, I64 x) :
    Calls Try.prog 7 #[.int .i64 v, u] w fun e w' => e = .returned (.bool true) ∧ Below w.heap.size w w' := by
  by_cases hz : stE v ll = 0
  · obtain ⟨m, rfl, _⟩ := st_zero hz
    cases hs : sgB m (pz ll) ll.length with
    | false => exact Mullin_weak w m u ll hl hb hz hs
    | true => exact Mullin_ok w m u ll hl hb hz hs
  · exact Mullin_no w v hv u ll hl hb hz
end Go.Proofs.Ytlcndccjlbahpaa
