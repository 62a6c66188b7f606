/-
  The walk over group.All. Conditions: the slices can be read; numbers of 64 bits.
-/
import Derived.Test.YtnbgnoimanpjnaaGlord
import Derived.Test.YtnbgnoimanpjnaaGel
import Derived.Test.YtnbgnoimanpjnaaGord
namespace Go.Proofs.Ytnbgnoimanpjnaa
set_option linter.unusedVariables false
open Go.RowKit

theorem All_bad (n : Int) (v : Value) (ll : List (List Int)) (w : World) (hl : RL w v ll) (hE : grpE n ll ≠ 0) :
    Calls Try.prog 87 #[.int .i64 n, v] w fun e w' => e = .returned (.tuple #[.slice none 0 0, .int .i64 (grpE n ll)]) ∧ Below w.heap.size w w' := by
  have HO := hid (gopen_bad n v ll w hl hE)
  obtain ⟨a, c, N, rfl, hN, hc1, hc2⟩ := hl.open
  have hb : (grpE n ll != 0) = true := bne_iff_ne.2 hE
  clear hE hl hc2
  generalize grpE n ll = E at *
  go_enter Try.func87, Try.ntmps87
  go_wp2_with fail
  refine HO.out.mono ?_
  rintro e w1 ⟨rfl, hb1⟩
  have HB := hid hb1
  clear hb1
  go_wp2_with fail
  go_loopw [9, 11, 21] (fun v9 _ i wr => v9 = .slice none 0 0 ∧ i = .int .i64 0 ∧ wr = w1) (fun _ _ _ _ => 0)
  case atStart => exact ⟨rfl, rfl, rfl⟩
  case round =>
    obtain ⟨rfl, rfl, hw⟩ := hrel
    subst hw
    go_wp2
    go_ret2
    exact ⟨rfl, HB.out⟩

set_option maxHeartbeats 4000000 in
set_option maxRecDepth 100000 in
theorem All_ok (n : Nat) (v : Value) (ll : List (List Int)) (w : World) (hl : RL w v ll) (hE : grpE (n : Int) ll = 0) :
    Calls Try.prog 87 #[.int .i64 n, v] w fun e w' => (∃ r, e = .returned (.tuple #[r, .int .i64 0]) ∧ OL w.heap.size w'.heap.size w' r ((GL n (msL n ll)).map (elL n))) ∧ Below w.heap.size w w' := by
  have HO := hid (gopen_ok n v ll w hl hE)
  obtain ⟨n', hn', hG⟩ := gok_of hE
  obtain rfl : n = n' := by omega
  have hn7 := hG.n7
  have hn1 := hG.n1
  have hlen := GL_len9 hG
  have hfb := fac7 n hn7
  obtain ⟨a, c, N, rfl, hN, hc1, hc2⟩ := hl.open
  clear hE hl hc2 hG hn'
  generalize GL n (msL n ll) = L at *
  have HT0 : Hid ((L.map (elL n)).take 0 = []) := hid rfl
  have HTS : Hid (∀ k, k < L.length → (L.map (elL n)).take (k + 1) = (L.map (elL n)).take k ++ [elL n (L.getD k id)]) := hid (fun k hk => by
    rw [List.take_add_one]
    congr 1
    simp [hk])
  have HTL : Hid (∀ k, ((L.map (elL n)).take k).length ≤ k) := hid (fun k => by rw [List.length_take]; omega)
  have HTE : Hid ((L.map (elL n)).take L.length = L.map (elL n)) := hid (by rw [List.take_of_length_le (by simp)])
  have hni : (n : Int) ≤ 7 := by omega
  generalize hLL : L.map (elL n) = LL at *
  clear hLL
  obtain ⟨M, hM⟩ : ∃ M, L.length = M := ⟨_, rfl⟩
  have HM := hid hM
  rw [hM] at hlen HTS HTE
  clear hM
  go_enter Try.func87, Try.ntmps87
  go_wp2_with fail
  refine HO.out.mono ?_
  rintro e w1 ⟨⟨s, r, rfl, hs, hr⟩, hb1⟩
  obtain ⟨a3, c3, e3⟩ := hs.len
  subst e3
  obtain ⟨og, oc, er, _, hog⟩ := hr.form (by rw [HM.out]; omega)
  rw [HM.out] at er
  subst er
  have H1 := hid (And.intro hr hb1)
  clear hb1 hs hr HO
  go_wp2_with fail
  go_loopw [9, 11, 21] (fun v9 _ i wr => ∃ k : Nat, i = .int .i64 k ∧ k ≤ M ∧ OL w.heap.size wr.heap.size wr v9 (LL.take k) ∧ OM w.heap.size wr (.slice (some ⟨og, 0, none⟩) M oc) L ∧ Below w.heap.size w wr ∧ ∀ b, v9.ownBlock = some b → b ≠ og) (fun _ _ i _ => M - (intOf i).toNat)
  case atStart => exact ⟨0, rfl, Nat.zero_le _, by rw [HT0.out]; exact OL.nil _ _ _, H1.out.1, H1.out.2, fun b e => by cases e⟩
  case round =>
    clear H1
    obtain ⟨k, rfl, hk, ho, hr, hb, hap⟩ := hrel
    by_cases hlt : k < M
    · have hki : (k : Int) < (M : Int) := by omega
      obtain ⟨x, hx⟩ : ∃ x, L.getD k id = x := ⟨_, rfl⟩
      have hrx := hr.range (i := k) (by rw [HM.out]; exact hlt)
      have hts := HTS.out k hlt
      rw [hx] at hrx hts
      have HTk := hid hts
      have htl := HTL.out k
      have ix : (Try.prog.info? 68).map (·.size) = some (mvC x).length := by rw [mvC_len]; exact mv_info
      have HAZ := hid (Arr.new wr 68 (mvC fun _ => 0))
      have HI := hid (And.intro ho (And.intro hr (And.intro hb hap)))
      clear ho hr hb hap hx hts
      go_wp2_with (first
        | (refine wpList_load_mid rfl 68 _ rfl og (k * 7) rfl (mvC x) _ hrx Try.underlying68 rfl ix ?_; clear hrx)
        | (refine wpList_store_arr rfl 68 _ _ rfl wr.heap.size (mvC x) rfl rfl HAZ.out (by rw [mvC_len, mvC_len]) ix (mvC_one _) ?_
           intro w5 hA5 hg5
           have hB5 : Below wr.heap.size wr w5 := ((Below.refl _ _).alloc (Nat.le_refl _) _).grown hg5 (by simp) (fun b e => by cases e; exact Nat.le_refl _)
           have H5 := hid (And.intro hA5 hB5)
           clear hA5 hg5 hB5)
        | fail)
      have hsl : Sl w5 (.slice (some ⟨wr.heap.size, 0, none⟩) n 7) (elL n x) := by
        refine Sl.mk (some ⟨wr.heap.size, 0, none⟩) 7 (by rw [elL_len]) (by rw [elL_len]; omega) fun _ => ⟨wr.heap.size, 0, rfl, H5.out.1.lt, fun i hi => ?_⟩
        rw [elL_len] at hi
        rw [Nat.zero_add, H5.out.1.cell, mvC_get (by omega)]
        simp [elL, hi]
      have HC := hid (clone_ints wr.heap.size 0 n 7 (elL n x) w5 hsl (by rw [elL_len]; omega))
      clear hsl
      go_wp2_with fail
      refine HC.out.mono ?_
      rintro e w6 ⟨⟨u, rfl, hu⟩, hb6⟩
      obtain ⟨ua, uc, eu⟩ := hu.len
      rw [elL_len] at eu
      subst eu
      have hb6' := H5.out.2.trans (hb6.mono H5.out.2.size)
      have ho6 := HI.out.1.below hb6'
      have hr6 := HI.out.2.1.below hb6'
      have hB6 := HI.out.2.2.1.trans (hb6'.mono HI.out.2.2.1.size)
      obtain ⟨vs, o1, o2, o3, o4⟩ := ho6
      have hvs : vs.length ≤ 1000000000000 := by omega
      have HO2 := hid o2
      have HO3 := hid o3
      have HO4 := hid o4
      have hws : w.heap.size ≤ w6.heap.size := hB6.size
      have hgl := (HI.out.2.1.lt og rfl).2
      have h56 := H5.out.2.size
      have h66 := hb6.size
      have HI2 := hid (And.intro hr6 (And.intro hB6 (hu.mono (Nat.le_trans HI.out.2.2.1.size h56))))
      clear hr6 hB6 hu hb6 hb6' o2 o3 o4
      go_wp2_with (at_builtin; refine wpList_app w6 _ _ 22 23 (.slice none 0 0) 24 rfl rfl Try.underlying22 Try.info23 rfl (by decide) w.heap.size _ vs rfl o1 rfl rfl hvs hws ?_; intro g9 c9 w9 hown1 hg1 hg2 hg3)
      have hu6 : OI w.heap.size w6 (.slice ua n uc) (elL n x) := HI2.out.2.2
      have hol2 := OL.snoc o1 HO2.out HO3.out HO4.out hu6 (Nat.le_refl _) hown1 hg1
      rw [← HTk.out] at hol2
      have hr9 := HI2.out.1.kept hg1 (.inr (fun e => HI.out.2.2.2 og e.symm rfl))
      have hb9 := HI2.out.2.1.grown hg1 HI2.out.2.1.size (fun b e => (o1.lt b e).1)
      have hap9 : g9 ≠ og := fun e => by
        rcases hg2 with h | h
        · exact HI.out.2.2.2 g9 h e
        · omega
      have HX := hid (And.intro hol2 (And.intro hr9 hb9))
      clear hol2 hr9 hb9 hown1 hg1 hu6 o1
      go_roundw
      case rel => exact ⟨k + 1, by go_num, by omega, HX.out.1, HX.out.2.1, HX.out.2.2, fun b e => by cases e; exact hap9⟩
      case measure => simp [intOf] <;> omega
    · obtain rfl : k = M := by omega
      have hki : ¬ (k : Int) < (k : Int) := by omega
      rw [HTE.out] at ho
      have HI := hid (And.intro ho hb)
      clear ho hr hb hap
      go_wp2
      go_ret2
      exact ⟨⟨_, rfl, HI.out.1⟩, HI.out.2⟩
end Go.Proofs.Ytnbgnoimanpjnaa
