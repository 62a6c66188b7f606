/-
  The walk over group.open. Conditions: the slices can be read.
-/
import Derived.Test.YtnbgnoimanpjnaaGchk
import Derived.Test.YtnbgnoimanpjnaaGmade
namespace Go.Proofs.Ytnbgnoimanpjnaa
set_option linter.unusedVariables false
open Go.RowKit

/-- The makers as functions. -/
def msL (n : Nat) (ll : List (List Int)) : List (Nat → Nat) := ll.map fun l => mvF n (fL l)
theorem msL_len (n : Nat) (ll : List (List Int)) : (msL n ll).length = ll.length := by simp [msL]
theorem msL_take {n : Nat} {ll : List (List Int)} {k : Nat} (h : k < ll.length) : msL n (ll.take (k + 1)) = msL n (ll.take k) ++ [mvF n (fL (ll.getD k []))] := by
  unfold msL
  rw [List.take_add_one, List.map_append]
  simp [h]
theorem OM.mono {B B' : Nat} {w : World} {v : Value} {l : List (Nat → Nat)} (h : OM B w v l) (hb : B' ≤ B) : OM B' w v l := by
  obtain ⟨h1, h2⟩ := h
  refine ⟨h1, h2.imp id ?_⟩
  rintro ⟨g, cap, cur, e, hg, r⟩
  exact ⟨g, cap, cur, e, Nat.le_trans hb hg, r⟩
/-- A group that is right: n points, the makers permutations of them. -/
structure GOk (n : Nat) (ll : List (List Int)) : Prop where
  n1 : 1 ≤ n
  n7 : n ≤ 7
  l4 : ll.length ≤ 4
  pm : ∀ l ∈ ll, PmL l n (fL l)
theorem gok_of {n : Int} {ll : List (List Int)} (h : grpE n ll = 0) : ∃ N : Nat, n = (N : Int) ∧ GOk N ll := by
  obtain ⟨⟨h1, h2⟩, h3, h4⟩ := grpE_zero h
  refine ⟨n.toNat, by omega, by omega, by omega, h3, fun l hl => ?_⟩
  obtain ⟨h5, h6⟩ := h4 l hl
  have := pm_of h5
  rwa [show l.length = n.toNat by omega] at this
theorem GOk.mv {n : Nat} {ll : List (List Int)} (h : GOk n ll) : ∀ m ∈ msL n ll, Mv n m := by
  intro m hm
  obtain ⟨l, hl, rfl⟩ := List.mem_map.1 hm
  exact mvF_mv (h.pm l hl).pm

theorem gopen_bad (n : Int) (v : Value) (ll : List (List Int)) (w : World) (hl : RL w v ll) (hE : grpE n ll ≠ 0) :
    Calls Try.prog 51 #[.int .i64 n, v] w fun e w' => e = .returned (.tuple #[.slice none 0 0, .slice none 0 0, .int .i64 (grpE n ll)]) ∧ Below w.heap.size w w' := by
  have HC := hid (gcheck_any n v ll w hl)
  obtain ⟨a, c, N, rfl, hN, hc1, hc2⟩ := hl.open
  have hb : (grpE n ll != 0) = true := bne_iff_ne.2 hE
  clear hE hl hc2
  generalize grpE n ll = E at *
  go_enter Try.func51, Try.ntmps51
  go_wp2_with fail
  refine HC.out.mono ?_
  rintro e w1 ⟨rfl, hb1⟩
  have HB := hid hb1
  clear hb1
  go_wp2
  go_ret3
  exact ⟨rfl, HB.out⟩

set_option maxHeartbeats 1000000 in
set_option maxRecDepth 10000 in
theorem gopen_ok (n : Nat) (v : Value) (ll : List (List Int)) (w : World) (hl : RL w v ll) (hE : grpE (n : Int) ll = 0) :
    Calls Try.prog 51 #[.int .i64 n, v] w fun e w' => (∃ s r, e = .returned (.tuple #[s, r, .int .i64 0]) ∧ OM w.heap.size w' s (msL n ll) ∧ OM w.heap.size w' r (GL n (msL n ll))) ∧ Below w.heap.size w w' := by
  have HC := hid (gcheck_any n v ll w hl)
  obtain ⟨n', hn', hG⟩ := gok_of hE
  obtain rfl : n = n' := by omega
  rw [hE] at HC
  have HG := hid hG
  have HRL := hid (fun w1 (hb : Below w.heap.size w w1) => hl.below hb)
  obtain ⟨a, c, N, rfl, hN, hc1, hc2⟩ := hl.open
  have HC2 := hid hc2
  have hN4 : N ≤ 4 := by rw [← hN.out]; exact hG.l4
  have n1 := hG.n1
  have n7 := hG.n7
  have HMO := hid (fun (u : Value) (l : List Int) (w1 : World) (hu : Sl w1 u l) (P : PmL l n (fL l)) => moveof_ok u l n (fL l) w1 hu P n1 n7)
  have HTK := hid (fun k (h : k < N) => msL_take (n := n) (ll := ll) (k := k) (by rw [hN.out]; exact h))
  have HPM := hid (fun k (h : k < N) => hG.pm (ll.getD k []) (by
    have h' : k < ll.length := by rw [hN.out]; exact h
    rw [List.getD_eq_getElem?_getD, List.getElem?_eq_getElem h', Option.getD_some]
    exact List.getElem_mem h'))
  have HTL : Hid (∀ k, k ≤ N → (msL n (ll.take k)).length = k) := hid (fun k hk => by rw [msL_len, List.length_take, hN.out]; omega)
  have HM0 : Hid (msL n (ll.take 0) = []) := hid rfl
  have HMN : Hid (msL n (ll.take N) = msL n ll) := hid (by rw [List.take_of_length_le (by rw [hN.out]; exact Nat.le_refl _)])
  clear hl hE hG hc2 hn'
  go_enter Try.func51, Try.ntmps51
  go_wp2_with fail
  refine HC.out.mono ?_
  rintro e w1 ⟨rfl, hb1⟩
  have HB1 := hid hb1
  have hs1 := hb1.size
  clear hb1
  go_wp2_with fail
  go_loopw [4, 9, 18, 20, 21, 22, 23, 24, 25, 26, 27] (fun v4 _ i _ _ _ _ _ _ _ _ wr => ∃ k : Nat, k ≤ N ∧ i = .int .i64 k ∧ OM w.heap.size wr v4 (msL n (ll.take k)) ∧ Below w.heap.size w wr) (fun _ _ i _ _ _ _ _ _ _ _ _ => N - (intOf i).toNat)
  case atStart => exact ⟨0, Nat.zero_le _, rfl, by rw [HM0.out]; exact OM.nil _ _, HB1.out⟩
  case round =>
    obtain ⟨k, hk, rfl, ho, hb⟩ := hrel
    by_cases hlt : k < N
    · have hki : (k : Int) < (N : Int) := by omega
      obtain ⟨g, off, rfl, hg, hc⟩ := HC2.out (by omega)
      obtain ⟨u, c1, s1⟩ := hc k hlt
      have s1' : Sl wr u (ll.getD k []) := s1.below hb
      have c1' := (hb.cell (p := ⟨g, off + k, none⟩) hg).trans c1
      have HMK := hid (HMO.out u _ wr s1' (HPM.out k hlt))
      have HTK2 := hid (HTK.out k hlt)
      have hle : (msL n (ll.take k)).length ≤ 1000000000 := by have := HTL.out k hk; omega
      have HI := hid (And.intro ho hb)
      clear s1 s1' c1 hc ho hb
      generalize mvF n (fL (ll.getD k [])) = z at *
      generalize msL n (ll.take k) = L at *
      have hzl := mvC_lit z
      go_wp2_with fail
      refine HMK.out.mono ?_
      rintro e w2 ⟨rfl, hb2⟩
      unfold mvV
      rw [hzl]
      have hB2 := HI.out.2.trans (hb2.mono HI.out.2.size)
      have H2 := hid (And.intro (HI.out.1.below hb2) hB2)
      have hs2 : w.heap.size ≤ w2.heap.size := hB2.size
      clear hb2 hB2
      go_wp2_with (first
        | (refine wpList_appm z w2 _ _ 64 rfl rfl Try.underlying64 Try.info68 w.heap.size _ L rfl H2.out.1 rfl hle hs2 (Arr.new w2 68 (mvC z)).range ((Below.refl _ _).alloc (Nat.le_refl _) _) ?_
           intro g9 c9 w9 hO9 hg9 hgo hgl)
        | fail)
      have HX := hid (And.intro hO9 (H2.out.2.grown hg9 hs2 (fun b e => (H2.out.1.lt b e).1)))
      rw [← HTK2.out] at HX
      clear hO9 hg9 hgo hgl
      go_roundw
      case rel => exact ⟨k + 1, by omega, by go_num, HX.out.1, HX.out.2⟩
      case measure => simp [intOf] <;> omega
    · obtain rfl : k = N := by omega
      have hki : ¬ (k : Int) < (k : Int) := by omega
      rw [HMN.out] at ho
      have hml : (msL n ll).length ≤ 1000000 := by rw [msL_len, hN.out]; omega
      have hmd := made_ok n u4 (msL n ll) wr n7 ho.rm HG.out.mv hml
      have HMD := hid hmd
      have HI := hid (And.intro ho hb)
      clear hmd ho hb hml
      go_wp2_with fail
      refine HMD.out.mono ?_
      rintro e w2 ⟨⟨r, rfl, hr⟩, hb2⟩
      have HX := hid (And.intro (HI.out.1.below hb2) (And.intro (hr.mono HI.out.2.size) (HI.out.2.trans (hb2.mono HI.out.2.size))))
      clear hb2 hr
      go_wp2
      go_ret3
      exact ⟨⟨_, _, rfl, HX.out.1, HX.out.2.1⟩, HX.out.2.2⟩
end Go.Proofs.Ytnbgnoimanpjnaa
