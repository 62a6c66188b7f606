/-
  The walks over group.Check, parterreref1.GroupFault and MemberFault. Conditions: the slices can be read; numbers of 64 bits.
-/
import Derived.Test.YtnbgnoimanpjnaaLists
import Derived.Test.YtnbgnoimanpjnaaPchk
namespace Go.Proofs.Ytnbgnoimanpjnaa
set_option linter.unusedVariables false
open Go.RowKit

/-- What is wrong with one permutation of n points. -/
def memE (n : Int) (l : List Int) : Int := if permE l ≠ 0 then permE l else if ((l.length : Nat) : Int) ≠ n then 2 else 0
/-- What is wrong with the first that is wrong. -/
def firstE (n : Int) : List (List Int) → Int
  | [] => 0
  | l :: ls => if memE n l ≠ 0 then memE n l else firstE n ls
/-- What is wrong with a group. -/
def grpE (n : Int) (ll : List (List Int)) : Int := if n < 1 ∨ 7 < n then 1 else if 4 < ll.length then 3 else firstE n ll
theorem firstE_zero {n : Int} : ∀ {ll : List (List Int)}, firstE n ll = 0 → ∀ l ∈ ll, memE n l = 0
  | [], _, l, hl => by cases hl
  | m :: ls, h, l, hl => by
    unfold firstE at h
    by_cases hm : memE n m = 0
    · rw [if_neg (by rw [hm]; decide)] at h
      rcases List.mem_cons.1 hl with rfl | hl
      · exact hm
      · exact firstE_zero h l hl
    · rw [if_pos hm] at h; exact absurd h hm
theorem memE_zero {n : Int} {l : List Int} (h : memE n l = 0) : permE l = 0 ∧ ((l.length : Nat) : Int) = n := by
  unfold memE at h
  by_cases h1 : permE l = 0
  · rw [if_neg (by rw [h1]; decide)] at h
    refine ⟨h1, ?_⟩
    by_cases h2 : ((l.length : Nat) : Int) = n
    · exact h2
    · rw [if_pos h2] at h; cases h
  · rw [if_pos h1] at h; exact absurd h h1
theorem grpE_zero {n : Int} {ll : List (List Int)} (h : grpE n ll = 0) : (1 ≤ n ∧ n ≤ 7) ∧ ll.length ≤ 4 ∧ ∀ l ∈ ll, permE l = 0 ∧ ((l.length : Nat) : Int) = n := by
  unfold grpE at h
  by_cases h1 : n < 1 ∨ 7 < n
  · rw [if_pos h1] at h; cases h
  rw [if_neg h1] at h
  by_cases h2 : 4 < ll.length
  · rw [if_pos h2] at h; cases h
  rw [if_neg h2] at h
  exact ⟨by omega, by omega, fun l hl => memE_zero (firstE_zero h l hl)⟩
theorem first_step {n : Int} {ll : List (List Int)} {k : Nat} (h : k < ll.length) : firstE n (ll.drop k) = if memE n (ll.getD k []) ≠ 0 then memE n (ll.getD k []) else firstE n (ll.drop (k + 1)) := by
  rw [List.drop_eq_getElem_cons h, firstE, List.getD_eq_getElem?_getD, List.getElem?_eq_getElem h, Option.getD_some]
theorem first_end {n : Int} {ll : List (List Int)} {k : Nat} (h : ll.length ≤ k) : firstE n (ll.drop k) = 0 := by
  rw [List.drop_eq_nil_of_le h, firstE]
theorem grp_far {n : Int} {ll : List (List Int)} (h : n < 1 ∨ 7 < n) : grpE n ll = 1 := if_pos h
theorem grp_full {n : Int} {ll : List (List Int)} (h : ¬ (n < 1 ∨ 7 < n)) (h2 : 4 < ll.length) : grpE n ll = 3 := by
  unfold grpE; rw [if_neg h, if_pos h2]
theorem grp_rest {n : Int} {ll : List (List Int)} (h : ¬ (n < 1 ∨ 7 < n)) (h2 : ¬ 4 < ll.length) : grpE n ll = firstE n (ll.drop 0) := by
  unfold grpE; rw [if_neg h, if_neg h2, List.drop_zero]

theorem member_any (n : Int) (v : Value) (l : List Int) (w : World) (hl : Sl w v l) :
    Calls Try.prog 22 #[.int .i64 n, v] w fun e w' => e = .returned (.int .i64 (memE n l)) ∧ ∃ q, w' = w.drewN q := by
  obtain ⟨a, c, e1⟩ := hl.len
  subst e1
  have HP := hid (fun q => permfault_any _ l (w.drewN q) (hl.drewN q))
  have HM : Hid (memE n l = if permE l ≠ 0 then permE l else if ((l.length : Nat) : Int) ≠ n then 2 else 0) := hid rfl
  generalize memE n l = M at *
  generalize permE l = E at *
  generalize l.length = N at *
  clear hl
  by_cases h1 : E = 0
  · subst h1
    have HM2 : Hid (M = if ((N : Nat) : Int) ≠ n then 2 else 0) := hid (by rw [HM.out, if_neg (by decide)])
    clear HM
    by_cases h2 : (N : Int) = n
    · obtain rfl : M = 0 := by rw [HM2.out, if_neg (by rw [h2]; exact fun h => h rfl)]
      subst h2
      go_enter Try.func22, Try.ntmps22
      go_wp2_with fail
      refine (HP.out 0).mono ?_
      rintro e w1 ⟨rfl, q, rfl⟩
      go_wp2
      go_ret
      exact ⟨rfl, q, rfl⟩
    · obtain rfl : M = 2 := by rw [HM2.out, if_pos h2]
      have hb : (((N : Nat) : Int) != n) = true := bne_iff_ne.2 h2
      go_enter Try.func22, Try.ntmps22
      go_wp2_with fail
      refine (HP.out 0).mono ?_
      rintro e w1 ⟨rfl, q, rfl⟩
      go_wp2
      go_ret
      exact ⟨rfl, q, rfl⟩
  · obtain rfl : M = E := by rw [HM.out, if_pos h1]
    have hb : (M != 0) = true := bne_iff_ne.2 h1
    go_enter Try.func22, Try.ntmps22
    go_wp2_with fail
    refine (HP.out 0).mono ?_
    rintro e w1 ⟨rfl, q, rfl⟩
    go_wp2
    go_ret
    exact ⟨rfl, q, rfl⟩

theorem gfault_any (n : Int) (v : Value) (ll : List (List Int)) (w : World) (hl : RL w v ll) :
    Calls Try.prog 14 #[.int .i64 n, v] w fun e w' => e = .returned (.int .i64 (grpE n ll)) ∧ ∃ q, w' = w.drewN q := by
  obtain ⟨a, c, N, rfl, hN, hc1, hc2⟩ := hl.open
  by_cases h1 : n < 1
  · have HE := hid (grp_far (ll := ll) (.inl h1))
    go_enter Try.func14, Try.ntmps14
    go_wp2
    go_ret
    exact ⟨by rw [HE.out]; rfl, 0, rfl⟩
  by_cases h2 : 7 < n
  · have HE := hid (grp_far (ll := ll) (.inr h2))
    go_enter Try.func14, Try.ntmps14
    go_wp2
    go_ret
    exact ⟨by rw [HE.out]; rfl, 0, rfl⟩
  by_cases h3 : 4 < N
  · have HE := hid (grp_full (n := n) (ll := ll) (by omega) (by rw [hN.out]; exact h3))
    have h3i : (4 : Int) < (N : Int) := by omega
    go_enter Try.func14, Try.ntmps14
    go_wp2
    go_ret
    exact ⟨by rw [HE.out]; rfl, 0, rfl⟩
  have HE := hid (grp_rest (n := n) (ll := ll) (by omega) (by rw [hN.out]; exact h3))
  have HST := hid (fun k (h : k < N) => first_step (n := n) (ll := ll) (k := k) (by rw [hN.out]; exact h))
  have HEN := hid (fun k (h : N ≤ k) => first_end (n := n) (ll := ll) (k := k) (by rw [hN.out]; exact h))
  have HM := hid (fun (u : Value) (l : List Int) (w1 : World) hu => member_any n u l w1 hu)
  generalize grpE n ll = E at *
  have h3i : ¬ (4 : Int) < (N : Int) := by omega
  go_enter Try.func14, Try.ntmps14
  go_wp2_with fail
  go_loopw [5, 6] (fun i _ wr => ∃ k : Nat, k ≤ N ∧ i = .int .i64 k ∧ (∃ q, wr = w.drewN q) ∧ Hid (E = firstE n (ll.drop k))) (fun i _ _ => N - (intOf i).toNat)
  case atStart => exact ⟨0, Nat.zero_le _, rfl, ⟨0, rfl⟩, hid HE.out⟩
  case round =>
    clear HE
    obtain ⟨k, hk, rfl, ⟨q, hq⟩, HE⟩ := hrel
    by_cases hlt : k < N
    · have hki : (k : Int) < (N : Int) := by omega
      obtain ⟨g, off, rfl, hg, hc⟩ := hc2 (by omega)
      obtain ⟨u, c1, s1⟩ := hc k hlt
      have s1' : Sl wr u (ll.getD k []) := by rw [hq]; exact s1.drewN _
      have c1' : wr.cell? ⟨g, off + k, none⟩ = some u := by rw [hq]; exact c1
      have HMK := hid (HM.out u _ wr s1')
      have HSK := hid (HST.out k hlt)
      have HQ := hid hq
      clear s1 s1' c1 hq hc hc2 hl HST
      by_cases hz : memE n (ll.getD k []) = 0
      · have HEK : Hid (E = firstE n (ll.drop (k + 1))) := hid (by rw [HE.out, HSK.out, if_neg (by rw [hz]; decide)])
        rw [hz] at HMK
        clear hz HSK
        go_wp2_with fail
        refine HMK.out.mono ?_
        rintro e w1 ⟨rfl, q1, rfl⟩
        go_wp2
        go_roundw
        case rel => exact ⟨k + 1, by omega, by go_num, by rw [HQ.out]; simp only [World.drewN_drewN]; exact ⟨_, rfl⟩, hid HEK.out⟩
        case measure => simp [intOf] <;> omega
      · have HEK : Hid (E = memE n (ll.getD k [])) := hid (by rw [HE.out, HSK.out, if_pos hz])
        have hb : (memE n (ll.getD k []) != 0) = true := bne_iff_ne.2 hz
        clear hz HSK
        generalize memE n (ll.getD k []) = M at *
        go_wp2_with fail
        refine HMK.out.mono ?_
        rintro e w1 ⟨rfl, q1, rfl⟩
        go_wp2
        go_ret
        refine ⟨by rw [HEK.out]; rfl, ?_⟩
        rw [HQ.out]; simp only [World.drewN_drewN]; exact ⟨_, rfl⟩
    · have hki : ¬ (k : Int) < (N : Int) := by omega
      have HZ := hid (HE.out.trans (HEN.out k (by omega)))
      subst hq
      go_wp2
      go_ret
      exact ⟨by rw [HZ.out]; rfl, q, rfl⟩

theorem gcheck_any (n : Int) (v : Value) (ll : List (List Int)) (w : World) (hl : RL w v ll) :
    Calls Try.prog 15 #[.int .i64 n, v] w fun e w' => e = .returned (.int .i64 (grpE n ll)) ∧ Below w.heap.size w w' := by
  obtain ⟨a, c, N, rfl, hN, hc1, hc2⟩ := hl.open
  by_cases h1 : n < 1
  · have HE := hid (grp_far (ll := ll) (.inl h1))
    go_enter Try.func15, Try.ntmps15
    go_wp2
    go_ret
    exact ⟨by rw [HE.out]; rfl, Below.refl _ _⟩
  by_cases h2 : 7 < n
  · have HE := hid (grp_far (ll := ll) (.inr h2))
    go_enter Try.func15, Try.ntmps15
    go_wp2
    go_ret
    exact ⟨by rw [HE.out]; rfl, Below.refl _ _⟩
  by_cases h3 : 4 < N
  · have HE := hid (grp_full (n := n) (ll := ll) (by omega) (by rw [hN.out]; exact h3))
    have h3i : (4 : Int) < (N : Int) := by omega
    go_enter Try.func15, Try.ntmps15
    go_wp2
    go_ret
    exact ⟨by rw [HE.out]; rfl, Below.refl _ _⟩
  have HE := hid (grp_rest (n := n) (ll := ll) (by omega) (by rw [hN.out]; exact h3))
  have HST := hid (fun k (h : k < N) => first_step (n := n) (ll := ll) (k := k) (by rw [hN.out]; exact h))
  have HEN := hid (fun k (h : N ≤ k) => first_end (n := n) (ll := ll) (k := k) (by rw [hN.out]; exact h))
  have HM := hid (fun (u : Value) (l : List Int) (w1 : World) hu => check_any u l w1 hu)
  generalize grpE n ll = E at *
  have h3i : ¬ (4 : Int) < (N : Int) := by omega
  go_enter Try.func15, Try.ntmps15
  go_wp2_with fail
  go_loopw [6, 7, 21] (fun _ _ i wr => ∃ k : Nat, k ≤ N ∧ i = .int .i64 k ∧ Below w.heap.size w wr ∧ Hid (E = firstE n (ll.drop k))) (fun _ _ i _ => N - (intOf i).toNat)
  case atStart => exact ⟨0, Nat.zero_le _, rfl, Below.refl _ _, hid HE.out⟩
  case round =>
    clear HE
    obtain ⟨k, hk, rfl, hq, HE⟩ := hrel
    by_cases hlt : k < N
    · have hki : (k : Int) < (N : Int) := by omega
      obtain ⟨g, off, rfl, hg, hc⟩ := hc2 (by omega)
      obtain ⟨u, c1, s1⟩ := hc k hlt
      have s1' : Sl wr u (ll.getD k []) := s1.below hq
      obtain ⟨ua, uc, e1⟩ := s1'.len
      subst e1
      have c1' := (hq.cell (p := ⟨g, off + k, none⟩) hg).trans c1
      have HMK := hid (HM.out _ _ wr s1')
      have HSK := hid (HST.out k hlt)
      have HQ := hid hq
      clear s1 s1' c1 hq hc hc2 hl HST
      have HME : Hid (memE n (ll.getD k []) = if permE (ll.getD k []) ≠ 0 then permE (ll.getD k []) else if (((ll.getD k []).length : Nat) : Int) ≠ n then 2 else 0) := hid rfl
      generalize memE n (ll.getD k []) = M at *
      generalize permE (ll.getD k []) = E' at *
      generalize (ll.getD k []).length = L at *
      by_cases hz : E' = 0
      · subst hz
        by_cases hy : (L : Int) = n
        · obtain rfl : M = 0 := by rw [HME.out, if_neg (by decide), if_neg (by rw [hy]; exact fun h => h rfl)]
          have HEK : Hid (E = firstE n (ll.drop (k + 1))) := hid (by rw [HE.out, HSK.out, if_neg (by decide)])
          clear HSK HME
          subst hy
          go_wp2_with fail
          refine HMK.out.mono ?_
          rintro e w1 ⟨rfl, hb1⟩
          have HB := hid (HQ.out.trans (hb1.mono HQ.out.size))
          clear hb1
          go_wp2
          go_roundw
          case rel => exact ⟨k + 1, by omega, by go_num, HB.out, hid HEK.out⟩
          case measure => simp [intOf] <;> omega
        · obtain rfl : M = 2 := by rw [HME.out, if_neg (by decide), if_pos hy]
          have HEK : Hid (E = 2) := hid (by rw [HE.out, HSK.out, if_pos (by decide)])
          have hb : (((L : Nat) : Int) != n) = true := bne_iff_ne.2 hy
          clear HSK HME hy
          go_wp2_with fail
          refine HMK.out.mono ?_
          rintro e w1 ⟨rfl, hb1⟩
          have HB := hid (HQ.out.trans (hb1.mono HQ.out.size))
          clear hb1
          go_wp2
          go_ret
          exact ⟨by rw [HEK.out]; rfl, HB.out⟩
      · obtain rfl : M = E' := by rw [HME.out, if_pos hz]
        have HEK : Hid (E = M) := hid (by rw [HE.out, HSK.out, if_pos hz])
        have hb : (M != 0) = true := bne_iff_ne.2 hz
        clear hz HSK HME
        go_wp2_with fail
        refine HMK.out.mono ?_
        rintro e w1 ⟨rfl, hb1⟩
        have HB := hid (HQ.out.trans (hb1.mono HQ.out.size))
        clear hb1
        go_wp2
        go_ret
        exact ⟨by rw [HEK.out]; rfl, HB.out⟩
    · have hki : ¬ (k : Int) < (N : Int) := by omega
      have HZ := hid (HE.out.trans (HEN.out k (by omega)))
      have HQ := hid hq
      clear hq
      go_wp2
      go_ret
      exact ⟨by rw [HZ.out]; rfl, HQ.out⟩
end Go.Proofs.Ytnbgnoimanpjnaa
