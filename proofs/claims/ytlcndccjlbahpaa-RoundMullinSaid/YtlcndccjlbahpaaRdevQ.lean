/-
  Starters developed are complete rounds; a strong one and its opposite fill rooms: plain, of the lists. No program in sight; conditions as each law states.
-/
import Derived.Test.YtlcndccjlbahpaaRdevP
import Derived.Test.YtlcndccjlbahpaaRmakes
namespace Go.Proofs.Ytlcndccjlbahpaa
set_option linter.unusedVariables false

def vl (p : Nat → Nat × Nat) (j : Nat) (t : Bool) : Nat := if t then (p j).1 else (p j).2
theorem vl_inj {p : Nat → Nat × Nat} {N : Nat} (h : (alR p N).Nodup) {i j : Nat} {s t : Bool} (hi : i < N) (hj : j < N) (e : vl p i s = vl p j t) : i = j ∧ s = t := by
  obtain ⟨h1, h2⟩ := al_inj h
  rcases Nat.lt_trichotomy i j with hlt | rfl | hgt
  · have := h2 i j hlt hj
    cases s <;> cases t <;> simp [vl] at e <;> omega
  · refine ⟨rfl, ?_⟩
    have := h1 i hi
    cases s <;> cases t <;> simp [vl] at e <;> first | rfl | omega
  · have := h2 j i hgt hi
    cases s <;> cases t <;> simp [vl] at e <;> omega
/-- The pairs of p, each both ways. -/
def PrP (p : Nat → Nat × Nat) (N : Nat) (a b : Nat) : Prop := ∃ j t, j < N ∧ a = vl p j t ∧ b = vl p j (!t)
theorem vl_dq (v : Nat) (p : Nat → Nat × Nat) (j : Nat) (t : Bool) : (vl p j (!t) + v - vl p j t) % v = vl (dq v p) j (!t) := by
  cases t <;> rfl
theorem sta_of {v : Nat} {p : Nat → Nat × Nat} {N : Nat} (hv : v = 2 * N + 1) (hp : ∀ j, j < N → 1 ≤ (p j).1 ∧ (p j).1 < v ∧ 1 ≤ (p j).2 ∧ (p j).2 < v) (h1 : covB v (alR p N) = true) (h2 : covB v (alR (dq v p) N) = true) : Sta v (PrP p N) where
  pos := by omega
  sym := by
    rintro a b ⟨j, t, hj, rfl, rfl⟩
    exact ⟨j, !t, hj, rfl, by rw [Bool.not_not]⟩
  lt := by
    rintro a b ⟨j, t, hj, rfl, rfl⟩
    have hb := hp j hj
    refine ⟨?_, ?_, ?_, ?_, fun e => ?_⟩
    · cases t <;> simp [vl] <;> omega
    · cases t <;> simp [vl] <;> omega
    · cases t <;> simp [vl] <;> omega
    · cases t <;> simp [vl] <;> omega
    · have := (vl_inj (al_nodup hv h1) hj hj e).2
      cases t <;> cases this
  cov := by
    intro a ha1 ha2
    obtain ⟨j, hj, h⟩ := mem_al.1 (cov_iff.1 h1 a ha1 ha2)
    rcases h with rfl | rfl
    · exact ⟨_, j, true, hj, rfl, rfl⟩
    · exact ⟨_, j, false, hj, rfl, rfl⟩
  fn := by
    rintro a b c ⟨i, s, hi, rfl, rfl⟩ ⟨j, t, hj, e, rfl⟩
    obtain ⟨rfl, rfl⟩ := vl_inj (al_nodup hv h1) hi hj e
    rfl
  df := by
    rintro a b c d ⟨i, s, hi, rfl, rfl⟩ ⟨j, t, hj, rfl, rfl⟩ e
    rw [vl_dq, vl_dq] at e
    obtain ⟨rfl, e2⟩ := vl_inj (al_nodup hv h2) hi hj e
    have : s = t := by cases s <;> cases t <;> first | rfl | cases e2
    rw [this]
    exact ⟨rfl, rfl⟩
theorem set_at (l : List Int) (i : Nat) (x : Int) (j : Nat) (hi : i < l.length) : (l.set i x)[j]?.getD 0 = if i = j then x else l[j]?.getD 0 := by
  rw [List.getElem?_set]
  by_cases e : i = j
  · rw [if_pos e, if_pos e, if_pos (by omega)]; rfl
  · rw [if_neg e, if_neg e]
theorem row_of {v r : Nat} {ll : List (List Int)} {N : Nat} (hv : v = 2 * N + 1) (hr : r < v) (hp : ∀ j, j < N → 1 ≤ (pz ll j).1 ∧ (pz ll j).1 < v ∧ 1 ≤ (pz ll j).2 ∧ (pz ll j).2 < v) (h1 : covB v (alR (pz ll) N) = true) :
    ∀ k, k ≤ N → (arL v r (psT ll k)).length = v + 1 ∧ (arL v r (psT ll k))[v]?.getD 0 = (r : Int) ∧ (arL v r (psT ll k))[r]?.getD 0 = (v : Int) ∧ ∀ j t, j < k → (arL v r (psT ll k))[(vl (pz ll) j t + r) % v]?.getD 0 = (((vl (pz ll) j (!t) + r) % v : Nat) : Int)
  | 0, _ => by
    have e : arL v r (psT ll 0) = ar0 v r := rfl
    rw [e]
    unfold ar0
    refine ⟨by simp, ?_, ?_, fun j t hj => by omega⟩
    · rw [set_at _ _ _ _ (by simp; omega), if_neg (by omega), set_at _ _ _ _ (by simp), if_pos rfl]
    · rw [set_at _ _ _ _ (by simp; omega), if_pos rfl]
  | k + 1, hk => by
    obtain ⟨i1, i2, i3, i4⟩ := row_of hv hr hp h1 k (by omega)
    have hb := hp k (by omega)
    rw [arL_psT]
    have hvb : ∀ j t, j < N → 1 ≤ vl (pz ll) j t ∧ vl (pz ll) j t < v := by
      intro j t hj
      have := hp j hj
      cases t <;> simp [vl] <;> omega
    have e1 : (pz ll k).1 = vl (pz ll) k true := rfl
    have e2 : (pz ll k).2 = vl (pz ll) k false := rfl
    unfold arS
    rw [e1, e2]
    have b1 := hvb k true (by omega)
    have b2 := hvb k false (by omega)
    have hne : vl (pz ll) k true ≠ vl (pz ll) k false := fun e => by have := (vl_inj (al_nodup hv h1) (by omega) (by omega) e).2; cases this
    have hoth : ∀ j t s, j < k → vl (pz ll) j t ≠ vl (pz ll) k s := fun j t s hj e => by have := (vl_inj (al_nodup hv h1) (by omega) (by omega) e).1; omega
    generalize hL : arL v r (psT ll k) = L at *
    have m1 := md (v := v) (x := vl (pz ll) k true + r) (by omega)
    have m2 := md (v := v) (x := vl (pz ll) k false + r) (by omega)
    have hat : ∀ x, ((L.set ((vl (pz ll) k true + r) % v) (((vl (pz ll) k false + r) % v : Nat) : Int)).set ((vl (pz ll) k false + r) % v) (((vl (pz ll) k true + r) % v : Nat) : Int))[x]?.getD 0
        = if (vl (pz ll) k false + r) % v = x then (((vl (pz ll) k true + r) % v : Nat) : Int) else if (vl (pz ll) k true + r) % v = x then (((vl (pz ll) k false + r) % v : Nat) : Int) else L[x]?.getD 0 := by
      intro x
      rw [set_at _ _ _ _ (by rw [List.length_set]; omega), set_at _ _ _ _ (by omega)]
    refine ⟨by simp [i1], ?_, ?_, fun j t hj => ?_⟩
    · rw [hat, if_neg (by omega), if_neg (by omega), i2]
    · rw [hat, if_neg (by omega), if_neg (by omega), i3]
    · rw [hat]
      by_cases e : j = k
      · subst e
        cases t with
        | true => rw [if_neg (by omega), if_pos rfl]; rfl
        | false => rw [if_pos rfl]; rfl
      · have hjk : j < k := by omega
        have q1 := hoth j t true hjk
        have q2 := hoth j t false hjk
        have b3 := hvb j t (by omega)
        have m3 := md (v := v) (x := vl (pz ll) j t + r) (by omega)
        rw [if_neg (by omega), if_neg (by omega)]
        exact i4 j t hjk
/-- What a right starter is. -/
theorem st_sta {v : Nat} {ll : List (List Int)} (h : stE v ll = 0) : 3 ≤ v ∧ v ≤ 15 ∧ v = 2 * ll.length + 1 ∧ Sta v (PrP (pz ll) ll.length) ∧ ∀ r, r < v → RowS v (PrP (pz ll) ll.length) r ((dvL v ll).getD r []) := by
  obtain ⟨m, hm, h3, h15, hmN, hp, h1, h2⟩ := st_zero h
  obtain rfl : v = m := by omega
  have hp' : ∀ j, j < ll.length → 1 ≤ (pz ll j).1 ∧ (pz ll j).1 < v ∧ 1 ≤ (pz ll j).2 ∧ (pz ll j).2 < v := fun j hj => (pz_spec (hp j hj)).2.2.2
  refine ⟨h3, h15, hmN, sta_of hmN hp' h1 h2, fun r hr => ?_⟩
  rw [dvL, arR_getD _ _ _ _ hr]
  obtain ⟨i1, i2, i3, i4⟩ := row_of hmN hr hp' h1 ll.length (Nat.le_refl _)
  refine ⟨i1, i2, i3, ?_⟩
  rintro a b ⟨j, t, hj, rfl, rfl⟩
  exact i4 j t hj
theorem dv_chk {v : Nat} {ll : List (List Int)} (h : stE v ll = 0) : chkE ((v : Int) + 1) (dvL v ll) = 0 := by
  obtain ⟨h3, h15, hvN, S, hrow⟩ := st_sta h
  have ht : tmB ((v : Int) + 1) = true := by
    unfold tmB
    rw [decide_eq_true_iff]
    omega
  have hn : ((v : Int) + 1).toNat = v + 1 := by omega
  rw [chkE, if_pos ht, hn, if_neg (by rw [dv_len]; omega), if_pos (fr_none fun j hj => ?_), if_neg]
  · intro hw
    unfold twB at hw
    obtain ⟨i, hi, hw⟩ := List.any_eq_true.1 hw
    obtain ⟨j, hj, hw⟩ := List.any_eq_true.1 hw
    obtain ⟨a, ha, hw⟩ := List.any_eq_true.1 hw
    have hi := List.mem_range.1 hi
    have hj := List.mem_range.1 hj
    rw [dv_len] at hi
    exact (hrow i hi).apart S (hrow j (by omega)) hi (by omega) (by omega) (List.mem_range.1 ha) (by simpa using hw)
  · rw [dv_len] at hj
    exact (hrow j hj).rd S hj
theorem dv_i64 {v : Nat} {ll : List (List Int)} (h : stE v ll = 0) : ∀ l ∈ dvL v ll, ∀ x ∈ l, I64 x := by
  intro l hl x hx
  obtain ⟨h3, h15, hvN, S, hrow⟩ := st_sta h
  obtain ⟨i, hi, e⟩ := List.mem_iff_getElem.1 hl
  have hi2 := hi
  rw [dv_len] at hi2
  have h7 := (hrow i hi2).rd S hi2
  rw [List.getD_eq_getElem?_getD, List.getElem?_eq_getElem hi, Option.getD_some, e] at h7
  have h8 := (rd_spec h7).2.1
  have h9 : offR (v + 1) x = false := by
    cases hq : offR (v + 1) x with
    | false => rfl
    | true => exact absurd (List.any_eq_true.2 ⟨x, hx, hq⟩) (by rw [h8]; decide)
  rw [offR_false] at h9
  unfold I64
  omega
/-- The opposite of a starter. -/
def lsL (v : Nat) (ll : List (List Int)) (k : Nat) : List (List Int) := (List.range k).map fun j => [(v : Int) - ((pz ll j).1 : Int), (v : Int) - ((pz ll j).2 : Int)]
theorem lsL_len (v : Nat) (ll : List (List Int)) (k : Nat) : (lsL v ll k).length = k := by simp [lsL]
theorem lsL_getD {v : Nat} {ll : List (List Int)} {k j : Nat} (hj : j < k) : (lsL v ll k).getD j [] = [(v : Int) - ((pz ll j).1 : Int), (v : Int) - ((pz ll j).2 : Int)] := by
  simp [lsL, List.getD_eq_getElem?_getD, hj]
theorem lsL_succ (v : Nat) (ll : List (List Int)) (k : Nat) : lsL v ll (k + 1) = lsL v ll k ++ [[(v : Int) - ((pz ll k).1 : Int), (v : Int) - ((pz ll k).2 : Int)]] := by simp [lsL, List.range_succ]
theorem ls_st {v : Nat} {ll : List (List Int)} (h : stE v ll = 0) : stE v (lsL v ll ll.length) = 0 ∧ ∀ j, j < ll.length → pz (lsL v ll ll.length) j = (v - (pz ll j).1, v - (pz ll j).2) := by
  obtain ⟨m, hm, h3, h15, hmN, hp, h1, h2⟩ := st_zero h
  obtain rfl : v = m := by omega
  have hp' : ∀ j, j < ll.length → 1 ≤ (pz ll j).1 ∧ (pz ll j).1 < v ∧ 1 ≤ (pz ll j).2 ∧ (pz ll j).2 < v := fun j hj => (pz_spec (hp j hj)).2.2.2
  have hpz : ∀ j, j < ll.length → pz (lsL v ll ll.length) j = (v - (pz ll j).1, v - (pz ll j).2) := by
    intro j hj
    have := hp' j hj
    unfold pz
    rw [lsL_getD hj]
    unfold pz at this ⊢
    simp only [List.getElem?_cons_zero, List.getElem?_cons_succ, Option.getD_some, Prod.mk.injEq] at this ⊢
    omega
  have ht : tvB (v : Int) = true := by
    unfold tvB
    rw [decide_eq_true_iff]
    omega
  have hpr : ∀ j, j < (lsL v ll ll.length).length → prE v ((lsL v ll ll.length).getD j []) = 0 := by
    intro j hj
    rw [lsL_len] at hj
    have := hp' j hj
    rw [lsL_getD hj]
    exact pr_in rfl (by simp only [List.getElem?_cons_zero, List.getElem?_cons_succ, Option.getD_some]; omega)
  refine ⟨?_, hpz⟩
  have e := st_end (v := v) (ll := lsL v ll ll.length) ht (by rw [lsL_len, Int.toNat_natCast]; omega) (by rw [Int.toNat_natCast]; exact hpr)
  rw [e, lsL_len, Int.toNat_natCast, if_pos]
  rw [Bool.and_eq_true]
  refine ⟨cov_iff.2 fun x hx1 hx2 => ?_, cov_iff.2 fun x hx1 hx2 => ?_⟩
  · obtain ⟨j, hj, hh⟩ := mem_al.1 (cov_iff.1 h1 (v - x) (by omega) (by omega))
    have := hp' j hj
    exact mem_al.2 ⟨j, hj, by rw [hpz j hj]; simp only; omega⟩
  · obtain ⟨j, hj, hh⟩ := mem_al.1 (cov_iff.1 h2 x hx1 hx2)
    have hb := hp' j hj
    refine mem_al.2 ⟨j, hj, ?_⟩
    have e1 : (dq v (pz (lsL v ll ll.length)) j).1 = (dq v (pz ll) j).2 := by
      unfold dq
      rw [hpz j hj]
      simp only
      congr 1
      omega
    have e2 : (dq v (pz (lsL v ll ll.length)) j).2 = (dq v (pz ll) j).1 := by
      unfold dq
      rw [hpz j hj]
      simp only
      congr 1
      omega
    rw [e1, e2]
    exact hh.symm
theorem sm_mem {v : Nat} {p : Nat → Nat × Nat} : ∀ {k : Nat}, 0 ∈ smL v p k ∧ ∀ j, j < k → smN v p j ∈ smL v p k
  | 0 => ⟨by simp [smL], fun j hj => by omega⟩
  | k + 1 => by
    obtain ⟨h1, h2⟩ := sm_mem (v := v) (p := p) (k := k)
    refine ⟨by simp [smL, h1], fun j hj => ?_⟩
    by_cases e : j = k
    · subst e; simp [smL]
    · simp [smL, h2 j (by omega)]
theorem sg_spec {v : Nat} {p : Nat → Nat × Nat} {N : Nat} (h : sgB v p N = true) : (∀ k, k < N → smN v p k ≠ 0) ∧ ∀ i j, i < j → j < N → smN v p j ≠ smN v p i := by
  have hk : ∀ k, k < N → smN v p k ∉ smL v p k := fun k hk => by
    have := List.all_eq_true.1 h k (List.mem_range.2 hk)
    simpa using this
  refine ⟨fun k hkN e => hk k hkN (by rw [e]; exact sm_mem.1), fun i j hij hj e => hk j hj (by rw [e]; exact sm_mem.2 i hij)⟩
theorem vl_sum (v : Nat) (p : Nat → Nat × Nat) (j : Nat) (t : Bool) : (vl p j t + vl p j (!t)) % v = smN v p j := by
  cases t
  · show ((p j).2 + (p j).1) % v = ((p j).1 + (p j).2) % v
    rw [Nat.add_comm]
  · rfl
theorem mullin {v : Nat} {ll : List (List Int)} (h : stE v ll = 0) (hs : sgB v (pz ll) ll.length = true) : rmZ ((v : Int) + 1) (dvL v ll) (dvL v (lsL v ll ll.length)) = true ∧ rmE ((v : Int) + 1) (dvL v ll) (dvL v (lsL v ll ll.length)) = 0 := by
  obtain ⟨g, hpz⟩ := ls_st h
  obtain ⟨h3, h15, hvN, S, hrow⟩ := st_sta h
  obtain ⟨_, _, _, S', hrow'⟩ := st_sta g
  have hE : rmE ((v : Int) + 1) (dvL v ll) (dvL v (lsL v ll ll.length)) = 0 := by
    unfold rmE
    rw [dv_chk h, dv_chk g]
    rfl
  refine ⟨?_, hE⟩
  have hn : ((v : Int) + 1).toNat = v + 1 := by omega
  unfold rmZ
  rw [hE, hn]
  unfold rmB
  have hb1 : ((dvL v ll).length == v + 1 - 1) = true := by rw [dv_len]; simp
  have hb2 : ((dvL v (lsL v ll ll.length)).length == v + 1 - 1) = true := by rw [dv_len]; simp
  rw [hb1, hb2]
  simp only [beq_self_eq_true, Bool.true_and]
  refine sm_yes fun i hi j hj => ?_
  rw [dv_len] at hi hj
  obtain ⟨s1, s2⟩ := sg_spec hs
  rw [lsL_len] at S' hrow'
  obtain ⟨P, Q, hPQ⟩ := RowS.rooms S S' (by
    rintro a b ⟨k, t, hk, rfl, rfl⟩
    refine ⟨k, t, hk, ?_, ?_⟩
    · have hb := S'.lt _ _ ⟨k, t, hk, rfl, rfl⟩
      have hq := S.lt _ _ ⟨k, t, hk, rfl, rfl⟩
      have e : vl (pz (lsL v ll ll.length)) k t = v - vl (pz ll) k t := by unfold vl; rw [hpz k hk]; cases t <;> rfl
      rw [e]
      omega
    · have hb := S'.lt _ _ ⟨k, t, hk, rfl, rfl⟩
      have hq := S.lt _ _ ⟨k, t, hk, rfl, rfl⟩
      have e : vl (pz (lsL v ll ll.length)) k (!t) = v - vl (pz ll) k (!t) := by unfold vl; rw [hpz k hk]; cases t <;> rfl
      rw [e]
      omega) (by
    rintro a b ⟨k, t, hk, rfl, rfl⟩
    rw [vl_sum]
    exact s1 k hk) (by
    rintro a b c d ⟨k, t, hk, rfl, rfl⟩ ⟨k2, t2, hk2, rfl, rfl⟩ e
    rw [vl_sum, vl_sum] at e
    have : k = k2 := by
      rcases Nat.lt_trichotomy k k2 with hl | hl | hl
      · exact absurd e.symm (s2 k k2 hl hk2)
      · exact hl
      · exact absurd e (s2 k2 k hl hk)
    subst this
    cases t <;> cases t2 <;> simp) (hrow i hi) (hrow' j hj) hi hj
  have := sm_two (v + 1) hPQ
  unfold smB
  refine decide_eq_true ?_
  split at this <;> split at this <;> omega
end Go.Proofs.Ytlcndccjlbahpaa
