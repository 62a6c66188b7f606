/-
  The walks over group.orbits and group.Orbits. Conditions: the slices can be read; numbers of 64 bits.
-/
import Derived.Test.YtnbgnoimanpjnaaGord
import Derived.Test.YtnbgnoimanpjnaaGlord
import Derived.Test.YtnbgnoimanpjnaaGsrt
import Derived.Test.YtnbgnoimanpjnaaContains
import Derived.Test.YtnbgnoimanpjnaaGel
import Derived.Deep.LoopGhost
namespace Go.Proofs.Ytnbgnoimanpjnaa
set_option linter.unusedVariables false
open Go.RowKit

/-- A point's orbit, in order; the orbits of the first points. -/
def orbL (n : Nat) (L : List (Nat → Nat)) (p : Nat) : List Nat := (List.range n).filter fun q => L.any fun a => a p == q
def orsL (n : Nat) (L : List (Nat → Nat)) : Nat → List (List Nat)
  | 0 => []
  | p + 1 => if (orsL n L p).any (fun o => o.contains p) then orsL n L p else orsL n L p ++ [orbL n L p]
theorem orsL_len (n : Nat) (L : List (Nat → Nat)) : ∀ p, (orsL n L p).length ≤ p
  | 0 => Nat.le_refl _
  | p + 1 => by
    have := orsL_len n L p
    unfold orsL
    split
    · omega
    · rw [List.length_append]; simp; omega
theorem orbL_len (n : Nat) (L : List (Nat → Nat)) (p : Nat) : (orbL n L p).length ≤ n := Nat.le_trans (List.length_filter_le _ _) (by simp)
theorem orsL_each (n : Nat) (L : List (Nat → Nat)) : ∀ p, ∀ o ∈ orsL n L p, o.length ≤ n
  | 0, o, h => by simp [orsL] at h
  | p + 1, o, h => by
    unfold orsL at h
    split at h
    · exact orsL_each n L p o h
    · rcases List.mem_append.1 h with h | h
      · exact orsL_each n L p o h
      · rw [List.mem_singleton.1 h]; exact orbL_len n L p
theorem orsL_yes {n : Nat} {L : List (Nat → Nat)} {p t : Nat} (ht : t < (orsL n L p).length) (h : ((p : Nat) : Int) ∈ intsL ((orsL n L p).getD t [])) : orsL n L (p + 1) = orsL n L p := by
  rw [orsL, if_pos]
  rw [List.any_eq_true]
  refine ⟨_, getD_mem ht [], ?_⟩
  rw [List.contains_iff_mem]
  obtain ⟨q, hq, e⟩ := List.mem_map.1 h
  have : q = p := by omega
  subst this
  exact hq
theorem orsL_no {n : Nat} {L : List (Nat → Nat)} {p : Nat} (h : ∀ t, t < (orsL n L p).length → ¬ ((p : Nat) : Int) ∈ intsL ((orsL n L p).getD t [])) : orsL n L (p + 1) = orsL n L p ++ [orbL n L p] := by
  rw [orsL, if_neg]
  rw [List.any_eq_true]
  rintro ⟨o, ho, hp⟩
  rw [List.contains_iff_mem] at hp
  obtain ⟨t, ht, rfl⟩ := List.mem_iff_getElem.1 ho
  refine h t ht ?_
  rw [List.getD_eq_getElem?_getD, List.getElem?_eq_getElem ht, Option.getD_some]
  exact List.mem_map.2 ⟨p, hp, rfl⟩
/-- Where a point goes. -/
def toL (L : List (Nat → Nat)) (p k : Nat) : List Int := (L.take k).map fun a => ((a p : Nat) : Int)
theorem toL_len {L : List (Nat → Nat)} {p k : Nat} (h : k ≤ L.length) : (toL L p k).length = k := by simp [toL]; omega
theorem toL_succ {L : List (Nat → Nat)} {p k : Nat} (h : k < L.length) : toL L p (k + 1) = toL L p k ++ [((L.getD k id p : Nat) : Int)] := by
  unfold toL
  rw [List.take_add_one, List.map_append]
  simp [h]
theorem toL_orb {n : Nat} {L : List (Nat → Nat)} {p : Nat} (hL : ∀ a ∈ L, Mv n a) (hp : p < n) : Lib.compact ((toL L p L.length).mergeSort fun x y => decide (x ≤ y)) = intsL (orbL n L p) := by
  rw [sorted_compact (n := n)]
  · unfold intsL orbL toL
    congr 1
    refine List.filter_congr fun q hq => ?_
    rw [List.take_length, Bool.eq_iff_iff, decide_eq_true_eq, List.any_eq_true]
    simp only [List.mem_map, beq_iff_eq]
    constructor
    · rintro ⟨a, ha, e⟩
      exact ⟨a, ha, by omega⟩
    · rintro ⟨a, ha, e⟩
      exact ⟨a, ha, by omega⟩
  · intro x hx
    unfold toL at hx
    rw [List.take_length] at hx
    obtain ⟨a, ha, rfl⟩ := List.mem_map.1 hx
    have := (hL a ha).pm.lt p hp
    omega

set_option maxHeartbeats 4000000 in
set_option maxRecDepth 100000 in
theorem orbits_ok (n : Nat) (B0 : Nat) (v : Value) (L : List (Nat → Nat)) (w : World) (hv : OM B0 w v L) (hn : n ≤ 7) (h1 : 1 ≤ L.length) (hlen : L.length ≤ 1000000) (hL : ∀ a ∈ L, Mv n a) :
    Calls Try.prog 61 #[.int .i64 n, v] w fun e w' => (∃ r, e = .returned r ∧ OL w.heap.size w'.heap.size w' r ((orsL n L n).map intsL)) ∧ Below w.heap.size w w' := by
  obtain ⟨og, oc, rfl, _, hog⟩ := hv.form h1
  have HV := hid (fun w1 (hb : Below w.heap.size w w1) k (hk : k < L.length) => (hv.below hb).range hk)
  have HLT := hid (fun k (hk : k < L.length) => (hL _ (getD_mem hk id)).lt7 hn)
  have HTS := hid (fun p k (hk : k < L.length) => toL_succ (L := L) (p := p) (k := k) hk)
  have HTL := hid (fun p k (hk : k ≤ L.length) => toL_len (L := L) (p := p) (k := k) hk)
  have HT0 : Hid (∀ p, toL L p 0 = []) := hid (fun p => rfl)
  have HTO := hid (fun p (hp : p < n) => toL_orb hL hp)
  have HOL := hid (orsL_len n L)
  have HOY := hid (fun p t ht h => orsL_yes (n := n) (L := L) (p := p) (t := t) ht h)
  have HON := hid (fun p h => orsL_no (n := n) (L := L) (p := p) h)
  have HO0 : Hid (orsL n L 0 = []) := hid rfl
  have HOE := hid (fun p t (ht : t < (orsL n L p).length) => orsL_each n L p _ (getD_mem ht []))
  have HOBL := hid (orbL_len n L)
  have HSO := hid (fun (l : List Int) (B g c : Nat) (w : World) h hl => sortI_ok l B g c w h hl)
  have HCM := hid (fun (l : List Int) (B g c : Nat) (w : World) h hl => compactI_ok l B g c w h hl)
  have HCT := hid (fun (v : Value) (l : List Int) (x : Int) (w : World) hl => containsI_any v l x w hl)
  clear hv hL
  generalize orsL n L = OS at *
  generalize orbL n L = OB at *
  generalize toL L = TL at *
  obtain ⟨M, hM⟩ : ∃ M, L.length = M := ⟨_, rfl⟩
  rw [hM] at HV HLT HTS HTL HTO h1 hlen ⊢
  clear hM
  go_enter Try.func61, Try.ntmps61
  go_wp2_with fail
  go_step3
  go_wp2_with fail
  go_step3
  go_wp2_with fail
  go_loopg [5, 6, 8, 9, 11, 13] n (fun g v5 _ _ _ _ p wr => ∃ k : Nat, p = .int .i64 k ∧ k + g = n ∧ OL w.heap.size wr.heap.size wr v5 ((OS k).map intsL) ∧ Below w.heap.size w wr)
  case atStart => exact ⟨0, rfl, Nat.zero_add _, by rw [HO0.out]; exact OL.nil _ _ _, Below.refl _ _⟩
  case round =>
    obtain ⟨k, rfl, hkn, ho, hb⟩ := hrel
    generalize hgi : gk = gi at *
    obtain ⟨W0, hW0⟩ : ∃ W0, W0 = wr := ⟨_, rfl⟩
    subst hW0
    obtain ⟨oa, ocp, eo⟩ := ho.len
    rw [List.length_map] at eo
    subst eo
    obtain ⟨K, hK⟩ : ∃ K, (OS k).length = K := ⟨_, rfl⟩
    have hKk := HOL.out k
    have HOYk := hid (HOY.out k)
    have HONk := hid (HON.out k)
    rw [hK] at ho hKk HOYk HONk ⊢
    have HK := hid hK
    clear hK
    by_cases hlt : k < n
    · have hki : (k : Int) < (n : Int) := by omega
      have HI := hid (And.intro ho hb)
      have HTOk := hid (HTO.out k hlt)
      clear ho hb
      go_wp2_with fail
      go_loopg [8, 18] K (fun g2 _ i wq => ∃ t : Nat, i = .int .i64 t ∧ t + g2 = K ∧ Hid (∀ t', t' < t → ¬ ((k : Nat) : Int) ∈ intsL ((OS k).getD t' [])) ∧ wq = W0)
      case atStart => exact ⟨0, rfl, Nat.zero_add _, hid (fun t' h => by omega), rfl⟩
      case round =>
        obtain ⟨t, rfl, htK, HN, rfl⟩ := hrel
        generalize hgj : gk = gj at *
        by_cases htl : t < K
        · have hti : (t : Int) < (K : Int) := by omega
          obtain ⟨g1, c1, u1, e1, hcell, hu1⟩ := HI.out.1.at' (i := t) (by rw [List.length_map, HK.out]; exact htl)
          rw [List.length_map, HK.out] at e1
          obtain ⟨rfl, rfl⟩ : oa = some ⟨g1, 0, none⟩ ∧ ocp = c1 := by
            simp only [Value.slice.injEq] at e1
            exact ⟨e1.1, e1.2.2⟩
          have e2 : ((OS k).map intsL).getD t [] = intsL ((OS k).getD t []) := by
            have : t < (OS k).length := by rw [HK.out]; exact htl
            simp [this]
          rw [e2] at hu1
          have hul := HOE.out k t (by rw [HK.out]; exact htl)
          have hsl := hu1.sl (by rw [intsL_len]; omega)
          have HC := hid (HCT.out _ _ ((k : Nat) : Int) _ hsl)
          obtain ⟨ua, uc, eu⟩ := hsl.len
          rw [intsL_len] at eu
          subst eu
          clear hu1 hsl e1 e2
          by_cases hin : ((k : Nat) : Int) ∈ intsL ((OS k).getD t [])
          · have hos := HOYk.out t htl hin
            have HO := hid hos
            rw [decide_eq_true hin] at HC
            clear hos hin
            go_wp2_with fail
            refine HC.out.mono ?_
            rintro e w2 ⟨rfl, rfl⟩
            go_wp2
            go_roundg (gi - 1)
            case measure => omega
            case rel => exact ⟨k + 1, by go_num, by omega, by rw [HO.out]; exact HI.out.1, HI.out.2⟩
          · have HN2 : Hid (∀ t', t' < t + 1 → ¬ ((k : Nat) : Int) ∈ intsL ((OS k).getD t' [])) := hid (fun t' h => by
              by_cases e : t' = t
              · rw [e]; exact hin
              · exact HN.out t' (by omega))
            rw [decide_eq_false hin] at HC
            clear hin
            go_wp2_with fail
            refine HC.out.mono ?_
            rintro e w2 ⟨rfl, rfl⟩
            go_wp2
            go_roundg (gj - 1)
            case measure => omega
            case rel => exact ⟨t + 1, by go_num, by omega, HN2, rfl⟩
        · obtain rfl : t = K := by omega
          have hti : ¬ (t : Int) < (t : Int) := by omega
          have HO := hid (HONk.out HN.out)
          obtain ⟨W0, hW0⟩ : ∃ W0, W0 = wr := ⟨_, rfl⟩
          subst hW0
          clear hti
          have hti : ¬ (t : Int) < (t : Int) := by omega
          have HW0S := hid HI.out.2.size
          go_wp2_with fail
          go_loopw [9, 11, 28] (fun v9 _ j wr => ∃ i : Nat, j = .int .i64 i ∧ i ≤ M ∧ OI W0.heap.size wr v9 (TL k i) ∧ OL w.heap.size W0.heap.size wr (.slice oa t ocp) ((OS k).map intsL) ∧ Below w.heap.size w wr ∧ W0.heap.size ≤ wr.heap.size) (fun _ _ j _ => M - (intOf j).toNat)
          case atStart => exact ⟨0, rfl, Nat.zero_le _, by rw [HT0.out]; exact OI.nil _ _, HI.out.1, HI.out.2, Nat.le_refl _⟩
          case round =>
            clear HI
            obtain ⟨i, rfl, hi, hl, ho, hb, hW⟩ := hrel
            by_cases hil : i < M
            · have hii : (i : Int) < (M : Int) := by omega
              obtain ⟨x, hx⟩ : ∃ x, L.getD i id = x := ⟨_, rfl⟩
              have hrx := HV.out wr hb i hil
              have hxl := HLT.out i hil
              have hts := HTS.out k i hil
              have htl2 := HTL.out k i (by omega)
              rw [hx] at hrx hxl hts
              have ix : (Try.prog.info? 68).map (·.size) = some (mvC x).length := by rw [mvC_len]; exact mv_info
              have HAZ := hid (Arr.new wr 68 (mvC fun _ => 0))
              have HI := hid (And.intro hl (And.intro ho (And.intro hb hW)))
              have HTSi := hid hts
              have hlq : (TL k i).length ≤ 1000000000000 := by omega
              have hk7 : k < 7 := by omega
              clear hl ho hb hx hts htl2
              go_wp2_with (first
                | (refine wpList_load_mid rfl 68 _ rfl og (i * 7) rfl (mvC x) _ hrx Try.underlying68 rfl ix ?_; clear hrx)
                | (refine wpList_store_arr rfl 68 _ _ rfl wr.heap.size (mvC x) rfl rfl HAZ.out (by rw [mvC_len, mvC_len]) ix (mvC_one _) ?_
                   intro w5 hA5 hg5
                   have hB5 : Below wr.heap.size wr w5 := ((Below.refl _ _).alloc (Nat.le_refl _) _).grown hg5 (by simp) (fun b e => by cases e; exact Nat.le_refl _)
                   have hc5 := hA5.cell k
                   rw [mvC_get hk7] at hc5
                   have hs5 : W0.heap.size ≤ w5.heap.size := Nat.le_trans hW hB5.size
                   have H5 := hid (And.intro (HI.out.1.below hB5) (And.intro (HI.out.2.1.below hB5) (And.intro (HI.out.2.2.1.trans (hB5.mono HI.out.2.2.1.size)) hB5.size)))
                   clear hA5 hg5 hB5)
                | (at_builtin; refine wpList_appi w5 _ _ 23 rfl rfl Try.underlying23 Try.info3 W0.heap.size _ _ rfl H5.out.1 rfl hlq hs5 ?_; intro g9 c9 w9 hown1 hg1 hg2 hg3)
                | fail)
              have hlen1 : (TL k (i + 1)).length = (TL k i).length + 1 := by rw [HTSi.out]; simp
              go_roundw
              case rel => exact ⟨i + 1, by go_num, by omega, by rw [HTSi.out]; exact hown1, H5.out.2.1.kept hg1 (fun b e => .inr (H5.out.1.lt b e).1), H5.out.2.2.1.grown hg1 H5.out.2.2.1.size (fun b e => by have h1 := (H5.out.1.lt b e).1; have h2 := HW0S.out; omega), Nat.le_trans hs5 hg1.size⟩
              case measure => simp [intOf] <;> omega
            · obtain rfl : i = M := by omega
              have hii : ¬ (i : Int) < (i : Int) := by omega
              have htl2 := HTL.out k i (Nat.le_refl _)
              obtain ⟨g, c, e9, hg, hgw⟩ := hl.form (by omega)
              subst e9
              have hl2 : OI W0.heap.size wr (.slice (some ⟨g, 0, none⟩) (TL k i).length c) (TL k i) := hl
              have HSO1 := hid (HSO.out (TL k i) W0.heap.size g c wr hl2 (by omega))
              rw [htl2] at HSO1
              have HI := hid (And.intro hl (And.intro ho (And.intro hb hW)))
              have hle2 : ((TL k i).mergeSort fun x y => decide (x ≤ y)).length = i := by rw [List.length_mergeSort, htl2]
              have HLE := hid hle2
              have HTO2 := hid (HTOk.out)
              clear hl hl2 ho hb hle2
              go_wp2_with fail
              refine HSO1.out.mono ?_
              rintro e w2 ⟨rfl, hs2, hg2⟩
              have ho2 := HI.out.2.1.kept hg2 (fun b e => by cases e; exact .inr hg)
              have hb2 := HI.out.2.2.1.grown hg2 HI.out.2.2.1.size (fun b e => by cases e; have := HW0S.out; omega)
              have hw2 := Nat.le_trans hW hg2.size
              have hs3 : OI W0.heap.size w2 (.slice (some ⟨g, 0, none⟩) ((TL k i).mergeSort fun x y => decide (x ≤ y)).length c) ((TL k i).mergeSort fun x y => decide (x ≤ y)) := by rw [HLE.out]; exact hs2
              have HCM1 := hid (HCM.out _ W0.heap.size g c w2 hs3 (by rw [HLE.out]; omega))
              rw [HTO2.out, HLE.out] at HCM1
              have H2 := hid (And.intro ho2 (And.intro hb2 hw2))
              clear hs2 hg2 ho2 hb2 hs3 hw2 HSO1 HI
              go_wp2_with fail
              refine HCM1.out.mono ?_
              rintro e w3 ⟨rfl, hs4, hg4⟩
              have ho4 := H2.out.1.kept hg4 (fun b e => by cases e; exact .inr hg)
              have hb4 := H2.out.2.1.grown hg4 H2.out.2.1.size (fun b e => by cases e; have := HW0S.out; omega)
              have hw4 := Nat.le_trans H2.out.2.2 hg4.size
              have HQ := hid (And.intro hs4 hb4)
              obtain ⟨vs, o1, o2, o3, o4⟩ := ho4
              have hvs : vs.length ≤ 1000000000000 := by rw [o3, List.length_map, HK.out]; omega
              have hws : w.heap.size ≤ w3.heap.size := hb4.size
              have HO2 := hid (fun k h => Nat.lt_of_lt_of_le (o2 k h) hw4)
              have HO3 := hid o3
              have HO4 := hid (fun i hi => And.intro (o4 i hi).1 (fun k h => Nat.lt_of_lt_of_le ((o4 i hi).2 k h) hw4))
              have HOB := hid (HOBL.out k)
              clear hs4 hg4 hb4 o2 o3 o4 HCM1 H2
              go_wp2_with (at_builtin; refine wpList_app w3 _ _ 22 23 (.slice none 0 0) 24 rfl rfl Try.underlying22 Try.info23 rfl (by decide) w.heap.size _ vs rfl o1 rfl rfl hvs hws ?_; intro g9 c9 w9 hown1 hg1 hg2 hg3)
              go_roundg (gi - 1)
              case measure => omega
              case rel =>
                have hol2 := OL.snoc o1 HO2.out HO3.out HO4.out HQ.out.1 HW0S.out hown1 hg1
                exact ⟨k + 1, by go_num, by omega, by rw [HO.out, List.map_append]; exact hol2, HQ.out.2.grown hg1 HQ.out.2.size (fun b e => by have := (o1.lt b e).1; omega)⟩
    · obtain rfl : k = n := by omega
      have hki : ¬ (k : Int) < (k : Int) := by omega
      have HI := hid (And.intro ho hb)
      clear ho hb
      go_wp2
      try rw [Exit.noGoto_ret]
      go_ret
      exact ⟨⟨_, rfl, HI.out.1⟩, HI.out.2⟩
end Go.Proofs.Ytnbgnoimanpjnaa
