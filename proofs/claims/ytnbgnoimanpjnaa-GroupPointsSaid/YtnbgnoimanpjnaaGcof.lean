/-
  The walk over parterreref1.CentreOf. Conditions: the lists can be read, permutations of n points, n <= 7.
-/
import Derived.Test.YtnbgnoimanpjnaaGcen
import Derived.Test.YtnbgnoimanpjnaaGlist
import Derived.Test.YtnbgnoimanpjnaaGcom
namespace Go.Proofs.Ytnbgnoimanpjnaa
set_option linter.unusedVariables false
open Go.RowKit

theorem PmL.el {n : Nat} {l : List Int} (h : PmL l n (fL l)) : l = elL n (mvF n (fL l)) := by
  refine List.ext_getElem? fun c => ?_
  by_cases hc : c < n
  · have h1 := h.at' c hc
    have hl : c < l.length := by rw [h.len]; exact hc
    rw [List.getElem?_eq_getElem hl] at h1 ⊢
    rw [Option.getD_some] at h1
    simp [elL, hc, mvF, h1]
  · rw [List.getElem?_eq_none (by rw [h.len]; omega), List.getElem?_eq_none (by rw [elL_len]; omega)]
theorem elL_inj {n : Nat} {x y : Nat → Nat} (P : Mv n x) (Q : Mv n y) (h : elL n x = elL n y) : x = y := by
  funext i
  by_cases hi : i < n
  · have := congrArg (fun l => l[i]?.getD 0) h
    simp only [elL_get hi] at this
    omega
  · rw [P.st i (by omega), Q.st i (by omega)]
theorem ll_el {n : Nat} {ll : List (List Int)} (h : ∀ l ∈ ll, PmL l n (fL l)) : ll = (msL n ll).map (elL n) := by
  unfold msL
  rw [List.map_map]
  have : ll = ll.map id := by simp
  conv => lhs; rw [this]
  refine List.map_congr_left fun l hl => ?_
  exact (h l hl).el
theorem thenL_el {n : Nat} {x y : Nat → Nat} (P : Mv n x) (Q : Mv n y) : thenL (elL n x) (elL n y) = elL n (compF x y) := by
  unfold thenL
  conv => rhs; unfold elL
  unfold elL
  rw [List.map_map]
  refine List.map_congr_left fun i hi => ?_
  have hi' := P.pm.lt i (List.mem_range.1 hi)
  simp [compF, hi']
theorem then_el (n : Nat) (v u : Value) (x y : Nat → Nat) (w : World) (hn : n ≤ 7) (hv : Sl w v (elL n x)) (hu : Sl w u (elL n y)) (P : Mv n x) (Q : Mv n y) :
    Calls Try.prog 25 #[v, u] w fun e w' => (∃ a c, e = .returned (.slice a n c) ∧ OI w.heap.size w' (.slice a n c) (elL n (compF x y))) ∧ Below w.heap.size w w' := by
  have h := then_ok v u (elL n x) (elL n y) w hv hu (by
    intro t ht
    simp only [elL, List.mem_map, List.mem_range] at ht
    obtain ⟨i, hi, rfl⟩ := ht
    have := P.pm.lt i hi
    rw [elL_len]
    omega) (by rw [elL_len]; omega)
  rw [thenL_el P Q] at h
  refine h.mono ?_
  rintro e w' ⟨⟨r, rfl, hr⟩, hb⟩
  obtain ⟨a, c, e⟩ := hr.len
  rw [elL_len] at e
  subst e
  exact ⟨⟨a, c, rfl, hr⟩, hb⟩
/-- One of a list of moves. -/
theorem RL.mvAt {n : Nat} {w : World} {v : Value} {L : List (Nat → Nat)} (h : RL w v (L.map (elL n))) {i : Nat} (hi : i < L.length) : ∃ g off c a c', v = .slice (some ⟨g, off, none⟩) L.length c ∧ g < w.heap.size ∧ w.cell? ⟨g, off + i, none⟩ = some (.slice a n c') ∧ Sl w (.slice a n c') (elL n (L.getD i id)) := by
  obtain ⟨a, c, rfl, _, h2⟩ := h
  rw [List.length_map] at h2 ⊢
  obtain ⟨g, off, rfl, hg, hc⟩ := h2 (by omega)
  obtain ⟨u, h3, h4⟩ := hc i hi
  have e : (L.map (elL n)).getD i [] = elL n (L.getD i id) := by simp [hi]
  rw [e] at h4
  obtain ⟨ua, uc, eu⟩ := h4.len
  rw [elL_len] at eu
  subst eu
  exact ⟨g, off, c, ua, uc, rfl, hg, h3, h4⟩

set_option maxHeartbeats 4000000 in
set_option maxRecDepth 100000 in
theorem centreof_ok (n : Nat) (v u : Value) (ms L : List (Nat → Nat)) (w : World) (hn : n ≤ 7) (hv : RL w v (ms.map (elL n))) (hu : RL w u (L.map (elL n))) (hm : ∀ m ∈ ms, Mv n m) (hL : ∀ x ∈ L, Mv n x) (hlen : L.length ≤ 1000000) :
    Calls Try.prog 29 #[v, u] w fun e w' => e = .returned (.int .i64 ((L.filter (cenB ms)).length : Nat)) ∧ Below w.heap.size w w' := by
  have HV := hid (fun w1 (hb : Below w.heap.size w w1) i (hi : i < ms.length) => (hv.below hb).mvAt hi)
  have HU := hid (fun w1 (hb : Below w.heap.size w w1) i (hi : i < L.length) => (hu.below hb).mvAt hi)
  have HTH := hid (fun (v u : Value) (x y : Nat → Nat) (w : World) hv hu P Q => then_el n v u x y w hn hv hu P Q)
  have HIN := hid (fun (v u : Value) (l m : List Int) (w : World) hl hm => ints_any v u l m w hl hm)
  have HPM := hid (fun j (hj : j < ms.length) => hm _ (getD_mem hj id))
  have HPL := hid (fun j (hj : j < L.length) => hL _ (getD_mem hj id))
  have HEI := hid (fun (x y : Nat → Nat) (P : Mv n x) (Q : Mv n y) => (⟨fun h => elL_inj P Q h, fun h => by rw [h]⟩ : elL n x = elL n y ↔ x = y))
  have HELL := hid (elL_len n)
  rw [← cenN_all]
  have HC0 := hid (cenN_zero ms L)
  have HCS := hid (fun k (h : k < L.length) => cenN_succ ms L h)
  have HCL := hid (cenN_le ms L)
  have HCB : Hid (∀ x, Mv n x → (cenB ms x = true ↔ ∀ j, j < ms.length → compF x (ms.getD j id) = compF (ms.getD j id) x)) := hid (fun x P => by
    unfold cenB
    rw [List.all_eq_true]
    constructor
    · intro h j hj
      have hmm := getD_mem hj id
      exact mvI_inj hn (comp_mv P (hm _ hmm)) (comp_mv (hm _ hmm) P) (of_decide_eq_true (h _ hmm))
    · intro h m hmm
      obtain ⟨j, hj, rfl⟩ := List.mem_iff_getElem.1 hmm
      have := h j hj
      rw [List.getD_eq_getElem?_getD, List.getElem?_eq_getElem hj, Option.getD_some] at this
      rw [this]
      simp)
  obtain ⟨va, vc, rfl, hv1, _⟩ := hv
  obtain ⟨ua, uc, rfl, hu1, _⟩ := hu
  rw [List.length_map] at hv1 hu1 ⊢
  rw [List.length_map]
  clear hm hL
  generalize cenN ms L = CN at *
  generalize cenB ms = CB at *
  obtain ⟨M, hM⟩ : ∃ M, L.length = M := ⟨_, rfl⟩
  have HM := hid hM
  rw [hM] at HU HPL HCS hlen hu1 ⊢
  clear hM
  obtain ⟨K, hK⟩ : ∃ K, ms.length = K := ⟨_, rfl⟩
  have HK := hid hK
  rw [hK] at HV HPM HCB hv1 ⊢
  clear hK
  go_enter Try.func29, Try.ntmps29
  go_wp2_with fail
  go_loopw [5, 6, 7, 8, 9, 10, 11] (fun v5 v6 _ _ _ _ _ wr => ∃ i : Nat, v6 = .int .i64 i ∧ i ≤ M ∧ v5 = .int .i64 (CN i : Nat) ∧ Below w.heap.size w wr) (fun _ v6 _ _ _ _ _ _ => M - (intOf v6).toNat)
  case atStart => exact ⟨0, rfl, Nat.zero_le _, by rw [HC0.out]; rfl, Below.refl _ _⟩
  case round =>
    obtain ⟨i, rfl, hi, rfl, hb⟩ := hrel
    by_cases hlt : i < M
    · have hii : (i : Int) < (M : Int) := by omega
      obtain ⟨x, hx⟩ : ∃ x, L.getD i id = x := ⟨_, rfl⟩
      have hPx := HPL.out i hlt
      rw [hx] at hPx
      have hcl := HCL.out i
      have HCSi := hid (HCS.out i hlt)
      rw [hx] at HCSi
      have HXE := hid hx
      have HB := hid hb
      clear hb hx
      go_wp2_with fail
      go_loopw [7, 8, 9, 10, 11] (fun v7 v8 _ _ _ wr => ∃ (j : Nat) (ob : Bool), v8 = .int .i64 j ∧ j ≤ K ∧ v7 = .bool ob ∧ Hid (ob = true ↔ ∀ t, t < j → compF x (ms.getD t id) = compF (ms.getD t id) x) ∧ Below w.heap.size w wr) (fun _ v8 _ _ _ _ => K - (intOf v8).toNat)
      case atStart => exact ⟨0, true, rfl, Nat.zero_le _, rfl, hid ⟨fun _ t h => by omega, fun _ => rfl⟩, HB.out⟩
      case round =>
        clear HB
        obtain ⟨j, ob, rfl, hj, rfl, HOB, hb⟩ := hrel
        by_cases hjl : j < K
        · have hji : (j : Int) < (K : Int) := by omega
          obtain ⟨g1, o1, c1, a1, d1, e1, hg1, hc1, hs1⟩ := HV.out wr hb j (by omega)
          obtain ⟨g2, o2, c2, a2, d2, e2, hg2, hc2, hs2⟩ := HU.out wr hb i (by omega)
          simp only [Value.slice.injEq] at e1 e2
          obtain ⟨rfl, rfl⟩ : va = some ⟨g1, o1, none⟩ ∧ vc = c1 := ⟨e1.1, e1.2.2⟩
          obtain ⟨rfl, rfl⟩ : ua = some ⟨g2, o2, none⟩ ∧ uc = c2 := ⟨e2.1, e2.2.2⟩
          obtain ⟨m, hm⟩ : ∃ m, ms.getD j id = m := ⟨_, rfl⟩
          have hPm := HPM.out j (by omega)
          rw [hm] at hs1 hPm
          rw [HXE.out] at hs2
          have HME := hid hm
          have HS := hid (And.intro hs1 (And.intro hs2 hb))
          clear hs1 hs2 hb hm e1 e2
          go_wp2_with fail
          go_still_tail 8, (by kernel_rfl)
          go_wp2_with fail
          refine (HTH.out _ _ x m _ HS.out.2.1.drew HS.out.1.drew hPx hPm).mono ?_
          rintro e w2 ⟨⟨a3, d3, rfl, hr3⟩, hb2⟩
          have hb2 : Below wr.heap.size wr w2 := ((Below.refl _ _).drew).trans hb2
          have hc1' := (hb2.cell (p := ⟨g1, o1 + j, none⟩) hg1).trans hc1
          have hc2' := (hb2.cell (p := ⟨g2, o2 + i, none⟩) hg2).trans hc2
          have HS2 := hid (And.intro (HS.out.1.below hb2) (And.intro (HS.out.2.1.below hb2) (And.intro (HS.out.2.2.trans (hb2.mono HS.out.2.2.size)) (hr3.sl (by rw [HELL.out]; omega)))))
          clear hb2 hr3 HS hc1 hc2
          go_wp2_with fail
          go_still_tail 8, (by kernel_rfl)
          go_wp2_with fail
          refine (HTH.out _ _ m x _ HS2.out.1.drew HS2.out.2.1.drew hPm hPx).mono ?_
          rintro e w3 ⟨⟨a4, d4, rfl, hr4⟩, hb3⟩
          have hb3 : Below w2.heap.size w2 w3 := ((Below.refl _ _).drew).trans hb3
          have HS3 := hid (And.intro (HS2.out.2.2.1.trans (hb3.mono HS2.out.2.2.1.size)) (And.intro (HS2.out.2.2.2.below hb3) (hr4.sl (by rw [HELL.out]; omega))))
          clear hb3 hr4 HS2 hc1' hc2'
          have HI2 := hid (HIN.out _ _ _ _ w3 HS3.out.2.1 HS3.out.2.2)
          have hiff := HEI.out _ _ (comp_mv hPx hPm) (comp_mv hPm hPx)
          go_wp2_with fail
          refine HI2.out.mono ?_
          rintro e w4 ⟨rfl, q4, rfl⟩
          have HB4 := hid (below_drewN HS3.out.1 q4)
          cases ob with
          | false =>
            have HOB2 : Hid (false = true ↔ ∀ t, t < j + 1 → compF x (ms.getD t id) = compF (ms.getD t id) x) := hid ⟨fun h => (by cases h), fun h => HOB.out.2 fun t ht => h t (by omega)⟩
            clear hiff
            go_wp2
            go_roundw
            case rel => exact ⟨j + 1, false, by go_num, by omega, rfl, HOB2, HB4.out⟩
            case measure => simp [intOf] <;> omega
          | true =>
            by_cases he : compF x m = compF m x
            · rw [decide_eq_true (hiff.2 he)]
              have HOB2 : Hid (true = true ↔ ∀ t, t < j + 1 → compF x (ms.getD t id) = compF (ms.getD t id) x) := hid ⟨fun _ t ht => by
                by_cases e : t = j
                · rw [e, HME.out]; exact he
                · exact HOB.out.1 rfl t (by omega), fun _ => rfl⟩
              clear hiff he
              go_wp2
              go_roundw
              case rel => exact ⟨j + 1, true, by go_num, by omega, rfl, hid ⟨fun _ => HOB2.out.1 trivial, fun _ => rfl⟩, HB4.out⟩
              case measure => simp [intOf] <;> omega
            · rw [decide_eq_false (fun h => he (hiff.1 h))]
              have HOB2 : Hid (false = true ↔ ∀ t, t < j + 1 → compF x (ms.getD t id) = compF (ms.getD t id) x) := hid ⟨fun h => (by cases h), fun h => absurd (by have := h j (by omega); rwa [HME.out] at this) he⟩
              clear hiff he
              go_wp2
              go_roundw
              case rel => exact ⟨j + 1, false, by go_num, by omega, rfl, HOB2, HB4.out⟩
              case measure => simp [intOf] <;> omega
        · obtain rfl : j = K := by omega
          have hji : ¬ (j : Int) < (j : Int) := by omega
          have hcb := HCB.out x hPx
          have HB := hid hb
          clear hb
          cases ob with
          | true =>
            have HCk : Hid (CN (i + 1) = CN i + 1) := hid (by rw [HCSi.out, hcb.2 (HOB.out.1 rfl), if_pos rfl])
            clear hcb
            go_wp2
            go_roundw
            case rel => exact ⟨i + 1, by go_num, by omega, by rw [HCk.out]; go_num, HB.out⟩
            case measure => simp [intOf] <;> omega
          | false =>
            have HCk : Hid (CN (i + 1) = CN i) := hid (by
              rw [HCSi.out, if_neg, Nat.add_zero]
              intro h
              have := HOB.out.2 (hcb.1 h)
              cases this)
            clear hcb
            go_wp2
            go_roundw
            case rel => exact ⟨i + 1, by go_num, by omega, by rw [HCk.out], HB.out⟩
            case measure => simp [intOf] <;> omega
    · obtain rfl : i = M := by omega
      have hii : ¬ (i : Int) < (i : Int) := by omega
      have HB := hid hb
      clear hb
      go_wp2
      go_ret
      exact ⟨rfl, HB.out⟩
end Go.Proofs.Ytnbgnoimanpjnaa
