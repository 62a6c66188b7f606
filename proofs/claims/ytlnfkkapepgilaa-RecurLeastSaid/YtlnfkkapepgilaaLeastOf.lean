/-
  The walk over parterreref1.LeastOf. Conditions: the slice can be read; a row below a small prime, of 60 numbers at most; what is told of its least recurrence.
-/
import Derived.Test.YtlnfkkapepgilaaSolved
import Derived.Test.YtlnfkkapepgilaaLeast2
namespace Go.Proofs.Ytlnfkkapepgilaa
set_option linter.unusedVariables false
open Go.RowKit

section
variable {B U : Nat} {w w1 : World} {v v' : Value} {R n : Nat} {g cp : Nat → Nat} {M : Nat → Nat → Int}
theorem MatP.mono {U' : Nat} (h : MatP B U w v R n M) (hU : U ≤ U') : MatP B U' w v R n M := by
  obtain ⟨g, cp, h⟩ := h
  exact ⟨g, cp, h.inj, fun i hi => Nat.lt_of_lt_of_le (h.gu i hi) hU, fun k hk => Nat.lt_of_lt_of_le (h.vu k hk) hU, h.out, h.row⟩
theorem MatP.nil (B U : Nat) (w : World) (n : Nat) (M : Nat → Nat → Int) : MatP B U w (.slice none 0 0) 0 n M := ⟨fun _ => 0, fun _ => 0, fun i h => by omega, fun i h => by omega, fun k h => by simp [Value.ownBlock] at h, Ow.nil _ _ _, fun i h => by omega⟩
theorem MatG.snoc {gr cr : Nat} (h : MatG B U w v R n g cp M) (hBU : B ≤ U) (hr : OI U w (.slice (some ⟨gr, 0, none⟩) (n + 1) cr) (rowV M n R)) (ho : Ow 30 B w1 v' (outV R n g cp ++ [.slice (some ⟨gr, 0, none⟩) (n + 1) cr])) (hg : w.grownBy w1 v.ownBlock) : MatP B w1.heap.size w1 v' (R + 1) n M := by
  have hgr := hr.lt gr rfl
  have hs := hg.size
  have eq : outV R n g cp ++ [.slice (some ⟨gr, 0, none⟩) (n + 1) cr] = outV (R + 1) n (fun i => if i = R then gr else g i) (fun i => if i = R then cr else cp i) := by
    unfold outV
    rw [List.range_succ, List.map_append]
    congr 1
    · refine List.map_congr_left fun k hk => ?_
      have := List.mem_range.1 hk
      simp [rowS, show ¬ k = R by omega]
    · simp [rowS]
  rw [eq] at ho
  have hrow : ∀ i, i < R + 1 → OI B w1 (.slice (some ⟨if i = R then gr else g i, 0, none⟩) (n + 1) (if i = R then cr else cp i)) (rowV M n i) := fun i hi => by
    by_cases e : i = R
    · subst e
      rw [if_pos rfl, if_pos rfl]
      exact (hr.kept hg (ow_apart h.out hr)).mono hBU
    · rw [if_neg e, if_neg e]
      exact (h.row i (by omega)).kept hg (ow_apart h.out (h.row i (by omega)))
  refine ⟨_, _, fun i hi j hj e => ?_, fun i hi => ((hrow i hi).lt _ rfl).2, fun k hk => (ho.lt k hk).2, ho, hrow⟩
  have e' : (if i = R then gr else g i) = (if j = R then gr else g j) := e
  by_cases e1 : i = R <;> by_cases e2 : j = R
  · omega
  · rw [if_pos e1, if_neg e2] at e'
    have := h.gu j (by omega)
    omega
  · rw [if_neg e1, if_pos e2] at e'
    have := h.gu i (by omega)
    omega
  · rw [if_neg e1, if_neg e2] at e'
    exact h.inj i (by omega) j (by omega) e'
end
theorem eqM_row (s : Nat → Int) (l i : Nat) : (List.range l).map (eqM s l i) ++ [s (l + i)] = rowV (eqM s l) l i := by
  unfold rowV
  rw [List.range_succ, List.map_append]
  simp [eqM]

set_option maxHeartbeats 4000000 in
set_option maxRecDepth 100000 in
theorem LeastOf_ok (P : Nat) (v : Value) (seen : List Int) (w : World) (hv : Sl w v seen) (hp : smallB (P : Int) = true) (hlen : seen.length ≤ 60) (hf : fitB (P : Int) seen = true) (C B : Nat → Int) (L g : Nat) (b : Int) (H : BM P (gD seen) seen.length C B L g b) :
    Calls Try.prog 20 #[.int .i64 P, v] w fun e w' => (∃ u, e = .returned (.tuple #[.int .i64 L, u, .int .i64 0]) ∧ OI w.heap.size w' u (lsT P C L seen.length)) ∧ Below w.heap.size w w' := by
  have hsm := small_cases hp
  have HSM := hid (small_any P w)
  rw [hp] at HSM
  have HBE := hid (below_any P v seen w hv)
  rw [hf] at HBE
  have HIN := hid (gD_in (l := seen) (p := (P : Int)) (by omega) (fit_mem hf))
  have HSP := hid hp
  obtain ⟨sv, sc, N, rfl, hN, hl1, hl2⟩ := hv.open
  have HN := hid hN.out
  have hN60 : N ≤ 60 := by rw [← hN.out]; exact hlen
  have HSC : Hid (N = 0 ∨ ∃ bs os, sv = some ⟨bs, os, none⟩ ∧ bs < w.heap.size ∧ ∀ i, i < N → w.cell? ⟨bs, os + i, none⟩ = some (.int .i64 (gD seen i))) := hid (by
    rcases Nat.eq_zero_or_pos N with h0 | h0
    · exact .inl h0
    · obtain ⟨bs, os, e1, e2, e3⟩ := hl2 h0
      refine .inr ⟨bs, os, e1, e2, fun i hi => ?_⟩
      rw [e3 i hi]
      unfold gD
      rw [List.getD_eq_getElem?_getD])
  rw [HN.out] at H ⊢
  obtain ⟨s, hs⟩ : ∃ s, gD seen = s := ⟨_, rfl⟩
  rw [hs] at HIN HSC H
  have HBM := hid H
  have hLN := H.ln
  clear hl2 hv hf hlen hN hs hsm hp H
  go_enter Try.func20, Try.ntmps20
  go_wp2_with fail
  refine HSM.out.mono ?_
  rintro e w0 ⟨rfl, rfl⟩
  have hni : ¬ (60 : Int) < (N : Int) := by omega
  go_wp2_with fail
  refine HBE.out.mono ?_
  rintro e w1 ⟨rfl, m1, rfl⟩
  have B1 := hid (below_drewN (Below.refl w.heap.size w) m1)
  clear HSM HBE
  go_wp2_with fail
  go_loopw [8, 9, 10, 11, 12, 13, 14] (fun v8 _ _ _ _ _ _ wq => ∃ l : Nat, v8 = .int .i64 l ∧ l ≤ L ∧ Below w.heap.size w wq) (fun v8 _ _ _ _ _ _ _ => L - (intOf v8).toNat)
  case atStart => exact ⟨0, rfl, Nat.zero_le _, B1.out⟩
  case round =>
    clear B1
    obtain ⟨l, rfl, hlL, hB⟩ := hrel
    have hli : (l : Int) ≤ (N : Int) := by omega
    have HX := hid hB
    clear hB
    go_wp2_with fail
    go_loopw [9, 10, 11, 12] (fun v9 v10 _ _ wq => ∃ i k : Nat, Hid (k = l + i) ∧ l ≤ k ∧ v10 = .int .i64 k ∧ k ≤ N ∧ MatP w.heap.size wq.heap.size wq v9 i l (eqM s l) ∧ Below w.heap.size w wq) (fun _ v10 _ _ _ => N - (intOf v10).toNat)
    case atStart => exact ⟨0, l, hid rfl, Nat.le_refl _, rfl, by omega, MatP.nil _ _ _ _ _, HX.out⟩
    case round =>
      clear HX
      obtain ⟨i, k, hk, hlk, rfl, hkN, hM, hB⟩ := hrel
      by_cases hkl : k < N
      · have hki : (k : Int) < (N : Int) := by omega
        obtain ⟨bs, os, rfl, hbs, hcs⟩ : ∃ bs os, sv = some ⟨bs, os, none⟩ ∧ bs < w.heap.size ∧ ∀ i, i < N → w.cell? ⟨bs, os + i, none⟩ = some (.int .i64 (s i)) := by
          rcases HSC.out with h | h
          · omega
          · exact h
        have HCS := hid hcs
        have hU := hB.size
        have HX := hid (And.intro hM hB)
        clear hcs hM hB
        obtain ⟨U, hUe⟩ : ∃ U, wr.heap.size = U := ⟨_, rfl⟩
        rw [hUe] at HX hU
        have HUE := hid hUe
        clear hUe
        go_wp2_with fail
        go_loopw [11, 12] (fun v11 v12 wq => ∃ j : Nat, v12 = .int .i64 j ∧ j ≤ l ∧ U ≤ wq.heap.size ∧ OI U wq v11 ((List.range j).map (eqM s l i)) ∧ MatP w.heap.size U wq u9 i l (eqM s l) ∧ Below w.heap.size w wq) (fun _ v12 _ => l - (intOf v12).toNat)
        case atStart => exact ⟨0, rfl, Nat.zero_le _, Nat.le_of_eq HUE.out.symm, OI.nil _ _, HX.out.1, HX.out.2⟩
        case round =>
          clear HX HUE
          obtain ⟨j, rfl, hjl, hUs, ho, hM, hB⟩ := hrel
          by_cases hjl2 : j < l
          · have hji : (j : Int) < (l : Int) := by omega
            have hsub : (k : Int) - 1 - (j : Int) = ((k - 1 - j : Nat) : Int) := by omega
            have hcd := (hB.cell (p := ⟨bs, os + (k - 1 - j), none⟩) hbs).trans (HCS.out (k - 1 - j) (by omega))
            have hlt : k - 1 - j < N := by omega
            have HE : Hid ((List.range (j + 1)).map (eqM s l i) = (List.range j).map (eqM s l i) ++ [s (k - 1 - j)]) := hid (by
              rw [List.range_succ, List.map_append]
              simp only [List.map_cons, List.map_nil, eqM]
              rw [if_pos hjl2, hk.out])
            have hlen : ((List.range j).map (eqM s l i)).length ≤ 1000000000000 := by rw [List.length_map, List.length_range]; omega
            have HX := hid (And.intro ho (And.intro hM hB))
            clear ho hM hB
            generalize k - 1 - j = kk at *
            generalize s kk = x at *
            go_wp2_with (at_builtin; refine wpList_appi wr _ _ 30 rfl rfl Try.underlying30 Try.info3 U _ _ rfl HX.out.1 rfl hlen hUs ?_; intro g7 c7 w4 hown1 hg1 hg2 hg3)
            have hM4 := HX.out.2.1.kept hg1 (fun k hk => (HX.out.1.lt k hk).1)
            have hb4 := HX.out.2.2.grown hg1 (by omega) (fun k hk => Nat.le_trans hU (HX.out.1.lt k hk).1)
            rw [List.length_map, List.length_range] at hown1
            have hs4 := Nat.le_trans hUs hg1.size
            have HY := hid (And.intro hs4 (And.intro (hown1.cast HE.out.symm) (And.intro hM4 hb4)))
            clear hown1 hg1 hg2 hg3 hM4 hb4 HX hs4
            go_roundw
            case rel => exact ⟨j + 1, by go_num, by omega, HY.out.1, HY.out.2.1, HY.out.2.2.1, HY.out.2.2.2⟩
            case measure => simp [intOf] <;> omega
          · obtain rfl : j = l := by omega
            have hji : ¬ (j : Int) < (j : Int) := by omega
            have hcd := (hB.cell (p := ⟨bs, os + k, none⟩) hbs).trans (HCS.out k hkl)
            have HE : Hid ((List.range j).map (eqM s j i) ++ [s k] = rowV (eqM s j) j i) := hid (by rw [hk.out]; exact eqM_row s j i)
            have hlen : ((List.range j).map (eqM s j i)).length ≤ 1000000000000 := by rw [List.length_map, List.length_range]; omega
            have HX := hid (And.intro ho (And.intro hM hB))
            clear ho hM hB
            generalize s k = x at *
            go_wp2_with (at_builtin; first
              | (refine wpList_appi wr _ _ 30 rfl rfl Try.underlying30 Try.info3 U _ _ rfl HX.out.1 rfl hlen hUs ?_
                 intro g7 c7 w4 hown1 hg1 hg2 hg3
                 have hM4 := HX.out.2.1.kept hg1 (fun k hk => (HX.out.1.lt k hk).1)
                 have hb4 := HX.out.2.2.grown hg1 (by omega) (fun k hk => Nat.le_trans hU (HX.out.1.lt k hk).1)
                 rw [List.length_map, List.length_range] at hown1
                 rw [List.length_map, List.length_range]
                 have hr := hown1.cast HE.out
                 obtain ⟨gg, cp, hG⟩ := hM4
                 have o1 := hG.out
                 have hvs : (outV i j gg cp).length ≤ 1000000000000 := by rw [outV_len]; have := hk.out; omega
                 have hsz : w.heap.size ≤ w4.heap.size := by have := hg1.size; omega
                 have HY := hid (And.intro hr (And.intro hG hb4))
                 clear hown1 hg1 hg2 hg3 hG hb4 HX hr)
              | (refine wpList_app w4 _ _ 54 30 (.slice none 0 0) 24 rfl rfl Try.underlying54 Try.info30 rfl (by decide) w.heap.size _ (outV i j gg cp) rfl o1 rfl rfl hvs hsz ?_; intro g3 c3 w5 hown2 hg4 hg5 hg6))
            have hM5 := HY.out.2.1.snoc hU HY.out.1 hown2 hg4
            have hb5 := HY.out.2.2.grown hg4 hsz (fun k hk => (o1.lt k hk).1)
            have HZ := hid (And.intro hM5 hb5)
            clear hown2 hg4 hg5 hg6 hM5 hb5 HY
            go_roundw
            case rel => exact ⟨i + 1, k + 1, hid (by have := hk.out; omega), by omega, by go_num, by omega, HZ.out.1, HZ.out.2⟩
            case measure => simp [intOf] <;> omega
      · obtain rfl : k = N := by omega
        have hki : ¬ (k : Int) < (k : Int) := by omega
        have hU := hB.size
        have HSO := hid (solved_any P i l w.heap.size u9 (eqM s l) wr hM HSP.out (by have := hk.out; omega) (by omega) (fun x _ y _ => by
          unfold eqM
          split <;> exact HIN.out _) hU)
        have HX := hid hB
        clear hB hM
        go_wp2_with fail
        refine HSO.out.mono ?_
        rintro e w2 ⟨⟨t, val, u, rfl, hres, hu⟩, hb2⟩
        have HY := hid (And.intro (hu.mono hU) (HX.out.trans hb2))
        rw [show i = k - l by have := hk.out; omega] at hres
        clear HX HSO hb2 hu
        by_cases hlt : l < L
        · obtain rfl := least_below HBM.out hlt hres
          clear hres
          go_wp2
          go_roundw
          case rel => exact ⟨l + 1, by go_num, by omega, HY.out.2⟩
          case measure => simp [intOf] <;> omega
        · obtain rfl : l = L := by omega
          have ht := least_at HSP.out HBM.out hres
          have hcs : t = 2 ∨ t = 1 := by
            rcases hres with h | h | h
            · exact absurd h.1 ht.1
            · exact .inl h.1
            · exact .inr h.1
          have HT := hid ht.2
          clear ht hres
          by_cases h0 : l = 0
          · subst h0
            have HE : Hid (lsT (P : Int) C 0 k = []) := hid (if_pos (.inl rfl))
            rcases hcs with rfl | rfl
            all_goals
              go_wp2
              go_ret3
              exact ⟨⟨_, rfl, by rw [HE.out]; exact OI.nil _ _⟩, HY.out.2⟩
          · have h0i : ((l : Int) == 0) = false := by rw [beq_eq_false_iff_ne]; omega
            rcases hcs with rfl | rfl
            · rw [if_pos (.inr rfl)] at HT
              go_wp2
              go_ret3
              exact ⟨⟨_, rfl, by rw [← HT.out]; exact OI.nil _ _⟩, HY.out.2⟩
            · rw [if_neg (by omega)] at HT
              go_wp2
              go_ret3
              exact ⟨⟨_, rfl, HY.out.1.cast HT.out⟩, HY.out.2⟩

/-- What is wrong with it. -/
def leastE (p : Int) (seen : List Int) : Int := if smallB p = false then 1 else if 60 < seen.length then 3 else if fitB p seen = false then 1 else 0
theorem LeastOf_bad (p : Int) (v : Value) (seen : List Int) (w : World) (hv : Sl w v seen) (h : leastE p seen ≠ 0) :
    Calls Try.prog 20 #[.int .i64 p, v] w fun e w' => e = .returned (.tuple #[.int .i64 0, .slice none 0 0, .int .i64 (leastE p seen)]) ∧ Below w.heap.size w w' := by
  have HSM := hid (small_any p w)
  have HBE := hid (below_any p v seen w hv)
  obtain ⟨sv, sc, N, rfl, hN, hl1, hl2⟩ := hv.open
  have HE := hid (show leastE p seen = if smallB p = false then 1 else if 60 < N then 3 else if fitB p seen = false then 1 else 0 by rw [← hN.out]; rfl)
  clear hl2 hv
  generalize leastE p seen = z at *
  generalize smallB p = s at *
  generalize fitB p seen = f at *
  cases s with
  | false =>
    obtain rfl := HE.out
    go_enter Try.func20, Try.ntmps20
    go_wp2_with fail
    refine HSM.out.mono ?_
    rintro e w0 ⟨rfl, rfl⟩
    go_wp2
    go_ret3
    exact ⟨rfl, Below.refl _ _⟩
  | true =>
    by_cases h8 : 60 < N
    · have h8i : (60 : Int) < (N : Int) := by omega
      obtain rfl : z = 3 := by rw [HE.out]; simp [h8]
      go_enter Try.func20, Try.ntmps20
      go_wp2_with fail
      refine HSM.out.mono ?_
      rintro e w0 ⟨rfl, rfl⟩
      go_wp2
      go_ret3
      exact ⟨rfl, Below.refl _ _⟩
    · have h8i : ¬ (60 : Int) < (N : Int) := by omega
      cases f with
      | true => exact absurd (by rw [HE.out]; simp [h8]) h
      | false =>
        obtain rfl : z = 1 := by rw [HE.out]; simp [h8]
        go_enter Try.func20, Try.ntmps20
        go_wp2_with fail
        refine HSM.out.mono ?_
        rintro e w0 ⟨rfl, rfl⟩
        go_wp2_with fail
        refine HBE.out.mono ?_
        rintro e w1 ⟨rfl, m1, rfl⟩
        go_wp2
        go_ret3
        exact ⟨rfl, below_drewN (Below.refl _ _) m1⟩
theorem Least_bad (p : Int) (v : Value) (seen : List Int) (w : World) (hv : Sl w v seen) (hi64 : ∀ x ∈ seen, I64 x) (h : leastE p seen ≠ 0) :
    Calls Try.prog 19 #[.int .i64 p, v] w fun e w' => e = .returned (.tuple #[.int .i64 0, .slice none 0 0, .int .i64 (leastE p seen)]) ∧ Below w.heap.size w w' := by
  have HSM := hid (fun w1 => modulo_any p w1)
  have HBE := hid (fun w1 (hb : Below w.heap.size w w1) => fit_any p v seen w1 (hv.below hb) hi64)
  obtain ⟨sv, sc, N, rfl, hN, hl1, hl2⟩ := hv.open
  have HE := hid (show leastE p seen = if smallB p = false then 1 else if 60 < N then 3 else if fitB p seen = false then 1 else 0 by rw [← hN.out]; rfl)
  clear hl2 hv
  generalize leastE p seen = z at *
  generalize smallB p = s at *
  generalize fitB p seen = f at *
  cases s with
  | false =>
    obtain rfl := HE.out
    go_enter Try.func19, Try.ntmps19
    go_wp2_with fail
    refine (HSM.out _).mono ?_
    rintro e w0 ⟨rfl, rfl⟩
    go_wp2
    go_ret3
    exact ⟨rfl, Below.refl _ _⟩
  | true =>
    by_cases h8 : 60 < N
    · have h8i : (60 : Int) < (N : Int) := by omega
      obtain rfl : z = 3 := by rw [HE.out]; simp [h8]
      go_enter Try.func19, Try.ntmps19
      go_wp2_with fail
      refine (HSM.out _).mono ?_
      rintro e w0 ⟨rfl, rfl⟩
      go_wp2
      go_ret3
      exact ⟨rfl, Below.refl _ _⟩
    · have h8i : ¬ (60 : Int) < (N : Int) := by omega
      cases f with
      | true => exact absurd (by rw [HE.out]; simp [h8]) h
      | false =>
        obtain rfl : z = 1 := by rw [HE.out]; simp [h8]
        go_enter Try.func19, Try.ntmps19
        go_wp2_with fail
        refine (HSM.out _).mono ?_
        rintro e w0 ⟨rfl, rfl⟩
        go_wp2_with fail
        refine (HBE.out _ (Below.refl _ _)).mono ?_
        rintro e w1 ⟨rfl, hb⟩
        go_wp2
        go_ret3
        exact ⟨rfl, hb⟩
end Go.Proofs.Ytlnfkkapepgilaa
