/-
  The walk over subset.Chains. No condition.
-/
import Derived.Test.YtdbfmjlnalaobaaThings
import Derived.Test.YtdbfmjlnalaobaaOl
namespace Go.Proofs.Ytdbfmjlnalaobaa
set_option linter.unusedVariables false
open Go.RowKit

/-- A chain: things come in one by one. -/
def chV (s : Nat) (L : List Nat) : Nat → Nat
  | 0 => s
  | t + 1 => chV s L t ||| 2 ^ (L.getD t 0)
def chL (s : Nat) (L : List Nat) (t : Nat) : List Nat := (List.range (t + 1)).map (chV s L)
theorem chL_snoc (s : Nat) (L : List Nat) (t : Nat) : chL s L (t + 1) = chL s L t ++ [chV s L (t + 1)] := by simp [chL, List.range_succ (n := t + 1)]
theorem chL_len (s : Nat) (L : List Nat) (t : Nat) : (chL s L t).length = t + 1 := by simp [chL]
/-- The chains that begin below t. -/
def chainsF (n : Nat) : Nat → List (List Nat)
  | 0 => []
  | t + 1 => if (aloneS t n).1 = true then chainsF n t else chainsF n t ++ [chL t (aloneS t n).2 (aloneS t n).2.length]
theorem chains_len (n : Nat) : ∀ t, (chainsF n t).length ≤ t
  | 0 => Nat.le_refl _
  | t + 1 => by
    have := chains_len n t
    simp only [chainsF]
    split
    · omega
    · simp; omega
theorem aloneS_lt (s : Nat) : ∀ i, ∀ x ∈ (aloneS s i).2, x < i
  | 0, x, h => by simp [aloneS] at h
  | i + 1, x, h => by
    have ih := aloneS_lt s i
    simp only [aloneS] at h
    split at h
    · rcases List.mem_append.1 h with h | h
      · have := ih x h; omega
      · simp at h; omega
    · split at h
      · rename_i h2
        rw [h2] at h
        cases h
      · have := ih x (List.dropLast_subset _ h); omega
theorem chV_lt {s n : Nat} {L : List Nat} (hs : s < 2 ^ n) (hL : ∀ x ∈ L, x < n) : ∀ t, t ≤ L.length → chV s L t < 2 ^ n
  | 0, _ => hs
  | t + 1, h => by
    have ih := chV_lt hs hL t (by omega)
    have hx : L.getD t 0 < n := by
      rw [List.getD_eq_getElem?_getD, List.getElem?_eq_getElem (by omega)]
      exact hL _ (List.getElem_mem _)
    exact Nat.or_lt_two_pow ih (Nat.pow_lt_pow_right (by omega) hx)

theorem Chains_bad (n : Int) (w : World) (h : n < 0 ∨ 10 < n) :
    Calls Try.prog 29 #[.int .i64 n] w fun e w' => e = .returned (.tuple #[.slice none 0 0, .int .i64 1]) ∧ Below w.heap.size w w' := by
  rcases h with h | h
  · go_enter Try.func29, Try.ntmps29
    go_wp2
    go_step3
    go_wp2
    try rw [Exit.noGoto_ret]
    go_ret2
    exact ⟨rfl, Below.refl _ _⟩
  · have h0 : ¬ n < 0 := by omega
    go_enter Try.func29, Try.ntmps29
    go_wp2
    go_step3
    go_wp2
    try rw [Exit.noGoto_ret]
    go_ret2
    exact ⟨rfl, Below.refl _ _⟩

set_option maxHeartbeats 2000000 in
set_option maxRecDepth 100000 in
theorem Chains_ok (n : Nat) (w : World) (hn : n ≤ 10) :
    Calls Try.prog 29 #[.int .i64 n] w fun e w' => (∃ u, e = .returned (.tuple #[u, .int .i64 0]) ∧ OL w.heap.size w'.heap.size w' u ((chainsF n (2 ^ n)).map natA)) ∧ Below w.heap.size w w' := by
  have h2n : (2 : Int) ^ n = ((2 ^ n : Nat) : Int) := by simp
  have hP1 : 1 ≤ 2 ^ n := Nat.pos_of_ne_zero (by simp)
  have hP2 : 2 ^ n ≤ 1024 := Nat.pow_le_pow_right (n := 2) (by omega) hn
  have HAL := hid (fun (s : Nat) (w : World) (hs : s < 4096) => alone_ok n s w (by omega) hs)
  have HALN := hid (fun s => aloneS_len s n)
  have HCV := hid (fun (s t : Nat) (hs : s < 2 ^ n) (ht : t ≤ (aloneS s n).2.length) => chV_lt hs (aloneS_lt s n) t ht)
  have HAX := hid (fun (s t : Nat) (ht : t < (aloneS s n).2.length) => (show (aloneS s n).2.getD t 0 < n by
    rw [List.getD_eq_getElem?_getD, List.getElem?_eq_getElem ht]
    exact aloneS_lt s n _ (List.getElem_mem _)))
  have HC0 : Hid (chainsF n 0 = []) := hid rfl
  have HCS : Hid (∀ t, chainsF n (t + 1) = if (aloneS t n).1 = true then chainsF n t else chainsF n t ++ [chL t (aloneS t n).2 (aloneS t n).2.length]) := hid (fun t => rfl)
  have HCL := hid (chains_len n)
  obtain ⟨P, hP⟩ : ∃ P, P = 2 ^ n := ⟨_, rfl⟩
  rw [← hP] at h2n hP1 hP2 HCV ⊢
  have HP := hid hP
  clear hP
  generalize chainsF n = CF at *
  go_enter Try.func29, Try.ntmps29
  go_wp2
  go_step3
  go_wp2
  go_step3
  go_wp2
  go_loopw [4, 19] (fun o i wr => ∃ t : Nat, t ≤ P ∧ i = .int .i64 t ∧ OL w.heap.size wr.heap.size wr o ((CF t).map natA) ∧ Below w.heap.size w wr) (fun _ i _ => P - (intOf i).toNat)
  case atStart => exact ⟨0, Nat.zero_le _, rfl, by rw [HC0.out]; exact OL.nil _ _ _, Below.refl _ _⟩
  case round =>
    obtain ⟨t, ht, rfl, hol, hb⟩ := hrel
    by_cases hlt : t < P
    · have hALT := hid (HAL.out t wr (by omega))
      have hCS := HCS.out t
      have HALNT := hid (HALN.out t)
      have HCVT := hid (fun j hj => HCV.out t j hlt hj)
      have HAXT := hid (HAX.out t)
      have HX := hid (And.intro hol hb)
      clear hol hb
      generalize (aloneS t n).2 = L at *
      cases hin : (aloneS t n).1 with
      | true =>
        rw [hin] at hALT
        rw [hin, if_pos rfl] at hCS
        have HE := hid hCS
        clear hCS hin
        go_wp2_with fail
        refine hALT.out.mono ?_
        rintro e w1 ⟨⟨u, rfl, hu⟩, hb1⟩
        have HY := hid (And.intro (HX.out.1.below hb1) (HX.out.2.trans (hb1.mono HX.out.2.size)))
        have HSZ := hid hb1.size
        clear hu hb1
        go_wp2
        go_roundw
        case rel => exact ⟨t + 1, by omega, by go_num, by rw [HE.out]; exact HY.out.1.mono (Nat.le_refl _) HSZ.out, HY.out.2⟩
        case measure => simp [intOf] <;> omega
      | false =>
        rw [hin] at hALT
        rw [hin, if_neg (by decide)] at hCS
        have HE := hid hCS
        clear hCS hin
        go_wp2_with fail
        refine hALT.out.mono ?_
        rintro e w1 ⟨⟨u, rfl, hu⟩, hb1⟩
        have HY := hid (And.intro (HX.out.1.below hb1) (HX.out.2.trans (hb1.mono HX.out.2.size)))
        have HSZ := hid hb1.size
        have HU := hid hu
        clear hu hb1
        have hlit : OI w1.heap.size (w1.alloc (.cells #[.int .i64 t] 3)) (.slice (some ⟨w1.heap.size, 0, none⟩) 1 1) (natA (chL t L 0)) := OI.lit1 _ _ _ (Nat.le_refl _)
        have HV0 : Hid (chV t L 0 = t) := hid rfl
        have HVS : Hid (∀ j, chV t L (j + 1) = chV t L j ||| 2 ^ (L.getD j 0)) := hid (fun j => rfl)
        have HCH := hid (chL_snoc t L)
        have HCHL := hid (chL_len t L)
        have HLI := hid (And.intro hlit (And.intro (HY.out.1.below ((Below.refl w1.heap.size w1).alloc (Nat.le_refl _) (.cells #[.int .i64 t] 3))) (HY.out.2.alloc HY.out.2.size (.cells #[.int .i64 t] 3))))
        have hul := HU.out.len
        obtain ⟨ua, uc, rfl⟩ := hul
        rw [natA_len] at HU ⊢
        have HUC := hid (fun j (hj : j < L.length) => HU.out.form (by rw [natA_len]; omega))
        obtain ⟨M, hM⟩ : ∃ M, M = L.length := ⟨_, rfl⟩
        rw [← hM] at HU HALNT HCVT HAXT HE HUC ⊢
        have HM := hid hM
        clear hlit hM
        go_wp2
        go_loopw [5, 8, 33] (fun x ch i wq => ∃ j : Nat, j ≤ M ∧ i = .int .i64 j ∧ x = .int .i64 (chV t L j : Nat) ∧ OI w1.heap.size wq ch (natA (chL t L j)) ∧ Below w1.heap.size w1 wq) (fun _ _ i _ => M - (intOf i).toNat)
        case atStart => exact ⟨0, Nat.zero_le _, rfl, by rw [HV0.out], HLI.out.1, (Below.refl w1.heap.size w1).alloc (Nat.le_refl _) _⟩
        case round =>
          obtain ⟨j, hj, rfl, rfl, hch, hbw⟩ := hrel
          clear HLI
          by_cases hjM : j < M
          · obtain ⟨g, c0, hge, hg1, hg2⟩ := HUC.out j hjM
            obtain ⟨rfl, rfl⟩ : ua = some ⟨g, 0, none⟩ ∧ c0 = uc := by
              simp only [Value.slice.injEq] at hge
              exact ⟨hge.1, hge.2.2.symm⟩
            have hMn := HALNT.out
            have hcell := (HU.out.below hbw).cell j (by rw [natA_len, ← HM.out]; exact hjM)
            rw [show (natA L).getD j 0 = ((L.getD j 0 : Nat) : Int) by simp [natA, List.getD_eq_getElem?_getD, show j < L.length by rw [← HM.out]; exact hjM]] at hcell
            have hx := HAXT.out j hjM
            have hv := HCVT.out j hj
            have hv1 := HCVT.out (j + 1) hjM
            have hvs := HVS.out j
            have hp1 : 1 ≤ 2 ^ (L.getD j 0) := Nat.pos_of_ne_zero (by simp)
            have hp2 : 2 ^ (L.getD j 0) ≤ 1024 := Nat.le_trans (Nat.pow_le_pow_right (n := 2) (by omega) (show L.getD j 0 ≤ 10 by omega)) (by decide)
            have h2p : (2 : Int) ^ (L.getD j 0) = ((2 ^ (L.getD j 0) : Nat) : Int) := by simp
            have hor := or_i64 (chV t L j) (2 ^ (L.getD j 0)) (by omega) (by omega)
            rw [← hvs] at hor
            have HCS := hid (HCH.out j)
            have hl2 : (natA (chL t L j)).length ≤ 1000000000000 := by rw [natA_len, HCHL.out]; have := HALNT.out; omega
            have hsz := hbw.size
            have HNA : Hid (natA (chL t L j) ++ [(chV t L (j + 1) : Int)] = natA (chL t L (j + 1))) := hid (by rw [HCS.out]; simp [natA])
            clear hvs hge
            generalize natA (chL t L j) = nl at *
            generalize L.getD j 0 = xx at *
            obtain ⟨pw, hpw⟩ : ∃ pw, pw = 2 ^ xx := ⟨_, rfl⟩
            rw [← hpw] at hp1 hp2 h2p hor
            clear hpw
            obtain ⟨v1, hv1e⟩ : ∃ v1, v1 = chV t L (j + 1) := ⟨_, rfl⟩
            have HV1 : Hid (Value.int IntKind.i64 (v1 : Int) = Value.int IntKind.i64 ((chV t L (j + 1) : Nat) : Int)) := hid (by rw [hv1e])
            rw [← hv1e] at hv1 hor HNA
            clear hv1e
            generalize chV t L j = v0 at *
            go_wp2_with (at_builtin; refine wpList_appi wr _ _ 22 rfl rfl Try.underlying22 Try.info3 w1.heap.size _ _ rfl hch rfl hl2 hsz ?_; intro g3 c3 w4 hown1 hg1 hg2 hg3)
            have HX4 := hid (And.intro (hown1.cast HNA.out) (hch.grown hbw hg1 hsz))
            clear hown1 hg1 hg2 hg3 hch hbw
            go_wp2
            go_roundw
            case rel => exact ⟨j + 1, by omega, by go_num, HV1.out, HX4.out.1, HX4.out.2⟩
            case measure => simp [intOf] <;> omega
          · obtain rfl : j = M := by omega
            have hol := HY.out.1.below hbw
            have hbq := HY.out.2.trans (hbw.mono HY.out.2.size)
            obtain ⟨qa, qc, hqe⟩ := hch.len
            rw [natA_len, HCHL.out] at hqe
            subst hqe
            have HQ := hid hch
            obtain ⟨vs, o1, o2, o3, o4⟩ := hol
            have hvs : vs.length ≤ 1000000000000 := by
              have := HCL.out t
              rw [List.length_map] at o3
              omega
            have HO2 := hid o2
            have HO3 := hid o3
            have HO4 := hid o4
            have hB : w.heap.size ≤ wr.heap.size := hbq.size
            have HB := hid hbq
            have HW1 := hid (Nat.le_trans HX.out.2.size HSZ.out)
            clear hch hbw hbq o2 o3 o4
            go_wp2_with (at_builtin; refine wpList_app wr _ _ 41 22 (.slice none 0 0) 24 rfl rfl Try.underlying41 Try.info22 rfl (by decide) w.heap.size _ vs rfl o1 rfl rfl hvs hB ?_; intro g3 c3 w4 hown1 hg1 hg2 hg3)
            have hol2 := OL.snoc o1 HO2.out HO3.out HO4.out HQ.out HW1.out hown1 hg1
            have HEND := hid (And.intro hol2 (HB.out.grown hg1 hB (fun b e => (o1.lt b e).1)))
            clear hol2 hown1 hg1 hg2 hg3 o1
            go_roundw
            case rel => exact ⟨t + 1, by omega, by go_num, by rw [HE.out, List.map_append]; exact HEND.out.1, HEND.out.2⟩
            case measure => simp [intOf] <;> omega
    · obtain rfl : t = P := by omega
      have HX := hid (And.intro hol hb)
      clear hol hb
      go_wp2
      try rw [Exit.noGoto_ret]
      go_ret2
      exact ⟨⟨_, rfl, HX.out.1⟩, HX.out.2⟩
end Go.Proofs.Ytdbfmjlnalaobaa
