/-
  The walk over the law SubsetKruskal. Condition: the slice can be read.
-/
import Derived.Test.YtdbfmjlnalaobaaKkf
import Derived.Test.YtdbfmjlnalaobaaShad
namespace Go.Proofs.Ytdbfmjlnalaobaa
set_option linter.unusedVariables false
open Go.RowKit

theorem fam_list {n : Nat} {A : List Nat} (hn : n ≤ 12) (hl : A.length ≤ 4096) (h : ∀ a ∈ A, a < 2 ^ n) (hp : A.Pairwise (· < ·)) :
    famE n (natA A) = 0 ∧ Fam n (natA A) (fun i => A.getD i 0) A.length := by
  have hat : ∀ k, k < A.length → (natA A)[k]?.getD 0 = ((A.getD k 0 : Nat) : Int) := fun k hk => by
    simp [natA, List.getD_eq_getElem?_getD, hk]
  have hmem : ∀ k, k < A.length → A.getD k 0 ∈ A := fun k hk => by
    rw [List.getD_eq_getElem?_getD, List.getElem?_eq_getElem hk]
    exact List.getElem_mem hk
  have hup : ∀ k, k + 1 < A.length → A.getD k 0 < A.getD (k + 1) 0 := fun k hk => by
    have := (List.pairwise_iff_getElem.1 hp) k (k + 1) (by omega) hk (by omega)
    rw [List.getD_eq_getElem?_getD, List.getD_eq_getElem?_getD, List.getElem?_eq_getElem hk, List.getElem?_eq_getElem (show k < A.length by omega)]
    exact this
  have hpw := pow12 hn
  refine ⟨?_, hn, hl, ⟨natA_len A, hat, fun k hk => ?_⟩, fun k hk => h _ (hmem k hk), hup⟩
  · have hr : ∀ m, m ≤ A.length → riseTo (natA A) m = true := by
      intro m
      induction m with
      | zero => intro _; rfl
      | succ m ih =>
        intro hm
        simp only [riseTo, ih (by omega), Bool.true_and, Bool.or_eq_true, beq_iff_eq, decide_eq_true_eq]
        rcases Nat.eq_zero_or_pos m with e | e
        · exact .inl e
        · right
          rw [hat (m - 1) (by omega), hat m (by omega)]
          have := hup (m - 1) (by omega)
          rw [show m - 1 + 1 = m by omega] at this
          omega
    unfold famE
    rw [if_neg (by omega), natA_len, if_neg (by omega), if_neg, if_pos]
    · unfold riseB; rw [natA_len]; exact hr _ (Nat.le_refl _)
    · rw [Bool.not_eq_true, List.any_eq_false]
      intro x hx
      simp only [natA, List.mem_map] at hx
      obtain ⟨a, ha, rfl⟩ := hx
      have := h a ha
      simp only [badSet, Int.toNat_natCast, Bool.or_eq_true, decide_eq_true_eq]
      omega
  · have := h _ (hmem k hk); omega

/-- The sets of k things among the first j. -/
def kfl (k : Nat) (F : Nat → Nat) (j : Nat) : List Nat := ((List.range j).map F).filter fun a => pop a == k
theorem kfl_on {k j : Nat} {F : Nat → Nat} (h : pop (F j) = k) : kfl k F (j + 1) = kfl k F j ++ [F j] := by simp [kfl, List.range_succ, h]
theorem kfl_off {k j : Nat} {F : Nat → Nat} (h : ¬ pop (F j) = k) : kfl k F (j + 1) = kfl k F j := by simp [kfl, List.range_succ, h]
theorem kfl_len (k : Nat) (F : Nat → Nat) (j : Nat) : (kfl k F j).length ≤ j := by
  unfold kfl
  exact Nat.le_trans (List.length_filter_le _ _) (by simp)
theorem kfl_mem {k j : Nat} {F : Nat → Nat} {a : Nat} (h : a ∈ kfl k F j) : ∃ i, i < j ∧ a = F i ∧ pop a = k := by
  simp only [kfl, List.mem_filter, List.mem_map, List.mem_range, beq_iff_eq] at h
  obtain ⟨⟨i, hi, rfl⟩, h2⟩ := h
  exact ⟨i, hi, rfl, h2⟩
theorem kru {l : List Int} {F : Nat → Nat} {n N k : Nat} (hF : Fam n l F N) (hk : 1 ≤ k) :
    famE n (natA (kfl k F N)) = 0 ∧ Fam n (natA (kfl k F N)) (fun i => (kfl k F N).getD i 0) (kfl k F N).length ∧ kk k (kfl k F N).length ≤ (outS (shB (fun i => (kfl k F N).getD i 0) n (kfl k F N).length 0) 4096).length := by
  have hlen := kfl_len k F N
  have hle := hF.le
  have hlt : ∀ a ∈ kfl k F N, a < 2 ^ n := fun a ha => by obtain ⟨i, hi, rfl, _⟩ := kfl_mem ha; exact hF.lt i hi
  have hpr : (kfl k F N).Pairwise (· < ·) := (up_pair hF.up).filter _
  have huni : uni n k (fm (kfl k F N)) := fm_uni hF.n12 fun a ha => ⟨hlt a ha, by obtain ⟨i, hi, _, h⟩ := kfl_mem ha; exact h⟩
  generalize kfl k F N = A at *
  obtain ⟨h1, h2⟩ := fam_list hF.n12 (by omega) hlt hpr
  refine ⟨h1, h2, ?_⟩
  obtain ⟨k, rfl⟩ : ∃ k', k = k' + 1 := ⟨k - 1, by omega⟩
  have h3 := kruskal n k (fm A) huni
  rw [fm_cn n A (pair_nodup hpr) hlt] at h3
  refine Nat.le_trans h3 ?_
  have hpw := pow12 hF.n12
  obtain ⟨g, hg⟩ : ∃ g, g = shB (fun i => A.getD i 0) n A.length 0 := ⟨_, rfl⟩
  have hB1 : ((List.range 4096).filter g).Nodup := List.nodup_range.filter _
  have hB2 : ∀ b ∈ (List.range 4096).filter g, b < 2 ^ n := fun b hb => by
    rcases Nat.lt_or_ge b (2 ^ n) with h | h
    · exact h
    · have h4 := (List.mem_filter.1 hb).2
      rw [hg, shB_bd (P := 2 ^ n) h2.lt b h] at h4
      cases h4
  have h5 := fm_cn n _ hB1 hB2
  have h6 : (outS g 4096).length = ((List.range 4096).filter g).length := by simp [outS, natL]
  rw [← hg, h6, ← h5]
  refine cn_le fun t ht hs => ?_
  obtain ⟨i, hi, ho, hf⟩ := sd_iff.1 hs
  simp only [fm, List.contains_iff_mem] at hf ⊢
  rw [vl_flp i t hi ho] at hf
  have hv := vl_lt t
  rw [ht] at hv
  rw [List.mem_filter, List.mem_range]
  refine ⟨by omega, ?_⟩
  obtain ⟨j, hj, e⟩ := List.mem_iff_getElem.1 hf
  rw [hg]
  simp only [shB, shS_zero, Bool.or_false]
  rw [List.any_eq_true]
  refine ⟨j, List.mem_range.2 hj, ?_⟩
  have hje : A.getD j 0 = vl t + 2 ^ i := by rw [List.getD_eq_getElem?_getD, List.getElem?_eq_getElem hj]; exact e
  simp only [shS, hje]
  rw [List.any_eq_true]
  refine ⟨i, List.mem_range.2 (by omega), ?_⟩
  have hbit : (vl t + 2 ^ i).testBit i = true := by
    rw [← vl_flp i t hi ho, ← on_bl n i _ (by omega)]
    have : bl n (vl (flp i t)) = flp i t := by
      have := bl_vl (flp i t)
      rwa [flp_len, ht] at this
    rw [this, on_flp i t hi, ho]
    rfl
  rw [Nat.testBit_eq_decide_div_mod_eq, decide_eq_true_eq] at hbit
  simp [shT, hbit]

set_option maxHeartbeats 1000000 in
theorem subsetKruskal_ok (w : World) (n : Nat) (v : Value) (l : List Int) (k : Nat) (F : Nat → Nat) (N : Nat) (hl : Sl w v l) (hb : ∀ x ∈ l, I64 x) (hz : famE n l = 0) (hF : Fam n l F N) (hk1 : 1 ≤ k) (hk2 : k ≤ 12) :
    Calls Try.prog 10 #[.int .i64 n, v, .int .i64 k] w fun e w' => e = .returned (.bool true) ∧ Below w.heap.size w w' := by
  have HFA := hid (fact_any w)
  have HCK := hid (fun w1 (h : Below w.heap.size w w1) => check_fam n v l w1 (hl.below h) hb)
  rw [hz] at HCK
  have hn := hF.n12
  have hNb := hF.le
  have HAT := hid hF.fam.at'
  have HBD := hid hF.fam.bd
  have HTH := hid (fun (s : Nat) (w1 : World) (hs : s < 8192) => things_ok s w1 hs)
  have hlen := kfl_len k F N
  obtain ⟨hk3, hk4, hk5⟩ := kru hF hk1
  have HSH := hid (fun (u : Value) (w1 : World) (hu : Sl w1 u (natA (kfl k F N))) => Shadow_ok n u _ _ _ w1 hu (by
    intro x hx
    simp only [natA, List.mem_map] at hx
    obtain ⟨a, ha, rfl⟩ := hx
    obtain ⟨i, hi, rfl, _⟩ := kfl_mem ha
    have := hF.fam.bd i hi
    unfold I64
    omega) hk3 hk4)
  have HLE := hid (fun (w1 : World) => Least_ok (kfl k F N).length k w1 hk1 (by omega) (by omega))
  rw [kk_ls] at HLE
  have hk6 := outS_len (shB (fun i => (kfl k F N).getD i 0) n (kfl k F N).length 0) 4096
  have HL0 : Hid (kfl k F 0 = []) := hid rfl
  have HL1 := hid (fun j (h : pop (F j) = k) => kfl_on h)
  have HL2 := hid (fun j (h : ¬ pop (F j) = k) => kfl_off h)
  have HLL := hid (kfl_len k F)
  obtain ⟨a, cp, N', rfl, hN, hl1, hl2⟩ := hl.open
  obtain rfl : N' = N := by rw [← hN.out, hF.fam.len]
  generalize outS (shB (fun i => (kfl k F N').getD i 0) n (kfl k F N').length 0) 4096 = out at *
  generalize kfl k F = K at *
  obtain ⟨ml, hml⟩ : ∃ ml, ml = (K N').length := ⟨_, rfl⟩
  rw [← hml] at hlen hk5 HLE
  have HML := hid hml
  clear hml hk3 hk4
  obtain ⟨ol, hol⟩ : ∃ ol, ol = out.length := ⟨_, rfl⟩
  rw [← hol] at hk5 hk6
  have HOL := hid hol
  clear hol
  generalize kk k ml = lst at *
  have hci : (lst : Int) ≤ (ol : Int) := by omega
  clear hF hz hb hl
  go_enter Try.func10, Try.ntmps10
  go_wp2_with fail
  refine HFA.out.mono ?_
  rintro e w1 ⟨rfl, hb1⟩
  have B1 := hid hb1
  clear hb1
  go_wp2_with fail
  refine (HCK.out _ B1.out).mono ?_
  rintro e w2 ⟨rfl, hb2⟩
  have B2 := hid (B1.out.trans (hb2.mono B1.out.size))
  clear hb2
  go_wp2
  go_loopw [9, 10, 11] (fun m i _ wr => ∃ j : Nat, j ≤ N' ∧ i = .int .i64 j ∧ OI w.heap.size wr m (natA (K j)) ∧ Below w.heap.size w wr) (fun _ i _ _ => N' - (intOf i).toNat)
  case atStart => exact ⟨0, Nat.zero_le _, rfl, by rw [HL0.out]; exact OI.nil _ _, B2.out⟩
  case round =>
    obtain ⟨j, hj, rfl, ho, hbw⟩ := hrel
    by_cases hlt : j < N'
    · obtain ⟨b, off, rfl, hblt, hc⟩ := hl2 (by omega)
      have c1 := (hbw.cell (p := ⟨b, off + j, none⟩) hblt).trans (hc j hlt)
      rw [HAT.out j hlt] at c1
      have hx := HBD.out j hlt
      have hT := hid (HTH.out (F j) wr (by omega))
      have hpb : pop (F j) ≤ 13 := popF_le 13 (F j)
      have hl3 := HLL.out j
      by_cases he : pop (F j) = k
      · have HE := hid (HL1.out j he)
        have hqe : ((k : Int) == (k : Int)) = true := by simp
        have hl4 : (natA (K j)).length ≤ 1000000000000 := by rw [natA_len]; omega
        have hsz := hbw.size
        have HC : Hid (natA (K j) ++ [(F j : Int)] = natA (K (j + 1))) := hid (by rw [HE.out]; simp [natA])
        rw [he] at hT hpb
        clear he hc hl2 hl3
        generalize natA (K j) = nl at *
        generalize F j = x at *
        have HO := hid (And.intro ho hbw)
        go_wp2_with fail
        refine hT.out.mono ?_
        rintro e w4 ⟨rfl, rfl⟩
        go_wp2_with (at_builtin; refine wpList_appi wr _ _ 22 rfl rfl Try.underlying22 Try.info3 w.heap.size _ _ rfl ho rfl hl4 hsz ?_; intro g c w1 hown1 hg1 hg2 hg3)
        have HX := hid (And.intro (hown1.cast HC.out) (ho.grown hbw hg1 hsz))
        clear hown1 hg1 hg2 hg3 ho hbw
        go_wp2
        go_roundw
        case rel => exact ⟨j + 1, by omega, by go_num, HX.out.1, HX.out.2⟩
        case measure => simp [intOf] <;> omega
      · have HE := hid (HL2.out j he)
        have hqe : ((pop (F j) : Int) == (k : Int)) = false := by rw [beq_eq_false_iff_ne]; omega
        have HX : Hid (OI w.heap.size wr u9 (natA (K (j + 1))) ∧ Below w.heap.size w wr) := hid (by rw [HE.out]; exact ⟨ho, hbw⟩)
        clear he hc hl2 hl3 ho hbw
        generalize pop (F j) = pk at *
        generalize F j = x at *
        go_wp2_with fail
        refine hT.out.mono ?_
        rintro e w4 ⟨rfl, rfl⟩
        go_wp2
        go_roundw
        case rel => exact ⟨j + 1, by omega, by go_num, HX.out.1, HX.out.2⟩
        case measure => simp [intOf] <;> omega
    · obtain rfl : j = N' := by omega
      have hnl : (natA (K j)).length = ml := by rw [natA_len]; exact HML.out.symm
      obtain ⟨ma, mc, rfl⟩ := ho.len
      rw [hnl] at ho ⊢
      have HS := hid (HSH.out _ wr (ho.sl (by rw [hnl]; omega)))
      have B3 := hid hbw
      clear ho hbw hl2 hnl
      go_wp2_with fail
      refine HS.out.mono ?_
      rintro e w4 ⟨⟨u, rfl, hu⟩, hb4⟩
      obtain ⟨oa, oc, rfl⟩ := hu.len
      rw [← HOL.out]
      have B4 := hid (B3.out.trans (hb4.mono B3.out.size))
      clear hu hb4
      go_wp2_with fail
      refine (HLE.out w4).mono ?_
      rintro e w5 ⟨rfl, hb5⟩
      have B5 := hid (B4.out.trans (hb5.mono B4.out.size))
      clear hb5
      go_wp2
      go_ret
      exact ⟨rfl, B5.out⟩

theorem subsetKruskal_walk (w : World) (n : Int) (_ : I64 n) (v : Value) (l : List Int) (hl : Sl w v l) (hb : ∀ x ∈ l, I64 x) (k : Int) (ik : I64 k) :
    Calls Try.prog 10 #[.int .i64 n, v, .int .i64 k] w fun e w' => e = .returned (.bool true) ∧ Below w.heap.size w w' := by
  have HFA := hid (fact_any w)
  have HAP := hid (fun w1 (h : Below w.heap.size w w1) => check_fam n v l w1 (hl.below h) hb)
  by_cases hz : famE n l = 0
  · by_cases h1 : k < 1
    · rw [hz] at HAP
      clear hz hb hl
      go_enter Try.func10, Try.ntmps10
      go_wp2_with fail
      refine HFA.out.mono ?_
      rintro e w1 ⟨rfl, hb1⟩
      have B1 := hid hb1
      clear hb1
      go_wp2_with fail
      refine (HAP.out _ B1.out).mono ?_
      rintro e w2 ⟨rfl, hb2⟩
      have B2 := hid (B1.out.trans (hb2.mono B1.out.size))
      clear hb2
      go_wp2
      go_ret
      exact ⟨rfl, B2.out⟩
    · by_cases h2 : 12 < k
      · rw [hz] at HAP
        clear hz hb hl
        go_enter Try.func10, Try.ntmps10
        go_wp2_with fail
        refine HFA.out.mono ?_
        rintro e w1 ⟨rfl, hb1⟩
        have B1 := hid hb1
        clear hb1
        go_wp2_with fail
        refine (HAP.out _ B1.out).mono ?_
        rintro e w2 ⟨rfl, hb2⟩
        have B2 := hid (B1.out.trans (hb2.mono B1.out.size))
        clear hb2
        go_wp2
        go_ret
        exact ⟨rfl, B2.out⟩
      · obtain ⟨m, rfl, hF⟩ := fam_of hz
        obtain ⟨F, hFx⟩ : ∃ F : Nat → Nat, F = fun k : Nat => (l[k]?.getD (0 : Int)).toNat := ⟨_, rfl⟩
        rw [← hFx] at hF
        have := subsetKruskal_ok w m v l k.toNat F l.length hl hb hz hF (by omega) (by omega)
        rwa [show ((k.toNat : Nat) : Int) = k by omega] at this
  · have qz1 : (famE n l != 0) = true := by simpa using hz
    clear hz hb hl
    generalize famE n l = z at *
    go_enter Try.func10, Try.ntmps10
    go_wp2_with fail
    refine HFA.out.mono ?_
    rintro e w1 ⟨rfl, hb1⟩
    have B1 := hid hb1
    clear hb1
    go_wp2_with fail
    refine (HAP.out _ B1.out).mono ?_
    rintro e w2 ⟨rfl, hb2⟩
    have B2 := hid (B1.out.trans (hb2.mono B1.out.size))
    clear hb2
    go_wp2
    go_ret
    exact ⟨rfl, B2.out⟩
end Go.Proofs.Ytdbfmjlnalaobaa
