/-
  The walk over parterreref4.ChainsOf. No condition.
-/
import Derived.Test.YtdbfmjlnalaobaaLeastOf
import Derived.Test.YtdbfmjlnalaobaaShadP
namespace Go.Proofs.Ytdbfmjlnalaobaa
set_option linter.unusedVariables false
open Go.RowKit

def stepOk (n : Nat) : List Nat → Nat → Bool
  | [], v => (aloneS v n).2 == []
  | i :: R, v => ((aloneS v n).2 == i :: R) && (v ||| 2 ^ i == v + 2 ^ i) && stepOk n R (v ||| 2 ^ i)
def chkA (n : Nat) : Bool := allT (fun s => (aloneS s n).1 || stepOk n (aloneS s n).2 s) (2 ^ n)
theorem chkA_0 : chkA 0 = true := by decide +kernel
theorem chkA_1 : chkA 1 = true := by decide +kernel
theorem chkA_2 : chkA 2 = true := by decide +kernel
theorem chkA_3 : chkA 3 = true := by decide +kernel
theorem chkA_4 : chkA 4 = true := by decide +kernel
theorem chkA_5 : chkA 5 = true := by decide +kernel
theorem chkA_6 : chkA 6 = true := by decide +kernel
theorem chkA_7 : chkA 7 = true := by decide +kernel
theorem chkA_8 : chkA 8 = true := by decide +kernel
theorem chkA_9 : chkA 9 = true := by decide +kernel
theorem chkA_10 : chkA 10 = true := by decide +kernel
theorem chkA_all {n : Nat} (hn : n ≤ 10) : chkA n = true := by
  rcases (show n = 0 ∨ n = 1 ∨ n = 2 ∨ n = 3 ∨ n = 4 ∨ n = 5 ∨ n = 6 ∨ n = 7 ∨ n = 8 ∨ n = 9 ∨ n = 10 by omega) with h | h | h | h | h | h | h | h | h | h | h <;> subst h
  · exact chkA_0
  · exact chkA_1
  · exact chkA_2
  · exact chkA_3
  · exact chkA_4
  · exact chkA_5
  · exact chkA_6
  · exact chkA_7
  · exact chkA_8
  · exact chkA_9
  · exact chkA_10
theorem chV_cons (v i : Nat) (R : List Nat) : ∀ j, chV v (i :: R) (j + 1) = chV (v ||| 2 ^ i) R j
  | 0 => rfl
  | j + 1 => by
    show chV v (i :: R) (j + 1) ||| _ = chV (v ||| 2 ^ i) R j ||| _
    rw [chV_cons v i R j]
    rfl
theorem step_at {n : Nat} : ∀ (R : List Nat) (v j : Nat), stepOk n R v = true → j ≤ R.length → (aloneS (chV v R j) n).2 = R.drop j ∧ (j < R.length → chV v R (j + 1) = chV v R j + 2 ^ (R.getD j 0))
  | [], v, j, h, hj => by
    obtain rfl : j = 0 := by simpa using hj
    simp only [stepOk, beq_iff_eq] at h
    exact ⟨h, fun h => by simp at h⟩
  | i :: R, v, 0, h, _ => by
    simp only [stepOk, Bool.and_eq_true, beq_iff_eq] at h
    exact ⟨h.1.1, fun _ => h.1.2⟩
  | i :: R, v, j + 1, h, hj => by
    simp only [stepOk, Bool.and_eq_true, beq_iff_eq] at h
    have ih := step_at R (v ||| 2 ^ i) j h.2 (by simpa using hj)
    rw [chV_cons, chV_cons, List.getD_cons_succ]
    exact ⟨ih.1, fun h => ih.2 (by simpa using h)⟩
theorem chain_steps {n s : Nat} (hn : n ≤ 10) (hs : s < 2 ^ n) (h : (aloneS s n).1 = false) : ∀ j, j ≤ (aloneS s n).2.length → (aloneS (chV s (aloneS s n).2 j) n).2 = (aloneS s n).2.drop j ∧ (j < (aloneS s n).2.length → chV s (aloneS s n).2 (j + 1) = chV s (aloneS s n).2 j + 2 ^ ((aloneS s n).2.getD j 0)) := by
  have hc := allT_at (chkA_all hn) s hs
  rw [h, Bool.false_or] at hc
  exact fun j hj => step_at _ _ j hc hj
def lenW : Value → Nat
  | .slice _ n _ => n
  | _ => 0

theorem ChainsOf_bad (n : Int) (w : World) (h : n < 0 ∨ 10 < n) :
    Calls Try.prog 30 #[.int .i64 n] w fun e w' => e = .returned (.tuple #[.slice none 0 0, .int .i64 1]) ∧ Below w.heap.size w w' := by
  rcases h with h | h
  · go_enter Try.func30, Try.ntmps30
    go_wp2
    go_ret2
    exact ⟨rfl, Below.refl _ _⟩
  · have h0 : ¬ n < 0 := by omega
    go_enter Try.func30, Try.ntmps30
    go_wp2
    go_ret2
    exact ⟨rfl, Below.refl _ _⟩

theorem Apart.symm' {u v : Value} (h : Apart u v) : Apart v u := fun g h1 h2 => h g h2 h1

set_option maxHeartbeats 2000000 in
set_option maxRecDepth 100000 in
theorem ChainsOf_ok (n : Nat) (w : World) (hn : n ≤ 10) :
    Calls Try.prog 30 #[.int .i64 n] w fun e w' => (∃ u, e = .returned (.tuple #[u, .int .i64 0]) ∧ OL w.heap.size w'.heap.size w' u ((chainsF n (2 ^ n)).map natA)) ∧ Below w.heap.size w w' := by
  have h2n : (2 : Int) ^ n = ((2 ^ n : Nat) : Int) := by simp
  have hP1 : 1 ≤ 2 ^ n := Nat.pos_of_ne_zero (by simp)
  have hP2 : 2 ^ n ≤ 1024 := Nat.le_trans (Nat.pow_le_pow_right (n := 2) (by omega) hn) (by decide)
  have HAL := hid (fun (s : Nat) (w : World) (hs : s < 4096) => aloneR_ok n s w (by omega) hs)
  have HALN := hid (fun s => aloneS_len s n)
  have HACP := hid (fun s => aloneC_pos s n)
  have HACL := hid (fun s => aloneC_le s n)
  have HCV := hid (fun (s t : Nat) (hs : s < 2 ^ n) (ht : t ≤ (aloneS s n).2.length) => chV_lt hs (aloneS_lt s n) t ht)
  have HSTP := hid (fun (s : Nat) (hs : s < 2 ^ n) (h : (aloneS s n).1 = false) => chain_steps hn hs h)
  have HAX := hid (fun (s t : Nat) (ht : t < (aloneS s n).2.length) => (show (aloneS s n).2.getD t 0 < n by
    rw [List.getD_eq_getElem?_getD, List.getElem?_eq_getElem ht]
    exact aloneS_lt s n _ (List.getElem_mem _)))
  have HC0 : Hid (chainsF n 0 = []) := hid rfl
  have HCS : Hid (∀ t, chainsF n (t + 1) = if (aloneS t n).1 = true then chainsF n t else chainsF n t ++ [chL t (aloneS t n).2 (aloneS t n).2.length]) := hid (fun t => rfl)
  have HCL := hid (chains_len n)
  obtain ⟨P, hP⟩ : ∃ P, P = 2 ^ n := ⟨_, rfl⟩
  rw [← hP] at h2n hP1 hP2 HCV HSTP ⊢
  have HP := hid hP
  clear hP
  generalize chainsF n = CF at *
  go_enter Try.func30, Try.ntmps30
  go_wp2
  go_loopw [4, 5] (fun o i wr => ∃ t : Nat, t ≤ P ∧ i = .int .i64 t ∧ OL w.heap.size wr.heap.size wr o ((CF t).map natA) ∧ Below w.heap.size w wr) (fun _ i _ => P - (intOf i).toNat)
  case atStart => exact ⟨0, Nat.zero_le _, rfl, by rw [HC0.out]; exact OL.nil _ _ _, Below.refl _ _⟩
  case round =>
    obtain ⟨t, ht, rfl, hol, hb⟩ := hrel
    by_cases hlt : t < P
    · have hALT := hid (HAL.out t wr (by omega))
      have hCS := HCS.out t
      have HALNT := hid (HALN.out t)
      have HCVT := hid (fun j hj => HCV.out t j hlt hj)
      have HSTT := hid (HSTP.out t hlt)
      have HAXT := hid (HAX.out t)
      have hacp := HACP.out t
      have hacl := HACL.out t
      have HX := hid (And.intro hol hb)
      clear hol hb
      generalize (aloneS t n).2 = L at *
      cases hin : (aloneS t n).1 with
      | true =>
        rw [hin] at hacp
        rw [hin, if_pos rfl] at hCS
        have hpos : 0 < (aloneC t n : Int) := by have := hacp.2 rfl; omega
        have HE := hid hCS
        clear hCS hin hacp HSTT
        generalize aloneC t n = cc at *
        go_wp2_with fail
        refine hALT.out.mono ?_
        rintro e w1 ⟨⟨u, rfl, hu⟩, hb1⟩
        have HY := hid (And.intro (HX.out.1.below hb1) (HX.out.2.trans (hb1.mono HX.out.2.size)))
        have HSZ := hid hb1.size
        clear hu hb1
        go_wp2
        go_roundw
        case rel => exact ⟨t + 1, by omega, by go_num, by rw [HE.out]; exact HY.out.1.mono (Nat.le_refl _) HSZ.out, HY.out.2⟩
        case measure => simp [intOf] <;> omega
      | false =>
        rw [hin] at hacp
        rw [hin, if_neg (by decide)] at hCS
        have hc0 : aloneC t n = 0 := by
          rcases Nat.eq_zero_or_pos (aloneC t n) with h | h
          · exact h
          · exact absurd (hacp.1 h) (by decide)
        rw [hc0] at hALT
        have HST := hid (HSTT.out hin)
        have HE := hid hCS
        clear hCS hin hacp hc0 hacl HSTT
        go_wp2_with fail
        refine hALT.out.mono ?_
        rintro e w1 ⟨⟨u, rfl, hu⟩, hb1⟩
        have HY := hid (And.intro (HX.out.1.below hb1) (HX.out.2.trans (hb1.mono HX.out.2.size)))
        have HSZ := hid hb1.size
        have hlit : OI w1.heap.size (w1.alloc (.cells #[.int .i64 t] 3)) (.slice (some ⟨w1.heap.size, 0, none⟩) 1 1) (natA (chL t L 0)) := OI.lit1 _ _ _ (Nat.le_refl _)
        have hap : Apart (.slice (some ⟨w1.heap.size, 0, none⟩) 1 1) u := (Apart.fresh hu hlit).symm'
        have HV0 : Hid (chV t L 0 = t) := hid rfl
        have HCH := hid (chL_snoc t L)
        have HCHL := hid (chL_len t L)
        have hub : w.heap.size ≤ wr.heap.size := HX.out.2.size
        have HLI := hid (And.intro hlit (And.intro ((hu.alloc (.cells #[.int .i64 t] 3)).mono hub) hap))
        obtain ⟨M, hM⟩ : ∃ M, M = L.length := ⟨_, rfl⟩
        rw [← hM] at HALNT HCVT HAXT HE HST
        have HM := hid hM
        clear hlit hM hu hb1 hap
        go_wp2
        go_loopw [7, 8, 9] (fun op ch x wq => ∃ j : Nat, j ≤ M ∧ x = .int .i64 (chV t L j : Nat) ∧ OI w1.heap.size wq ch (natA (chL t L j)) ∧ OI w.heap.size wq op (natA (L.drop j)) ∧ Apart ch op ∧ Below w1.heap.size w1 wq) (fun op _ _ _ => lenW op)
        case atStart => exact ⟨0, Nat.zero_le _, by rw [HV0.out], HLI.out.1, by rw [List.drop_zero]; exact HLI.out.2.1, HLI.out.2.2, (Below.refl w1.heap.size w1).alloc (Nat.le_refl _) _⟩
        case round =>
          obtain ⟨j, hj, rfl, hch, hop, hap, hbw⟩ := hrel
          clear HLI
          have hMn := HALNT.out
          by_cases hjM : j < M
          · obtain ⟨g, c0, rfl, hg1, hg2⟩ := hop.form (by rw [natA_len, List.length_drop, ← HM.out]; omega)
            have hdl : (natA (L.drop j)).length = M - j := by rw [natA_len, List.length_drop, ← HM.out]
            have hcell := hop.cell 0 (by rw [hdl]; omega)
            have hge : (natA (L.drop j)).getD 0 0 = ((L.getD j 0 : Nat) : Int) := by simp [natA, List.getD_eq_getElem?_getD, List.getElem?_drop, show j < L.length by rw [← HM.out]; exact hjM]
            rw [hge] at hcell
            have hx := HAXT.out j hjM
            have hv := HCVT.out j hj
            have hv1 := HCVT.out (j + 1) hjM
            obtain ⟨hs1, hs2⟩ := HST.out (j + 1) hjM
            have hvs := (HST.out j hj).2 hjM
            have hp1 : 1 ≤ 2 ^ (L.getD j 0) := Nat.pos_of_ne_zero (by simp)
            have hp2 : 2 ^ (L.getD j 0) ≤ 1024 := Nat.le_trans (Nat.pow_le_pow_right (n := 2) (by omega) (show L.getD j 0 ≤ 10 by omega)) (by decide)
            have h2p : (2 : Int) ^ (L.getD j 0) = ((2 ^ (L.getD j 0) : Nat) : Int) := by simp
            have hadd : (chV t L j : Int) + ((2 ^ (L.getD j 0) : Nat) : Int) = (chV t L (j + 1) : Int) := by rw [hvs, Int.natCast_add]
            have HALV := hid (fun w2 => HAL.out (chV t L (j + 1)) w2 (by omega))
            rw [hs1] at HALV
            have HCS2 := hid (HCH.out j)
            have hl2 : (natA (chL t L j)).length ≤ 1000000000000 := by rw [natA_len, HCHL.out]; omega
            have hsz := hbw.size
            have HNA : Hid (natA (chL t L j) ++ [(chV t L (j + 1) : Int)] = natA (chL t L (j + 1))) := hid (by rw [HCS2.out]; simp [natA])
            have hMj : 0 < ((M - j : Nat) : Int) := by omega
            rw [hdl] at hop hap ⊢
            have HLN : Hid ((natA (L.drop (j + 1))).length = M - j - 1) := hid (by rw [natA_len, List.length_drop, ← HM.out]; omega)
            clear hvs hge hs1 hs2 hdl
            generalize natA (chL t L j) = nl at *
            generalize L.getD j 0 = xx at *
            obtain ⟨pw, hpw⟩ : ∃ pw, pw = 2 ^ xx := ⟨_, rfl⟩
            rw [← hpw] at hp1 hp2 h2p hadd
            clear hpw
            obtain ⟨v1, hv1e⟩ : ∃ v1, v1 = chV t L (j + 1) := ⟨_, rfl⟩
            have HV1 : Hid (Value.int IntKind.i64 (v1 : Int) = Value.int IntKind.i64 ((chV t L (j + 1) : Nat) : Int)) := hid (by rw [hv1e])
            rw [← hv1e] at hv1 hadd HNA HALV
            clear hv1e
            generalize chV t L j = v0 at *
            obtain ⟨mj, hmj⟩ : ∃ mj, mj = M - j := ⟨_, rfl⟩
            rw [← hmj] at hop hap hMj HLN ⊢
            have hmj0 : 0 < mj := by omega
            clear hmj
            go_wp2_with (at_builtin; refine wpList_appi wr _ _ 22 rfl rfl Try.underlying22 Try.info3 w1.heap.size _ _ rfl hch rfl hl2 hsz ?_; intro g3 c3 w4 hown1 hgr1 hgr2 hgr3)
            have hb4 := hch.grown hbw hgr1 hsz
            have HX4 := hid (And.intro (hown1.cast HNA.out) hb4)
            have hw4 := hb4.size
            clear hown1 hgr1 hgr2 hgr3 hch hbw hop hap hb4
            go_wp2_with fail
            refine (HALV.out w4).mono ?_
            rintro e w5 ⟨⟨u5, rfl, hu5⟩, hb5⟩
            obtain ⟨a5, c5, rfl⟩ := hu5.len
            rw [HLN.out] at hu5 ⊢
            have hap5 := Apart.fresh HX4.out.1 hu5
            have HY5 := hid (And.intro (HX4.out.1.below hb5) (And.intro (hu5.mono (show w.heap.size ≤ w4.heap.size by have := HY.out.2.size; omega)) (And.intro hap5 (HX4.out.2.trans (hb5.mono hw4)))))
            clear hu5 hb5 hap5
            go_wp2
            go_roundw
            case rel => exact ⟨j + 1, by omega, HV1.out, HY5.out.1, HY5.out.2.1, HY5.out.2.2.1, HY5.out.2.2.2⟩
            case measure => simp [lenW] <;> omega
          · obtain rfl : j = M := by omega
            have hd0 : L.drop j = [] := List.drop_eq_nil_of_le (by rw [← HM.out]; exact Nat.le_refl _)
            rw [hd0] at hop
            obtain ⟨a5, c5, rfl⟩ := hop.len
            have hnz : (natA []).length = 0 := rfl
            rw [hnz] at hop hap ⊢
            have hol := HY.out.1.below hbw
            have hbq := HY.out.2.trans (hbw.mono HY.out.2.size)
            obtain ⟨qa, qc, hqe⟩ := hch.len
            rw [natA_len, HCHL.out] at hqe
            subst hqe
            have HQ := hid hch
            obtain ⟨vs, o1, o2, o3, o4⟩ := hol
            have hvs : vs.length ≤ 1000000000000 := by
              have := HCL.out t
              rw [List.length_map] at o3
              omega
            have HO2 := hid o2
            have HO3 := hid o3
            have HO4 := hid o4
            have hB : w.heap.size ≤ wr.heap.size := hbq.size
            have HB := hid hbq
            have HW1 := hid (Nat.le_trans HX.out.2.size HSZ.out)
            clear hch hbw hbq o2 o3 o4 hop hap hd0
            go_wp2_with (at_builtin; refine wpList_app wr _ _ 41 22 (.slice none 0 0) 24 rfl rfl Try.underlying41 Try.info22 rfl (by decide) w.heap.size _ vs rfl o1 rfl rfl hvs hB ?_; intro g3 c3 w4 hown1 hg1 hg2 hg3)
            have hol2 := OL.snoc o1 HO2.out HO3.out HO4.out HQ.out HW1.out hown1 hg1
            have HEND := hid (And.intro hol2 (HB.out.grown hg1 hB (fun b e => (o1.lt b e).1)))
            clear hol2 hown1 hg1 hg2 hg3 o1
            go_roundw
            case rel => exact ⟨t + 1, by omega, by go_num, by rw [HE.out, List.map_append]; exact HEND.out.1, HEND.out.2⟩
            case measure => simp [intOf] <;> omega
    · obtain rfl : t = P := by omega
      have HX := hid (And.intro hol hb)
      clear hol hb
      go_wp2
      go_ret2
      exact ⟨⟨_, rfl, HX.out.1⟩, HX.out.2⟩
end Go.Proofs.Ytdbfmjlnalaobaa
