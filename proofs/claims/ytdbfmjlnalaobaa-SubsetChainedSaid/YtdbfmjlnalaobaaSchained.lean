/-
  The walk over the law SubsetChained. No condition.
-/
import Derived.Test.YtdbfmjlnalaobaaChainP
import Derived.Test.YtdbfmjlnalaobaaSfact
import Derived.Test.YtdbfmjlnalaobaaShad
import Derived.BigQuiet
namespace Go.Proofs.Ytdbfmjlnalaobaa
set_option linter.unusedVariables false
open Go.RowKit

theorem natA_getD (L : List Nat) (j : Nat) (h : j < L.length) : (natA L).getD j 0 = ((L.getD j 0 : Nat) : Int) := by simp [natA, List.getD_eq_getElem?_getD, h]
theorem mapA_getD (LL : List (List Nat)) (i : Nat) (h : i < LL.length) : (LL.map natA).getD i [] = natA (LL.getD i []) := by simp [List.getD_eq_getElem?_getD, h]

theorem subsetChained_bad (n : Int) (w : World) (h : n < 0 ∨ 10 < n) :
    Calls Try.prog 8 #[.int .i64 n] w fun e w' => e = .returned (.bool true) ∧ Below w.heap.size w w' := by
  have HFA := hid (fact_any w)
  have HC := hid (fun w1 => Chains_bad n w1 h)
  clear h
  go_enter Try.func8, Try.ntmps8
  go_wp2_with fail
  refine HFA.out.mono ?_
  rintro e w1 ⟨rfl, hb1⟩
  have B1 := hid hb1
  clear hb1
  go_wp2_with fail
  refine (HC.out _).mono ?_
  rintro e w2 ⟨rfl, hb2⟩
  have B2 := hid (B1.out.trans (hb2.mono B1.out.size))
  clear hb2
  go_wp2
  go_ret
  exact ⟨rfl, B2.out⟩

set_option maxHeartbeats 2000000 in
set_option maxRecDepth 100000 in
theorem subsetChained_ok (n : Nat) (w : World) (hn : n ≤ 10) :
    Calls Try.prog 8 #[.int .i64 n] w fun e w' => e = .returned (.bool true) ∧ Below w.heap.size w w' := by
  have HFA := hid (fact_any w)
  have HC := hid (fun w1 => Chains_ok n w1 hn)
  have OK := chains_ok hn
  have HW := hid (fun w1 => Ways_ok n (n / 2) w1 (by omega) (by omega))
  have hlb := bin_pos n (n / 2) (by omega)
  have hbb := bin61 n (n / 2) (by omega)
  have h2n : (2 : Int) ^ n = ((2 ^ n : Nat) : Int) := by simp
  have hP1 : 1 ≤ 2 ^ n := Nat.pos_of_ne_zero (by simp)
  have hP2 : 2 ^ n ≤ 1024 := Nat.le_trans (Nat.pow_le_pow_right (n := 2) (by omega) hn) (by decide)
  have hlen := chains_len n (2 ^ n)
  obtain ⟨P, hP⟩ : ∃ P, P = 2 ^ n := ⟨_, rfl⟩
  rw [← hP] at HC OK h2n hP1 hP2 hlen
  obtain ⟨LL, hLL⟩ : ∃ LL, LL = chainsF n P := ⟨_, rfl⟩
  rw [← hLL] at HC OK hlen
  have HNE := hid OK.ne
  have HLT := hid (fun i j hi hj => (show (LL.getD i []).getD j 0 < P by rw [hP]; exact OK.lt i j hi hj))
  have HNEW := hid OK.new
  have HUP := hid OK.up
  have HEND := hid OK.ends
  have HALL : Hid (LL.flatten.length = P) := hid (by rw [hP]; exact OK.all)
  have hmany := OK.many
  rw [← hmany] at HW hlb
  have hnd : (n : Int).tdiv 2 = ((n / 2 : Nat) : Int) := (Int.ofNat_tdiv n 2).symm
  clear hbb OK hLL hP hmany
  obtain ⟨K, hK⟩ : ∃ K, K = LL.length := ⟨_, rfl⟩
  rw [← hK] at HNE HLT HNEW HUP HEND HW hlb hlen
  have HK := hid hK
  have HPZ := hid (pre_zero LL)
  have HPS := hid (fun i j hj => pre_snoc (LL := LL) (i := i) (j := j) hj)
  have HPR := hid (fun i (hi : i < K) => pre_row (LL := LL) (i := i) (by rw [← hK]; exact hi))
  have HPA : Hid (preC LL K 0 = LL.flatten) := hid (by rw [hK]; exact pre_all LL)
  have HMG := hid (fun i (hi : i < K) => mapA_getD LL i (by rw [← hK]; exact hi))
  have HPL : Hid (∀ i j, i < K → j ≤ (LL.getD i []).length → (preC LL i j).length ≤ P) := hid (fun i j hi hj => by
    rw [← HALL.out]
    by_cases e : j < (LL.getD i []).length
    · obtain ⟨r, hr⟩ := pre_split (LL := LL) (i := i) (j := j) (by rw [← hK]; exact hi) e
      rw [hr, List.length_append]
      omega
    · have e2 : j = (LL.getD i []).length := by omega
      have h0 := HNE.out i hi
      obtain ⟨r, hr⟩ := pre_split (LL := LL) (i := i) (j := j - 1) (by rw [← hK]; exact hi) (by omega)
      have h1 := HPS.out i (j - 1) (by omega)
      rw [show j - 1 + 1 = j by omega] at h1
      rw [h1, hr, List.length_append, List.length_append]
      simp)
  clear hK
  go_enter Try.func8, Try.ntmps8
  go_wp2_with fail
  refine HFA.out.mono ?_
  rintro e w1 ⟨rfl, hb1⟩
  have B1 := hid hb1
  clear hb1
  go_wp2_with fail
  refine (HC.out _).mono ?_
  rintro e w2 ⟨⟨u, rfl, hol⟩, hb2⟩
  have B2 := hid (B1.out.trans (hb2.mono B1.out.size))
  clear hb2
  obtain ⟨g, c, rfl, hg1, hg2⟩ := hol.form (by rw [List.length_map, ← HK.out]; omega)
  rw [List.length_map, ← HK.out] at hol ⊢
  have HOL := hid hol
  clear hol hg1
  go_wp2_with (at_make; refine wpList_mk (w := w2) _ _ 49 4 (.bool false) 1 rfl rfl Try.underlying49 Try.info4 rfl (by decide) w2.heap.size _ P rfl rfl rfl (by omega) (Nat.le_refl _) ?_; intro w6 hs6 hgr6 hz6)
  have hs0 : Ow 4 w2.heap.size w6 (.slice (some ⟨w2.heap.size, 0, none⟩) P P) (boolS P (fun x => (preC LL 0 0).contains x)) := by
    rw [HPZ.out, show (fun x => ([] : List Nat).contains x) = fun _ => false by funext x; rfl, boolS_none]
    exact hs6
  have HS0 := hid (And.intro hs0 ((Below.refl w2.heap.size w2).grown hgr6 (Nat.le_refl _) (fun k h => by cases h)))
  clear hs0 hs6 hgr6 hz6
  go_loopw [7, 8] (fun m i wr => ∃ k : Nat, k ≤ K ∧ i = .int .i64 k ∧ m = .int .i64 ((preC LL k 0).length : Nat) ∧ Ow 4 w2.heap.size wr (.slice (some ⟨w2.heap.size, 0, none⟩) P P) (boolS P (fun x => (preC LL k 0).contains x)) ∧ Below w2.heap.size w2 wr) (fun _ i _ => K - (intOf i).toNat)
  case atStart => exact ⟨0, Nat.zero_le _, rfl, by rw [HPZ.out]; rfl, HS0.out.1, HS0.out.2⟩
  case round =>
    obtain ⟨k, hk, rfl, rfl, hse, hbw⟩ := hrel
    clear HS0
    by_cases hlt : k < K
    · obtain ⟨uk, hck, hok⟩ := HOL.out.get k (by rw [List.length_map, ← HK.out]; exact hlt)
      rw [HMG.out k hlt] at hok
      have hn0 := HNE.out k hlt
      obtain ⟨gk, ck, rfl, hk1, hk2⟩ := hok.form (by rw [natA_len]; exact hn0)
      rw [natA_len] at hok hck
      have HLTK := hid (fun j hj => HLT.out k j hlt hj)
      have HNEWK := hid (fun j hj => HNEW.out k j hlt hj)
      have HUPK := hid (fun j hj => HUP.out k j hlt hj)
      have HENDK := hid (HEND.out k hlt)
      have HPSK := hid (HPS.out k)
      have HPRK := hid (HPR.out k hlt)
      have HPLK := hid (fun j hj => HPL.out k j hlt hj)
      have HCO := hid (fun (wq : World) (hb : Below w2.heap.size w2 wq) => (hb.cell (p := ⟨g, k, none⟩) hg2).trans hck)
      have HCI := hid (fun (wq : World) (hb : Below w2.heap.size w2 wq) (j : Nat) (hj : j < (LL.getD k []).length) => (show wq.cell? ⟨gk, j, none⟩ = some (.int .i64 (((LL.getD k []).getD j 0 : Nat) : Int)) from by
        rw [(hok.below hb).cell j (by rw [natA_len]; exact hj), natA_getD _ _ hj]))
      have hcok := hok.cap
      have hMb : (LL.getD k []).length ≤ P := by
        have h := HPL.out k _ hlt (Nat.le_refl _)
        unfold preC at h
        rw [List.length_append, List.take_length] at h
        omega
      have HX := hid (And.intro hse hbw)
      clear hok hck hse hbw
      generalize LL.getD k [] = Li at *
      obtain ⟨M, hM⟩ : ∃ M, M = Li.length := ⟨_, rfl⟩
      rw [← hM] at hn0 HLTK HNEWK HUPK HENDK HPSK HPRK HPLK HCO HCI hcok hMb
      have hMp := HPLK.out 0 (Nat.zero_le _)
      have HML := hid hM
      clear hM
      have hc0 := HCO.out wr HX.out.2
      have hn0' : ((M : Int) == 0) = false := by simp; omega
      have HTH := hid (fun (s : Nat) (w : World) (hs : s < 8192) => things_ok s w hs)
      go_wp2
      clear hc0
      go_loopw [7, 9] (fun m i wq => ∃ j : Nat, j ≤ M ∧ i = .int .i64 j ∧ m = .int .i64 ((preC LL k j).length : Nat) ∧ Ow 4 w2.heap.size wq (.slice (some ⟨w2.heap.size, 0, none⟩) P P) (boolS P (fun x => (preC LL k j).contains x)) ∧ Below w2.heap.size w2 wq) (fun _ i _ => M - (intOf i).toNat)
      case atStart => exact ⟨0, Nat.zero_le _, rfl, rfl, HX.out.1, HX.out.2⟩
      case round =>
        obtain ⟨j, hj, rfl, rfl, hse, hbw⟩ := hrel
        clear HX
        have hc0 := HCO.out _ hbw
        by_cases hjM : j < M
        · have hc1 := HCI.out _ hbw j hjM
          have HCW := hid (fun i (hi : i < M) => HCI.out _ hbw i hi)
          have hx := HLTK.out j hjM
          have hnew := HNEWK.out j hjM
          have hps := HPSK.out j hjM
          have hpl := HPLK.out j hj
          have hcell := hse.cell (Li.getD j 0) (by rw [boolS_len]; exact hx)
          rw [boolS_get hx, hnew] at hcell
          have hfz := hse.frozen (Li.getD j 0)
          obtain ⟨hs, hg⟩ := hse.stored (Li.getD j 0) (.bool true)
          rw [boolS_set hx] at hs
          have hb2 := hbw.grown hg hbw.size (fun b e => by cases e; exact Nat.le_refl _)
          have HSET : Hid ((fun x => x == Li.getD j 0 || (preC LL k j).contains x) = fun x => (preC LL k (j + 1)).contains x) := hid (by
            funext x
            rw [hps, List.contains_eq_mem, List.contains_eq_mem, Bool.eq_iff_iff]
            simp
            exact Or.comm)
          rw [HSET.out] at hs
          have HPLL : Hid (((preC LL k (j + 1)).length : Int) = ((preC LL k j).length : Int) + 1) := hid (by rw [hps, List.length_append]; simp)
          have hc0' := HCO.out _ hb2
          have HY := hid (And.intro hs hb2)
          have hpi : 0 ≤ ((preC LL k j).length : Int) ∧ ((preC LL k j).length : Int) ≤ 1024 := by omega
          clear hse hbw hs hg hnew hps hb2
          by_cases hj0 : 0 < j
          · obtain ⟨i, rfl⟩ : ∃ i, j = i + 1 := ⟨j - 1, by omega⟩
            have hc2' := HCW.out i (by omega)
            have hne1 : ¬ gk = w2.heap.size := by omega
            have hne2 : ¬ w2.heap.size = gk := by omega
            have hne3 : ¬ g = w2.heap.size := by omega
            have hne4 : ¬ w2.heap.size = g := by omega
            clear HCW
            obtain ⟨hu1, hu2⟩ := HUPK.out i hjM
            have hy := HLTK.out i (by omega)
            have hT1 := HTH.out (Li.getD (i + 1) 0) (wr.setCell ⟨w2.heap.size, Li.getD (i + 1) 0, none⟩ (.bool true)) (by omega)
            have hT2 := HTH.out (Li.getD i 0) (wr.setCell ⟨w2.heap.size, Li.getD (i + 1) 0, none⟩ (.bool true)) (by omega)
            have han := and_i64 (Li.getD (i + 1) 0) (Li.getD i 0) (by omega) (by omega)
            rw [hu1] at han
            rw [hu2] at hT1
            have hpb : pop (Li.getD i 0) ≤ 13 := popF_le 13 _
            have HT1 := hid hT1
            have HT2 := hid hT2
            clear hT1 hT2 hu1 hu2
            generalize pop (Li.getD i 0) = py at *
            have HLI := hid (rfl : Li.getD (i + 1) 0 = Li.getD (i + 1) 0)
            clear HLI
            generalize Li.getD (i + 1) 0 = X at *
            generalize Li.getD i 0 = Y at *
            go_wp2_with fail
            refine HT1.out.mono ?_
            rintro e w7 ⟨rfl, rfl⟩
            go_wp2_with fail
            refine HT2.out.mono ?_
            rintro e w7 ⟨rfl, rfl⟩
            go_wp2
            go_roundw
            case rel => exact ⟨i + 1 + 1, by omega, by go_num, by rw [HPLL.out], HY.out.1, HY.out.2⟩
            case measure => simp [intOf] <;> omega
          · obtain rfl : j = 0 := by omega
            generalize Li.getD 0 0 = X at *
            go_wp2
            go_roundw
            case rel => exact ⟨0 + 1, by omega, by go_num, by rw [HPLL.out], HY.out.1, HY.out.2⟩
            case measure => simp [intOf] <;> omega
        · obtain rfl : j = M := by omega
          have hpr := HPRK.out
          rw [hpr] at hse ⊢
          have hcA := HCI.out _ hbw 0 hn0
          have hcB := HCI.out _ hbw (j - 1) (by omega)
          have hxA := HLTK.out 0 hn0
          have hxB := HLTK.out (j - 1) (by omega)
          have hT1 := HTH.out (Li.getD 0 0) wr (by omega)
          have hT2 := fun q => (HTH.out (Li.getD (j - 1) 0) (wr.drewN q) (by omega)).mono fun e w' (h : e = _ ∧ _ = w') => (show e = _ ∧ w' = wr.drewN q from ⟨h.1, h.2.symm⟩)
          have HT1 := hid hT1
          have HT2 := hid hT2
          have hend := HENDK.out
          have hpA : pop (Li.getD 0 0) ≤ 13 := popF_le 13 _
          have hpB : pop (Li.getD (j - 1) 0) ≤ 13 := popF_le 13 _
          have hsum : (pop (Li.getD 0 0) : Int) + (pop (Li.getD (j - 1) 0) : Int) = (n : Int) := by omega
          have hnn : ((n : Int) != (n : Int)) = false := by simp
          obtain ⟨j1, hj1⟩ : ∃ j1, j1 = j - 1 := ⟨_, rfl⟩
          rw [← hj1] at hcB hxB HT2 hsum hpB
          have hjm : (j : Int) - 1 = (j1 : Int) := by omega
          have hjlt : (j1 : Int) < (j : Int) := by omega
          have hjlt2 : j1 < j := by omega
          have HZ := hid (And.intro hse hbw)
          clear hT1 hT2 hend hse hbw hj1
          generalize pop (Li.getD 0 0) = pA at *
          generalize pop (Li.getD j1 0) = pB at *
          generalize Li.getD 0 0 = X at *
          generalize Li.getD j1 0 = Y at *
          go_wp2_with fail
          refine HT1.out.mono ?_
          rintro e w7 ⟨rfl, rfl⟩
          go_wp2_with fail
          go_quiet ((go_at_call 34; exact Calls.quiet_of_same (HT2.out _)))
          go_wp2
          go_roundw
          case rel => exact ⟨k + 1, by omega, by go_num, by trivial, HZ.out.1, below_drewN HZ.out.2 nq⟩
          case measure => simp [intOf] <;> omega
    · obtain rfl : k = K := by omega
      rw [HPA.out, HALL.out]
      have HZ := hid (B2.out.trans (hbw.mono B2.out.size))
      have HWW := hid (HW.out wr)
      have hPP : ((P : Int) == (P : Int)) = true := by simp
      have hKK : ((k : Int) == (k : Int)) = true := by simp
      clear hse hbw
      go_wp2_with fail
      refine HWW.out.mono ?_
      rintro e w7 ⟨rfl, hb7⟩
      have HZ7 := hid (HZ.out.trans (hb7.mono HZ.out.size))
      clear hb7
      go_wp2
      go_ret
      exact ⟨rfl, HZ7.out⟩
theorem subsetChained_walk (w : World) (n : Int) (_ : I64 n) :
    Calls Try.prog 8 #[.int .i64 n] w fun e w' => e = .returned (.bool true) ∧ Below w.heap.size w w' := by
  by_cases h : n < 0 ∨ 10 < n
  · exact subsetChained_bad n w h
  · obtain ⟨m, rfl⟩ : ∃ m : Nat, n = (m : Int) := ⟨n.toNat, by omega⟩
    exact subsetChained_ok m w (by omega)
end Go.Proofs.Ytdbfmjlnalaobaa
