/-
  The walk over parterreref4.StarterFault. Condition: the slices can be read.
-/
import Derived.Test.YtlcndccjlbahpaaRstart
import Derived.Test.YtlcndccjlbahpaaLies
import Derived.Test.YtlcndccjlbahpaaApp2
import Derived.Deep.RegionLaw
namespace Go.Proofs.Ytlcndccjlbahpaa
set_option linter.unusedVariables false
open Go.RowKit

theorem mem_nat {S : List Nat} {x : Nat} : ((x : Int) ∈ S.map fun y : Nat => (y : Int)) ↔ x ∈ S := by
  constructor
  · intro h
    obtain ⟨y, hy, e⟩ := List.mem_map.1 h
    have : y = x := by omega
    rw [← this]; exact hy
  · intro h
    exact List.mem_map.2 ⟨x, h, rfl⟩
def nI (S : List Nat) : List Int := S.map fun y : Nat => (y : Int)
theorem nI_len (S : List Nat) : (nI S).length = S.length := by simp [nI]
theorem nI_two (p : Nat → Nat × Nat) (k : Nat) : nI (alR p (k + 1)) = nI (alR p k) ++ [((p k).1 : Int), ((p k).2 : Int)] := by simp [nI, alR]
theorem cov_no {v x : Nat} {S T : List Nat} (h1 : 1 ≤ x) (h2 : x < v) (h : (x ∈ S ∧ x ∈ T) → False) : (covB v S && covB v T) = false := by
  rw [Bool.eq_false_iff]
  intro hc
  rw [Bool.and_eq_true] at hc
  exact h ⟨cov_iff.1 hc.1 x h1 h2, cov_iff.1 hc.2 x h1 h2⟩
theorem cov_yes {v : Nat} {S T : List Nat} (h : ∀ x, 1 ≤ x → x < v → x ∈ S ∧ x ∈ T) : (covB v S && covB v T) = true := by
  rw [Bool.and_eq_true]
  exact ⟨cov_iff.2 fun x h1 h2 => (h x h1 h2).1, cov_iff.2 fun x h1 h2 => (h x h1 h2).2⟩

set_option maxHeartbeats 1000000 in
set_option maxRecDepth 100000 in
theorem StarterFault_ok (v : Nat) (u : Value) (ll : List (List Int)) (w : World) (ht : tvB v = true) (hl : RL w u ll) (hln : ll.length = (v - 1) / 2) (hb : ∀ l ∈ ll, ∀ x ∈ l, I64 x) :
    Calls Try.prog 11 #[.int .i64 v, u] w fun e w' => e = .returned (.int .i64 (stE v ll)) ∧ Below w.heap.size w w' := by
  obtain ⟨m, hm, h3, h15, hodd⟩ := tv_of ht
  obtain rfl : v = m := by omega
  have hmd : (v : Int).tmod 2 = 1 := by rw [Int.tmod_eq_emod_of_nonneg (by omega)]; omega
  have HER := hid (fun k h3 hk h4 => st_err (v := v) (ll := ll) (k := k) ht hln h3 hk h4)
  have HEN := hid (fun h3 => st_end (v := v) (ll := ll) ht hln h3)
  have hvN : v = 2 * ll.length + 1 := by omega
  have HVN := hid hvN
  rw [Int.toNat_natCast] at HER HEN
  obtain ⟨a, c, N, rfl, hN, hl1, hl2⟩ := hl.open
  rw [hN.out] at HER HEN HVN
  have hdv : ((v : Int) - 1).tdiv 2 = (N : Int) := by
    rw [← hN.out, hln, show (v : Int) - 1 = ((v - 1 : Nat) : Int) by omega]
    exact (Int.ofNat_tdiv (v - 1) 2).symm
  have HBL : Hid (∀ i, i < N → ∀ x ∈ ll.getD i [], I64 x) := hid (fun i hi => hb _ (by
    rw [List.getD_eq_getElem?_getD, List.getElem?_eq_getElem (by rw [hN.out]; exact hi)]
    exact List.getElem_mem _))
  have HK0 : Hid (∀ q, nI (alR q 0) = []) := hid fun q => rfl
  have HK1 := hid nI_two
  clear hl hln hb hodd ht hvN
  have hN8 : N ≤ 7 := by have := HVN.out; omega
  have h3' : ¬ (v : Int) < 3 := by omega
  have h16' : ¬ (15 : Int) < (v : Int) := by omega
  generalize hE : stE (v : Int) ll = E
  have HE := hid hE
  rw [hE] at HER HEN
  clear hE hl1
  obtain ⟨p, hp⟩ : ∃ p, p = pz ll := ⟨_, rfl⟩
  have HPE : Hid (∀ j, p j = (((ll.getD j [])[0]?.getD 0).toNat, ((ll.getD j [])[1]?.getD 0).toNat)) := hid (fun j => by rw [hp]; rfl)
  rw [← hp] at HEN
  clear hp
  go_enter Try.func11, Try.ntmps11
  go_wp2
  go_loopw [5, 6, 7, 8, 9] (fun s t i _ _ wr => ∃ k : Nat, k ≤ N ∧ i = .int .i64 k ∧ Hid (∀ j, j < k → prE v (ll.getD j []) = 0) ∧ OI w.heap.size wr s (nI (alR p k)) ∧ OI w.heap.size wr t (nI (alR (dq v p) k)) ∧ Apart s t ∧ Below w.heap.size w wr) (fun _ _ i _ _ _ => N - (intOf i).toNat)
  case atStart => exact ⟨0, Nat.zero_le _, rfl, hid (fun j hj => by omega), by rw [HK0.out]; exact Ow.nil _ _ _, by rw [HK0.out]; exact Ow.nil _ _ _, Apart.nil _, Below.refl _ _⟩
  case round =>
    obtain ⟨k, hk, rfl, hz, ho1, ho2, hap, hbw⟩ := hrel
    by_cases hlt : k < N
    · obtain ⟨g, off, rfl, hg, hc⟩ := hl2 (by omega)
      obtain ⟨u1, c1, s1⟩ := hc k hlt
      have c1 := (hbw.cell (p := ⟨g, off + k, none⟩) hg).trans c1
      obtain ⟨a1, cp1, N1, rfl, hN1, hl1', hl2'⟩ := s1.open
      have HERK := hid (HER.out k hz.out hlt)
      have hpk := HPE.out k
      have HBLK := hid (HBL.out k hlt)
      have HBW := hid hbw
      have HMM := hid (And.intro ho1 (And.intro ho2 hap))
      have HNX : Hid (prE v (ll.getD k []) = 0 → ∀ j, j < k + 1 → prE v (ll.getD j []) = 0) := hid (fun h j hj => by
        by_cases e : j = k
        · rw [e]; exact h
        · exact hz.out j (by omega))
      have hlA : (nI (alR p k)).length ≤ 1000000000000 := by rw [nI_len, al_len]; omega
      have hlB : (nI (alR (dq v p) k)).length ≤ 1000000000000 := by rw [nI_len, al_len]; omega
      clear hc s1 hl2 ho1 ho2 hap hz
      by_cases hn2 : N1 = 2
      · subst hn2
        obtain ⟨b, off2, rfl, hb2, hc2⟩ := hl2' (by omega)
        have c2 := (hbw.cell (p := ⟨b, off2 + 0, none⟩) hb2).trans (hc2 0 (by omega))
        have c3 := (hbw.cell (p := ⟨b, off2 + 1, none⟩) hb2).trans (hc2 1 (by omega))
        rw [Nat.add_zero] at c2
        have HOF := hid (fun h => pr_off (v := v) (l := ll.getD k []) hN1.out h)
        have HIN := hid (fun h => pr_in (v := v) (l := ll.getD k []) hN1.out h)
        have hlen2 : (ll.getD k []).length = 2 := hN1.out
        have HI0 : I64 ((ll.getD k [])[0]?.getD 0) := HBLK.out _ (by rw [List.getElem?_eq_getElem (by omega)]; exact List.getElem_mem _)
        have HI1 : I64 ((ll.getD k [])[1]?.getD 0) := HBLK.out _ (by rw [List.getElem?_eq_getElem (by omega)]; exact List.getElem_mem _)
        clear hc2 hl2' hbw HBLK hlen2
        generalize ll.getD k [] = l1 at *
        generalize l1[0]?.getD 0 = x at *
        generalize l1[1]?.getD 0 = y at *
        unfold I64 at HI0 HI1
        by_cases hin : (1 : Int) ≤ x ∧ x < (v : Int) ∧ (1 : Int) ≤ y ∧ y < (v : Int)
        · have hz1 := HIN.out hin
          have HNX2 := hid (HNX.out hz1)
          obtain ⟨i1, i2, i3, i4⟩ := hin
          obtain ⟨X, rfl⟩ : ∃ X : Nat, x = (X : Int) := ⟨x.toNat, by omega⟩
          obtain ⟨Y, rfl⟩ : ∃ Y : Nat, y = (Y : Int) := ⟨y.toNat, by omega⟩
          rw [Int.toNat_natCast, Int.toNat_natCast] at hpk
          have HPK := hid hpk
          have t1 : ¬ (X : Int) < 1 := by omega
          have t2 : ¬ (v : Int) ≤ (X : Int) := by omega
          have t3 : ¬ (Y : Int) < 1 := by omega
          have t4 : ¬ (v : Int) ≤ (Y : Int) := by omega
          have q1 := df_mod (v := v) (X := X) (Y := Y) (by omega)
          have q2 := df_mod (v := v) (X := Y) (Y := X) (by omega)
          have HDQ : Hid (dq v p k = ((X + v - Y) % v, (Y + v - X) % v)) := hid (by unfold dq; rw [HPK.out])
          have l1 : (X + v - Y) % v < v := Nat.mod_lt _ (by omega)
          have l2 : (Y + v - X) % v < v := Nat.mod_lt _ (by omega)
          have HK1A := hid (HK1.out p k)
          have HK1B := hid (HK1.out (dq v p) k)
          rw [HPK.out] at HK1A
          rw [HDQ.out] at HK1B
          generalize (X + v - Y) % v = A at *
          generalize (Y + v - X) % v = C at *
          have hszw : w.heap.size ≤ wr.heap.size := HBW.out.size
          obtain ⟨ho1, HO2⟩ := HMM.out
          have HO2 := hid HO2
          clear hpk hz1 HIN HOF HNX HERK HI0 HI1 HMM
          go_wp2_with (at_builtin; refine wpList_appi2 (x := X) (y := Y) wr _ _ 38 rfl rfl Try.underlying38 Try.info3 w.heap.size u5 (nI (alR p k)) rfl ho1 rfl hlA hszw ?_; intro g3 c5 w4 hown1 hgr1 hgr2 hgr3)
          have ho2 := HO2.out.1.keptA ho1 hgr1 HO2.out.2
          have hap2 : Apart (.slice (some ⟨g3, 0, none⟩) ((nI (alR p k)).length + 2) c5) u6 := HO2.out.2.app HO2.out.1 (fun g hg => by
            simp only [Value.ownBlock, Option.some.injEq] at hg
            rcases hgr2 with h | h
            · left; rw [h, hg]
            · right; omega)
          have HB4 := hid (ho1.grown HBW.out hgr1 hszw)
          have HOW := hid hown1
          have HAP := hid hap2
          have hsz4 : w.heap.size ≤ w4.heap.size := HB4.out.size
          have HG3 := hid hgr3
          clear ho1 hown1 hgr1 hgr2 hgr3 hap2 c1 c2 c3
          have hvz : ¬ v = 0 := by omega
          have w1 : IntKind.i64.wrap ((X : Int) - (Y : Int)) = (X : Int) - (Y : Int) := IntWalk.i64_in _ (by omega)
          have w2 : IntKind.i64.wrap ((X : Int) - (Y : Int) + (v : Int)) = (X : Int) - (Y : Int) + (v : Int) := IntWalk.i64_in _ (by omega)
          have w3 : IntKind.i64.wrap ((Y : Int) - (X : Int)) = (Y : Int) - (X : Int) := IntWalk.i64_in _ (by omega)
          have w5 : IntKind.i64.wrap ((Y : Int) - (X : Int) + (v : Int)) = (Y : Int) - (X : Int) + (v : Int) := IntWalk.i64_in _ (by omega)
          clear hmd hdv
          go_region_law (refine step_appi2 (x := A) (y := C) w4 _ _ 38 rfl rfl Try.underlying38 Try.info3 w.heap.size u6 (nI (alR (dq v p) k)) rfl ho2 rfl hlB hsz4 ?_; intro g5 c6 w5 hown2 hgr4 hgr5 hgr6)
          have HX2 := hid (hown2.cast HK1B.out.symm)
          have ho12 := HOW.out.keptA ho2 hgr4 (fun g hg h => HAP.out g h hg)
          have ha3 : Apart (.slice (some ⟨g3, 0, none⟩) ((nI (alR p k)).length + 2) c5) (.slice (some ⟨g5, 0, none⟩) ((nI (alR (dq v p) k)).length + 2) c6) := by
            intro g hg hg2
            simp only [Value.ownBlock, Option.some.injEq] at hg hg2
            subst hg
            subst hg2
            rcases hgr5 with h | h
            · exact HAP.out _ rfl h
            · have := HG3.out; omega
          have HX := hid (And.intro (ho12.cast HK1A.out.symm) (And.intro HX2.out (And.intro ha3 (ho2.grown HB4.out hgr4 hsz4))))
          clear HX2 hown2 hgr4 hgr5 hgr6 ho12 ha3 ho2
          go_wp2
          go_roundw
          case rel => exact ⟨k + 1, by omega, by go_num, HNX2, HX.out.1, HX.out.2.1, HX.out.2.2.1, HX.out.2.2.2⟩
          case measure => simp [intOf] <;> omega
        · have hE1 := HOF.out hin
          have HE1 := hid ((HERK.out (by rw [hE1]; decide)).trans hE1)
          clear HIN HOF HNX HERK hpk hE1
          rcases Classical.em ((1 : Int) ≤ x) with i1 | i1
          · rcases Classical.em (x < (v : Int)) with i2 | i2
            · rcases Classical.em ((1 : Int) ≤ y) with i3 | i3
              · have i4 : ¬ y < (v : Int) := fun h => hin ⟨i1, i2, i3, h⟩
                have t1 : ¬ x < 1 := by omega
                have t2 : ¬ (v : Int) ≤ x := by omega
                have t3 : ¬ y < 1 := by omega
                have t4 : (v : Int) ≤ y := by omega
                clear hin i1 i2 i3 i4
                go_wp2
                go_ret
                exact ⟨by rw [HE1.out]; rfl, HBW.out⟩
              · have t1 : ¬ x < 1 := by omega
                have t2 : ¬ (v : Int) ≤ x := by omega
                have t3 : y < 1 := by omega
                clear hin i1 i2 i3
                go_wp2
                go_ret
                exact ⟨by rw [HE1.out]; rfl, HBW.out⟩
            · have t1 : ¬ x < 1 := by omega
              have t2 : (v : Int) ≤ x := by omega
              clear hin i1 i2
              go_wp2
              go_ret
              exact ⟨by rw [HE1.out]; rfl, HBW.out⟩
          · have t1 : x < 1 := by omega
            clear hin i1
            go_wp2
            go_ret
            exact ⟨by rw [HE1.out]; rfl, HBW.out⟩
      · have hE1 := pr_len (v := v) (l := ll.getD k []) (by rw [hN1.out]; exact hn2)
        have HE1 := hid ((HERK.out (by rw [hE1]; decide)).trans hE1)
        have hq : ((N1 : Int) != 2) = true := by simp; omega
        clear hl2' hpk HNX HERK hE1 hn2 hbw hmd hdv
        go_wp2
        go_ret
        exact ⟨by rw [HE1.out]; rfl, HBW.out⟩
    · obtain rfl : k = N := by omega
      have hEN := HEN.out hz.out
      have HO := hid (And.intro (ho1.sl (by rw [nI_len, al_len]; omega)) (And.intro (ho2.sl (by rw [nI_len, al_len]; omega)) hbw))
      clear hl2 hbw ho1 ho2 hz hap
      generalize hA : alR p k = LA at *
      generalize hB : alR (dq v p) k = LB at *
      have HL1 := hid (fun (x : Int) (w1 : World) (h : Below wr.heap.size wr w1) => lies_any u5 (nI LA) x w1 (HO.out.1.below h))
      have HL2 := hid (fun (x : Int) (w1 : World) (h : Below wr.heap.size wr w1) => lies_any u6 (nI LB) x w1 (HO.out.2.1.below h))
      have HE1 := hid hEN
      clear hEN hA hB
      go_wp2
      go_loopw [10, 11, 12] (fun i _ _ wq => ∃ x : Nat, 1 ≤ x ∧ x ≤ v ∧ i = .int .i64 x ∧ Hid (∀ y, 1 ≤ y → y < x → y ∈ LA ∧ y ∈ LB) ∧ wr = wq) (fun i _ _ _ => v - (intOf i).toNat)
      case atStart => exact ⟨1, by omega, by omega, rfl, hid (fun y h1 h2 => by omega), rfl⟩
      case round =>
        obtain ⟨x, hx1, hxv, rfl, hH, rfl⟩ := hrel
        by_cases hlt2 : x < v
        · have H1 := hid (HL1.out (x : Int) wr (Below.refl _ _))
          have H2 := hid (HL2.out (x : Int) wr (Below.refl _ _))
          have e1 : decide ((x : Int) ∈ nI LA) = decide (x ∈ LA) := decide_eq_decide.2 mem_nat
          have e2 : decide ((x : Int) ∈ nI LB) = decide (x ∈ LB) := decide_eq_decide.2 mem_nat
          rw [e1] at H1
          rw [e2] at H2
          clear e1 e2
          have HNX : Hid (x ∈ LA → x ∈ LB → ∀ y, 1 ≤ y → y < x + 1 → y ∈ LA ∧ y ∈ LB) := hid (fun h1 h2 y h3 h4 => by
            by_cases e : y = x
            · rw [e]; exact ⟨h1, h2⟩
            · exact hH.out y h3 (by omega))
          have HNO := hid (fun h => cov_no (v := v) (x := x) (S := LA) (T := LB) hx1 hlt2 h)
          clear hH
          cases hd1 : decide (x ∈ LA) with
          | false =>
            have HE2 := hid (HE1.out.trans (by rw [HNO.out (fun h => absurd h.1 (of_decide_eq_false hd1))]))
            rw [hd1] at H1
            clear hd1 HNO HNX
            go_wp2_with fail
            refine H1.out.mono ?_
            rintro e w5 ⟨rfl, rfl⟩
            go_wp2_with fail
            refine H2.out.mono ?_
            rintro e w5 ⟨rfl, rfl⟩
            go_wp2
            go_ret
            exact ⟨by rw [HE2.out]; rfl, HO.out.2.2⟩
          | true =>
            cases hd2 : decide (x ∈ LB) with
            | false =>
              have HE2 := hid (HE1.out.trans (by rw [HNO.out (fun h => absurd h.2 (of_decide_eq_false hd2))]))
              rw [hd1] at H1
              rw [hd2] at H2
              clear hd1 hd2 HNO HNX
              go_wp2_with fail
              refine H1.out.mono ?_
              rintro e w5 ⟨rfl, rfl⟩
              go_wp2_with fail
              refine H2.out.mono ?_
              rintro e w5 ⟨rfl, rfl⟩
              go_wp2
              go_ret
              exact ⟨by rw [HE2.out]; rfl, HO.out.2.2⟩
            | true =>
              have HX := hid (HNX.out (of_decide_eq_true hd1) (of_decide_eq_true hd2))
              rw [hd1] at H1
              rw [hd2] at H2
              clear hd1 hd2 HNO HNX
              go_wp2_with fail
              refine H1.out.mono ?_
              rintro e w5 ⟨rfl, rfl⟩
              go_wp2_with fail
              refine H2.out.mono ?_
              rintro e w5 ⟨rfl, rfl⟩
              go_wp2
              go_roundw
              case rel => exact ⟨x + 1, by omega, by omega, by go_num, HX, by trivial⟩
              case measure => simp [intOf] <;> omega
        · obtain rfl : x = v := by omega
          have HE2 := hid (HE1.out.trans (by rw [cov_yes hH.out]))
          clear hH
          go_wp2
          go_ret
          exact ⟨by rw [HE2.out]; rfl, HO.out.2.2⟩
set_option maxHeartbeats 1000000 in
set_option maxRecDepth 100000 in
theorem StarterFault_any (v : Int) (u : Value) (ll : List (List Int)) (w : World) (hv : I64 v) (hl : RL w u ll) (hb : ∀ l ∈ ll, ∀ x ∈ l, I64 x) :
    Calls Try.prog 11 #[.int .i64 v, u] w fun e w' => e = .returned (.int .i64 (stE v ll)) ∧ Below w.heap.size w w' := by
  cases ht : tvB v with
  | false =>
    rw [st_bad ht]
    have hq := tv_no ht
    unfold I64 at hv
    obtain ⟨a, c, N, rfl, hN, hl1, hl2⟩ := hl.open
    clear ht hl hb hl2
    by_cases h1 : v < 3
    · clear hq
      go_enter Try.func11, Try.ntmps11
      go_wp2
      go_ret
      exact ⟨rfl, Below.refl _ _⟩
    · by_cases h2 : 15 < v
      · clear hq
        go_enter Try.func11, Try.ntmps11
        go_wp2
        go_ret
        exact ⟨rfl, Below.refl _ _⟩
      · have h3 : v.tmod 2 = 0 := by
          rw [Int.tmod_eq_emod_of_nonneg (by omega)] at hq ⊢
          omega
        clear hq
        go_enter Try.func11, Try.ntmps11
        go_wp2
        go_ret
        exact ⟨rfl, Below.refl _ _⟩
  | true =>
    obtain ⟨m, rfl, h3, h15, hodd⟩ := tv_of ht
    by_cases hln : ll.length = (m - 1) / 2
    · exact StarterFault_ok m u ll w ht hl hln hb
    · rw [st_shape ht (by rw [Int.toNat_natCast]; exact hln)]
      have hmd : (m : Int).tmod 2 = 1 := by rw [Int.tmod_eq_emod_of_nonneg (by omega)]; omega
      have hdv : ((m : Int) - 1).tdiv 2 = (((m - 1) / 2 : Nat) : Int) := by
        rw [show (m : Int) - 1 = ((m - 1 : Nat) : Int) by omega]
        exact (Int.ofNat_tdiv (m - 1) 2).symm
      obtain ⟨a, c, N, rfl, hN, hl1, hl2⟩ := hl.open
      rw [hN.out] at hln
      have h3' : ¬ (m : Int) < 3 := by omega
      have h16' : ¬ (15 : Int) < (m : Int) := by omega
      have hh7 : (m - 1) / 2 ≤ 7 := by omega
      generalize (m - 1) / 2 = h at *
      have hq : ((N : Int) != (h : Int)) = true := by simp; omega
      clear ht hl hb hl2 hln
      go_enter Try.func11, Try.ntmps11
      go_wp2
      go_ret
      exact ⟨rfl, Below.refl _ _⟩
end Go.Proofs.Ytlcndccjlbahpaa
