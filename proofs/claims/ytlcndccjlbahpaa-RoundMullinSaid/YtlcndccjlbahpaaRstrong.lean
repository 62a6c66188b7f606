/-
  The walks over round.Strong and parterreref4.StrongOf. Condition: the slices can be read.
-/
import Derived.Test.YtlcndccjlbahpaaRstflt
import Derived.Test.YtlcndccjlbahpaaContains
import Derived.Test.YtlcndccjlbahpaaRarnd
namespace Go.Proofs.Ytlcndccjlbahpaa
set_option linter.unusedVariables false
open Go.RowKit

theorem st_zero {v : Int} {ll : List (List Int)} (h : stE v ll = 0) : ∃ m : Nat, v = (m : Int) ∧ 3 ≤ m ∧ m ≤ 15 ∧ m = 2 * ll.length + 1 ∧ (∀ j, j < ll.length → prE m (ll.getD j []) = 0) ∧ covB m (alR (pz ll) ll.length) = true ∧ covB m (alR (dq m (pz ll)) ll.length) = true := by
  unfold stE at h
  by_cases ht : tvB v = true
  · rw [if_pos ht] at h
    obtain ⟨m, rfl, h3, h15, hodd⟩ := tv_of ht
    rw [Int.toNat_natCast] at h
    by_cases hln : ll.length ≠ (m - 1) / 2
    · rw [if_pos hln] at h; exact absurd h (by decide)
    · rw [if_neg hln] at h
      by_cases hf : fpE m ll = 0
      · rw [if_pos hf] at h
        cases hc : covB m (alR (pz ll) ll.length) && covB m (alR (dq m (pz ll)) ll.length) with
        | false => rw [hc] at h; exact absurd h (by decide)
        | true =>
          rw [Bool.and_eq_true] at hc
          exact ⟨m, rfl, h3, h15, by omega, fp_zero hf, hc.1, hc.2⟩
      · rw [if_neg hf] at h; exact absurd h hf
  · rw [if_neg ht] at h; exact absurd h (by decide)
/-- What a right pair holds. -/
theorem pz_spec {v : Nat} {ll : List (List Int)} {j : Nat} (h : prE v (ll.getD j []) = 0) : (ll.getD j []).length = 2 ∧ (ll.getD j [])[0]?.getD 0 = ((pz ll j).1 : Int) ∧ (ll.getD j [])[1]?.getD 0 = ((pz ll j).2 : Int) ∧ 1 ≤ (pz ll j).1 ∧ (pz ll j).1 < v ∧ 1 ≤ (pz ll j).2 ∧ (pz ll j).2 < v := by
  obtain ⟨h1, h2, h3, h4, h5⟩ := pr_zero h
  unfold pz
  exact ⟨h1, by simp only; omega, by simp only; omega, by simp only; omega, by simp only; omega, by simp only; omega, by simp only; omega⟩
def smN (v : Nat) (p : Nat → Nat × Nat) (j : Nat) : Nat := ((p j).1 + (p j).2) % v
def smL (v : Nat) (p : Nat → Nat × Nat) : Nat → List Nat
  | 0 => [0]
  | k + 1 => smL v p k ++ [smN v p k]
def sgB (v : Nat) (p : Nat → Nat × Nat) (N : Nat) : Bool := (List.range N).all fun k => !(decide (smN v p k ∈ smL v p k))
theorem sg_no {v : Nat} {p : Nat → Nat × Nat} {N k : Nat} (hk : k < N) (h : smN v p k ∈ smL v p k) : sgB v p N = false := by
  rw [Bool.eq_false_iff]
  intro hc
  have := List.all_eq_true.1 hc k (List.mem_range.2 hk)
  rw [decide_eq_true h] at this
  cases this
theorem sg_yes {v : Nat} {p : Nat → Nat × Nat} {N : Nat} (h : ∀ k, k < N → smN v p k ∉ smL v p k) : sgB v p N = true :=
  List.all_eq_true.2 fun k hk => by rw [decide_eq_false (h k (List.mem_range.1 hk))]; rfl
theorem smL_len (v : Nat) (p : Nat → Nat × Nat) : ∀ k, (smL v p k).length = k + 1
  | 0 => rfl
  | k + 1 => by simp [smL, smL_len v p k]
theorem nI_one (v : Nat) (p : Nat → Nat × Nat) (k : Nat) : nI (smL v p (k + 1)) = nI (smL v p k) ++ [(smN v p k : Int)] := by simp [nI, smL]

set_option maxHeartbeats 1000000 in
set_option maxRecDepth 100000 in
theorem StrongOf_ok (v : Nat) (u : Value) (ll : List (List Int)) (w : World) (hl : RL w u ll) (hz : stE v ll = 0) :
    Calls Try.prog 15 #[.int .i64 v, u] w fun e w' => e = .returned (.bool (sgB v (pz ll) ll.length)) ∧ Below w.heap.size w w' := by
  obtain ⟨m, hm, h3, h15, hmN, hp, _, _⟩ := st_zero hz
  obtain rfl : v = m := by omega
  have HPZ := hid (fun j hj => pz_spec (v := v) (ll := ll) (j := j) (hp j hj))
  have HNO := hid (fun k hk h => sg_no (v := v) (p := pz ll) (N := ll.length) (k := k) hk h)
  have HYE := hid (fun h => sg_yes (v := v) (p := pz ll) (N := ll.length) h)
  have HSN := hid (nI_one v (pz ll))
  have HSL := hid (smL_len v (pz ll))
  have HS0 : Hid (nI (smL v (pz ll) 0) = [0]) := hid rfl
  have HSM : Hid (∀ k, smN v (pz ll) k = ((pz ll k).1 + (pz ll k).2) % v) := hid fun k => rfl
  obtain ⟨a, c, N, rfl, hN, hl1, hl2⟩ := hl.open
  rw [hN.out] at HPZ HNO HYE hmN
  rw [hN.out]
  generalize sgB v (pz ll) N = G at *
  have hN8 : N ≤ 7 := by clear hl2; omega
  have HL := hid hl2
  have HLIT : Hid (OI w.heap.size (w.alloc (.cells #[.int .i64 0] 3)) (.slice (some ⟨w.heap.size, 0, none⟩) 1 1) [0] ∧ Below w.heap.size w (w.alloc (.cells #[.int .i64 0] 3))) := hid ⟨OI.lit1 _ w 0 (Nat.le_refl _), (Below.refl _ _).alloc (Nat.le_refl _) _⟩
  clear hl hz hp hl2 hmN hm
  go_enter Try.func15, Try.ntmps15
  go_wp2
  go_loopw [5, 6, 7, 8] (fun s i _ _ wr => ∃ k : Nat, k ≤ N ∧ i = .int .i64 k ∧ OI w.heap.size wr s (nI (smL v (pz ll) k)) ∧ Hid (∀ j, j < k → smN v (pz ll) j ∉ smL v (pz ll) j) ∧ Below w.heap.size w wr) (fun _ i _ _ _ => N - (intOf i).toNat)
  case atStart => exact ⟨0, Nat.zero_le _, rfl, by rw [HS0.out]; exact HLIT.out.1, hid (fun j hj => by omega), HLIT.out.2⟩
  case round =>
    clear HLIT
    obtain ⟨k, hk, rfl, ho, hH, hbw⟩ := hrel
    by_cases hlt : k < N
    · obtain ⟨g, off, rfl, hg, hc⟩ := HL.out (by omega)
      obtain ⟨u1, c1, s1⟩ := hc k hlt
      have c1 := (hbw.cell (p := ⟨g, off + k, none⟩) hg).trans c1
      obtain ⟨a1, cp1, N1, rfl, hN1, hl1', hl2'⟩ := s1.open
      obtain ⟨z1, z2, z3, z4, z5, z6, z7⟩ := HPZ.out k hlt
      obtain rfl : N1 = 2 := by rw [← hN1.out]; exact z1
      obtain ⟨b, off2, rfl, hb2, hc2⟩ := hl2' (by omega)
      have c2 := (hbw.cell (p := ⟨b, off2 + 0, none⟩) hb2).trans (hc2 0 (by omega))
      have c3 := (hbw.cell (p := ⟨b, off2 + 1, none⟩) hb2).trans (hc2 1 (by omega))
      rw [Nat.add_zero, z2] at c2
      rw [z3] at c3
      have HNX : Hid (smN v (pz ll) k ∉ smL v (pz ll) k → ∀ j, j < k + 1 → smN v (pz ll) j ∉ smL v (pz ll) j) := hid (fun h j hj => by
        by_cases e : j = k
        · rw [e]; exact h
        · exact hH.out j (by omega))
      have HNK := hid (HNO.out k hlt)
      have hmo := tm_nat (pz ll k).1 (pz ll k).2 v
      have HSMK := hid (HSM.out k)
      rw [← HSMK.out] at hmo
      have hsm : smN v (pz ll) k < v := by rw [HSMK.out]; exact Nat.mod_lt _ (by omega)
      have HNW := hid (HSN.out k)
      have hlen : (nI (smL v (pz ll) k)).length ≤ 1000000000000 := by rw [nI_len, HSL.out]; omega
      have hszw : w.heap.size ≤ wr.heap.size := hbw.size
      have HLI := hid (fun (n : Nat) => lies_any u5 (nI (smL v (pz ll) k)) ((smN v (pz ll) k : Nat) : Int) (wr.drewN n) ((ho.sl (by rw [nI_len, HSL.out]; omega)).drewN n))
      have hdc : decide (((smN v (pz ll) k : Nat) : Int) ∈ nI (smL v (pz ll) k)) = decide (smN v (pz ll) k ∈ smL v (pz ll) k) := decide_eq_decide.2 mem_nat
      rw [hdc] at HLI
      have HBW := hid hbw
      clear hc hc2 s1 hl2' z1 z2 z3 hH hdc hbw
      generalize (pz ll k).1 = X at *
      generalize (pz ll k).2 = Y at *
      cases hd : decide (smN v (pz ll) k ∈ smL v (pz ll) k) with
      | true =>
        rw [hd] at HLI
        have HE := hid (HNK.out (of_decide_eq_true hd))
        clear hd HNX HNK
        generalize smN v (pz ll) k = S at *
        go_wp2
        go_quiet (fail)
        go_wp2_with fail
        refine (HLI.out _).mono ?_
        rintro e w5 ⟨rfl, rfl⟩
        go_wp2
        go_ret
        exact ⟨by rw [HE.out]; rfl, below_drewN HBW.out _⟩
      | false =>
        rw [hd] at HLI
        have HE := hid (HNX.out (of_decide_eq_false hd))
        clear hd HNX HNK
        generalize smN v (pz ll) k = S at *
        go_wp2
        go_quiet (fail)
        go_wp2_with fail
        refine (HLI.out _).mono ?_
        rintro e w5 ⟨rfl, rfl⟩
        have ho5 : OI w.heap.size (wr.drewN nq) u5 (nI (smL v (pz ll) k)) := ho.drewN nq
        have hsz5 : w.heap.size ≤ (wr.drewN nq).heap.size := hszw
        have HB5 := hid (below_drewN HBW.out nq)
        clear ho HBW
        generalize wr.drewN nq = w5 at *
        go_wp2_with (at_builtin; refine wpList_appi w5 _ _ 38 rfl rfl Try.underlying38 Try.info3 w.heap.size u5 (nI (smL v (pz ll) k)) rfl ho5 rfl hlen hsz5 ?_; intro g3 c5 w6 hown1 hgr1 hgr2 hgr3)
        have HX := hid (And.intro (hown1.cast HNW.out.symm) (ho5.grown HB5.out hgr1 hsz5))
        clear hown1 hgr1 hgr2 hgr3 ho5
        go_roundw
        case rel => exact ⟨k + 1, by omega, by go_num, HX.out.1, HE, HX.out.2⟩
        case measure => simp [intOf] <;> omega
    · obtain rfl : k = N := by omega
      have HE := hid (And.intro (HYE.out hH.out) hbw)
      clear hH hbw ho
      go_wp2
      go_ret
      exact ⟨by rw [HE.out.1]; rfl, HE.out.2⟩
set_option maxHeartbeats 1000000 in
set_option maxRecDepth 100000 in
theorem Strong_ok (v : Nat) (u : Value) (ll : List (List Int)) (w : World) (hl : RL w u ll) (hb : ∀ l ∈ ll, ∀ x ∈ l, I64 x) (hz : stE v ll = 0) :
    Calls Try.prog 13 #[.int .i64 v, u] w fun e w' => e = .returned (.tuple #[.bool (sgB v (pz ll) ll.length), .int .i64 0]) ∧ Below w.heap.size w w' := by
  obtain ⟨m, hm, h3, h15, hmN, hp, _, _⟩ := st_zero hz
  have HST := hid (Starter_any v u ll w (by unfold I64; omega) hl hb)
  rw [hz] at HST
  obtain rfl : v = m := by omega
  have HPZ := hid (fun j hj => pz_spec (v := v) (ll := ll) (j := j) (hp j hj))
  have HNO := hid (fun k hk h => sg_no (v := v) (p := pz ll) (N := ll.length) (k := k) hk h)
  have HYE := hid (fun h => sg_yes (v := v) (p := pz ll) (N := ll.length) h)
  have HSN := hid (nI_one v (pz ll))
  have HSL := hid (smL_len v (pz ll))
  have HS0 : Hid (nI (smL v (pz ll) 0) = [0]) := hid rfl
  have HSM : Hid (∀ k, smN v (pz ll) k = ((pz ll k).1 + (pz ll k).2) % v) := hid fun k => rfl
  obtain ⟨a, c, N, rfl, hN, hl1, hl2⟩ := hl.open
  rw [hN.out] at HPZ HNO HYE hmN
  rw [hN.out]
  generalize sgB v (pz ll) N = G at *
  have hN8 : N ≤ 7 := by clear hl2; omega
  have HL := hid hl2
  clear hl hz hp hl2 hmN hm hb
  go_enter Try.func13, Try.ntmps13
  go_wp2_with fail
  refine HST.out.mono ?_
  rintro e w1 ⟨rfl, hb1⟩
  have HLIT : Hid (OI w.heap.size (w1.alloc (.cells #[.int .i64 0] 3)) (.slice (some ⟨w1.heap.size, 0, none⟩) 1 1) [0] ∧ Below w.heap.size w (w1.alloc (.cells #[.int .i64 0] 3))) := hid ⟨OI.lit1 _ w1 0 hb1.size, hb1.alloc hb1.size _⟩
  clear hb1 HST
  go_wp2
  go_loopw [7, 20] (fun s i wr => ∃ k : Nat, k ≤ N ∧ i = .int .i64 k ∧ OI w.heap.size wr s (nI (smL v (pz ll) k)) ∧ Hid (∀ j, j < k → smN v (pz ll) j ∉ smL v (pz ll) j) ∧ Below w.heap.size w wr) (fun _ i _ => N - (intOf i).toNat)
  case atStart => exact ⟨0, Nat.zero_le _, rfl, by rw [HS0.out]; exact HLIT.out.1, hid (fun j hj => by omega), HLIT.out.2⟩
  case round =>
    clear HLIT
    obtain ⟨k, hk, rfl, ho, hH, hbw⟩ := hrel
    by_cases hlt : k < N
    · obtain ⟨g, off, rfl, hg, hc⟩ := HL.out (by omega)
      obtain ⟨u1, c1, s1⟩ := hc k hlt
      have c1 := (hbw.cell (p := ⟨g, off + k, none⟩) hg).trans c1
      obtain ⟨a1, cp1, N1, rfl, hN1, hl1', hl2'⟩ := s1.open
      obtain ⟨z1, z2, z3, z4, z5, z6, z7⟩ := HPZ.out k hlt
      obtain rfl : N1 = 2 := by rw [← hN1.out]; exact z1
      obtain ⟨b, off2, rfl, hb2, hc2⟩ := hl2' (by omega)
      have c2 := (hbw.cell (p := ⟨b, off2 + 0, none⟩) hb2).trans (hc2 0 (by omega))
      have c3 := (hbw.cell (p := ⟨b, off2 + 1, none⟩) hb2).trans (hc2 1 (by omega))
      rw [Nat.add_zero, z2] at c2
      rw [z3] at c3
      have HNX : Hid (smN v (pz ll) k ∉ smL v (pz ll) k → ∀ j, j < k + 1 → smN v (pz ll) j ∉ smL v (pz ll) j) := hid (fun h j hj => by
        by_cases e : j = k
        · rw [e]; exact h
        · exact hH.out j (by omega))
      have HNK := hid (HNO.out k hlt)
      have hmo := tm_nat (pz ll k).1 (pz ll k).2 v
      have HSMK := hid (HSM.out k)
      rw [← HSMK.out] at hmo
      have hsm : smN v (pz ll) k < v := by rw [HSMK.out]; exact Nat.mod_lt _ (by omega)
      have HNW := hid (HSN.out k)
      have hlen : (nI (smL v (pz ll) k)).length ≤ 1000000000000 := by rw [nI_len, HSL.out]; omega
      have hszw : w.heap.size ≤ wr.heap.size := hbw.size
      have HLI := hid (fun (n : Nat) => containsI_any u7 (nI (smL v (pz ll) k)) ((smN v (pz ll) k : Nat) : Int) (wr.drewN n) ((ho.sl (by rw [nI_len, HSL.out]; omega)).drewN n))
      have hdc : decide (((smN v (pz ll) k : Nat) : Int) ∈ nI (smL v (pz ll) k)) = decide (smN v (pz ll) k ∈ smL v (pz ll) k) := decide_eq_decide.2 mem_nat
      rw [hdc] at HLI
      have HBW := hid hbw
      clear hc hc2 s1 hl2' z1 z2 z3 hH hdc hbw
      generalize (pz ll k).1 = X at *
      generalize (pz ll k).2 = Y at *
      cases hd : decide (smN v (pz ll) k ∈ smL v (pz ll) k) with
      | true =>
        rw [hd] at HLI
        have HE := hid (HNK.out (of_decide_eq_true hd))
        clear hd HNX HNK
        generalize smN v (pz ll) k = S at *
        go_wp2
        go_quiet (fail)
        go_wp2_with fail
        refine (HLI.out _).mono ?_
        rintro e w5 ⟨rfl, rfl⟩
        go_wp2
        go_ret2
        exact ⟨by rw [HE.out]; rfl, below_drewN HBW.out _⟩
      | false =>
        rw [hd] at HLI
        have HE := hid (HNX.out (of_decide_eq_false hd))
        clear hd HNX HNK
        generalize smN v (pz ll) k = S at *
        go_wp2
        go_quiet (fail)
        go_wp2_with fail
        refine (HLI.out _).mono ?_
        rintro e w5 ⟨rfl, rfl⟩
        have ho5 : OI w.heap.size (wr.drewN nq) u7 (nI (smL v (pz ll) k)) := ho.drewN nq
        have hsz5 : w.heap.size ≤ (wr.drewN nq).heap.size := hszw
        have HB5 := hid (below_drewN HBW.out nq)
        clear ho HBW
        generalize wr.drewN nq = w5 at *
        go_wp2_with (at_builtin; refine wpList_appi w5 _ _ 38 rfl rfl Try.underlying38 Try.info3 w.heap.size u7 (nI (smL v (pz ll) k)) rfl ho5 rfl hlen hsz5 ?_; intro g3 c5 w6 hown1 hgr1 hgr2 hgr3)
        have HX := hid (And.intro (hown1.cast HNW.out.symm) (ho5.grown HB5.out hgr1 hsz5))
        clear hown1 hgr1 hgr2 hgr3 ho5
        go_roundw
        case rel => exact ⟨k + 1, by omega, by go_num, HX.out.1, HE, HX.out.2⟩
        case measure => simp [intOf] <;> omega
    · obtain rfl : k = N := by omega
      have HE := hid (And.intro (HYE.out hH.out) hbw)
      clear hH hbw ho
      go_wp2
      go_ret2
      exact ⟨by rw [HE.out.1]; rfl, HE.out.2⟩

set_option maxHeartbeats 1000000 in
set_option maxRecDepth 100000 in
theorem Strong_err (v : Int) (u : Value) (ll : List (List Int)) (w : World) (hv : I64 v) (hl : RL w u ll) (hb : ∀ l ∈ ll, ∀ x ∈ l, I64 x) (hz : stE v ll ≠ 0) :
    Calls Try.prog 13 #[.int .i64 v, u] w fun e w' => e = .returned (.tuple #[.bool false, .int .i64 (stE v ll)]) ∧ Below w.heap.size w w' := by
  have HC := hid (Starter_any v u ll w hv hl hb)
  have hq : (stE v ll != 0) = true := by simpa using hz
  obtain ⟨a, c, rfl, hl1, _⟩ := hl
  generalize ll.length = N at *
  clear hz hb
  generalize stE v ll = E at *
  go_enter Try.func13, Try.ntmps13
  go_wp2_with fail
  refine HC.out.mono ?_
  rintro e w1 ⟨rfl, hb1⟩
  have HB := hid hb1
  clear hb1
  go_wp2
  go_ret2
  exact ⟨rfl, HB.out⟩
end Go.Proofs.Ytlcndccjlbahpaa
