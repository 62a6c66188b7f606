/-
  The walk over perm.Unrank. Conditions: a size and a rank within bounds where it is said.
-/
import Derived.Test.YtgfdddknajeknaaDoorDUnrP
import Derived.Test.YtgfdddknajeknaaDoorPdel
namespace Go.Proofs.YtgfdddknajeknaaDoor
set_option linter.unusedVariables false
open Go.RowKit

theorem Unrank_far (n k : Int) (w : World) (h : n < 0 ∨ 12 < n) :
    Calls Tryd.prog 13 #[.int .i64 n, .int .i64 k] w fun e w' => e = .returned (.tuple #[.slice none 0 0, .int .i64 1]) ∧ Below w.heap.size w w' := by
  go_enter Tryd.func13, Tryd.ntmps13
  rcases h with h | h
  · go_wp2
    go_ret2
    exact ⟨rfl, Below.refl _ _⟩
  · have h0 : ¬ n < 0 := by omega
    go_wp2
    go_ret2
    exact ⟨rfl, Below.refl _ _⟩

theorem Apart.symm {u v : Value} (h : Apart u v) : Apart v u := fun g h1 h2 => h g h2 h1
theorem Apart.same {u u' v : Value} (h : Apart u v) (e : u'.ownBlock = u.ownBlock) : Apart u' v := fun g h1 h2 => h g (by rw [← e]; exact h1) h2

theorem intsL_erase : ∀ (L : List Nat) (i : Nat), (intsL L).eraseIdx i = intsL (L.eraseIdx i)
  | [], _ => rfl
  | _ :: _, 0 => rfl
  | x :: L, i + 1 => by
    have ih := intsL_erase L i
    simp only [intsL, List.map_cons, List.eraseIdx_cons_succ] at ih ⊢
    rw [ih]
/-- A rank out of bounds; the list. -/
def unrEnd (n : Nat) (k : Int) (w : World) (e : Ending) (w' : World) : Prop :=
  ((k < 0 ∨ (fac n : Int) ≤ k) ∧ e = .returned (.tuple #[.slice none 0 0, .int .i64 1]) ∨ ¬ (k < 0 ∨ (fac n : Int) ≤ k) ∧ ∃ u, e = .returned (.tuple #[u, .int .i64 0]) ∧ OI w.heap.size w' u (intsL (outL n k.toNat n))) ∧ Below w.heap.size w w'
theorem intsL_getD (L : List Nat) (i : Nat) (h : i < L.length) : (intsL L).getD i 0 = ((L.getD i 0 : Nat) : Int) := by
  simp [intsL, List.getD_eq_getElem?_getD, h]

set_option maxHeartbeats 1000000 in
theorem Unrank_ok (n : Nat) (k : Int) (w : World) (hn : n ≤ 12) :
    Calls Tryd.prog 13 #[.int .i64 n, .int .i64 k] w (unrEnd n k w) := by
  have HF := hid fac_bd
  have H1 : Hid (∀ k, fac (k + 1) = (k + 1) * fac k) := hid (fun k => rfl)
  have H0 : Hid (fac 0 = 1) := hid rfl
  have HFS : Hid (∀ j, j < n → fac (n - j) = (n - j) * fac (n - 1 - j)) := hid (fun j hj => fac_step hj)
  have HR : Hid (¬ (k < 0 ∨ (fac n : Int) ≤ k) → (∀ j, j ≤ n → kR n k.toNat j < fac (n - j)) ∧ (∀ j, j < n → iR n k.toNat j < n - j) ∧ ∀ j, j ≤ n → (leftL n k.toNat j).length = n - j) := hid (fun h => by
    have hk : k.toNat < fac n := by omega
    exact ⟨kR_lt hk, fun j hj => iR_lt hk hj, left_len hk⟩)
  have HK1 : Hid (∀ j, kR n k.toNat (j + 1) = kR n k.toNat j % fac (n - 1 - j)) := hid (fun j => rfl)
  have HI : Hid (∀ j, iR n k.toNat j = kR n k.toNat j / fac (n - 1 - j)) := hid (fun j => rfl)
  have HK0 : Hid (kR n k.toNat 0 = k.toNat) := hid rfl
  have HL1 : Hid (∀ j, leftL n k.toNat (j + 1) = (leftL n k.toNat j).eraseIdx (iR n k.toNat j)) := hid (fun j => rfl)
  have HL0 : Hid (leftL n k.toNat 0 = List.range n) := hid rfl
  have HO1 : Hid (∀ j, outL n k.toNat (j + 1) = outL n k.toNat j ++ [(leftL n k.toNat j).getD (iR n k.toNat j) 0]) := hid (fun j => rfl)
  have HO0 : Hid (outL n k.toNat 0 = []) := hid rfl
  have HOL := hid (out_len n k.toNat)
  have HTN : Hid (0 ≤ k → k = (k.toNat : Int)) := hid (fun h => by omega)
  have HG1 : Hid (∀ e w', (k < 0 ∨ (fac n : Int) ≤ k) → e = .returned (.tuple #[.slice none 0 0, .int .i64 1]) → Below w.heap.size w w' → unrEnd n k w e w') := hid (fun e w' h1 h2 h3 => ⟨.inl ⟨h1, h2⟩, h3⟩)
  have HG2 : Hid (∀ u w', ¬ (k < 0 ∨ (fac n : Int) ≤ k) → OI w.heap.size w' u (intsL (outL n k.toNat n)) → Below w.heap.size w w' → unrEnd n k w (.returned (.tuple #[u, .int .i64 0])) w') := hid (fun u w' h1 h2 h3 => ⟨.inr ⟨h1, u, rfl, h2⟩, h3⟩)
  generalize unrEnd n k w = G at *
  generalize kR n k.toNat = K at *
  generalize iR n k.toNat = I at *
  generalize leftL n k.toNat = L at *
  generalize outL n k.toNat = O at *
  generalize k.toNat = kn at *
  generalize fac = F at *
  go_enter Tryd.func13, Tryd.ntmps13
  go_wp2
  go_loopw [6, 7, 19] (fun v o i wr => ∃ j : Nat, j ≤ n ∧ i = .int .i64 j ∧ o = .int .i64 (F j : Nat) ∧ OI w.heap.size wr v (intsL (List.range j)) ∧ Below w.heap.size w wr) (fun _ _ i _ => n - (intOf i).toNat)
  case atStart => exact ⟨0, Nat.zero_le _, rfl, by rw [H0.out]; rfl, OI.nil _ _, Below.refl _ _⟩
  case round =>
    obtain ⟨j, hj, rfl, rfl, hown, hb⟩ := hrel
    obtain ⟨f1, f2⟩ := HF.out j (by omega)
    by_cases hlt : j < n
    · have HX : Hid (F (j + 1) = (j + 1) * F j) := hid (H1.out j)
      obtain ⟨b3, b4⟩ := HF.out (j + 1) (by omega)
      rw [HX.out] at b3 b4
      have hc : (((j + 1) * F j : Nat) : Int) = (F j : Int) * ((j : Int) + 1) := by rw [Int.natCast_mul, Int.mul_comm]; rfl
      have HC := hid hc
      have hb' : 1 ≤ (F j : Int) * ((j : Int) + 1) ∧ (F j : Int) * ((j : Int) + 1) ≤ 479001600 := by omega
      have hsz := hb.size
      have hl2 : (intsL (List.range j)).length ≤ 1000000000000 := by rw [intsL_len, List.length_range]; omega
      have HRS : Hid (intsL (List.range j) ++ [(j : Int)] = intsL (List.range (j + 1))) := hid (by rw [List.range_succ, intsL_snoc])
      clear hc b3 b4
      generalize intsL (List.range j) = r0 at *
      go_wp2_with (at_builtin; refine wpList_appi wr _ _ 22 rfl rfl Tryd.underlying22 Tryd.info3 w.heap.size _ _ rfl hown rfl hl2 hsz ?_; intro g c w1 hown1 hg1 hg2 hg3)
      have HZ := hid (And.intro (hown1.cast HRS.out) (hown.grown hb hg1 hsz))
      clear hown1 hg1 hg2 hg3
      go_wp2
      go_roundw
      case rel => exact ⟨j + 1, by omega, by go_num, by rw [HX.out, HC.out], HZ.out.1, HZ.out.2⟩
      case measure => simp [intOf] <;> omega
    · obtain rfl : n = j := by omega
      have HZ := hid (And.intro hown hb)
      clear hown hb
      by_cases hk0 : k < 0
      · have HE := hid (Or.inl hk0 : k < 0 ∨ (F n : Int) ≤ k)
        go_wp2
        exact HG1.out _ _ HE.out rfl HZ.out.2
      · by_cases hkF : (F n : Int) ≤ k
        · have HE := hid (Or.inr hkF : k < 0 ∨ (F n : Int) ≤ k)
          go_wp2
          exact HG1.out _ _ HE.out rfl HZ.out.2
        · have HE : Hid (¬ (k < 0 ∨ (F n : Int) ≤ k)) := hid (by omega)
          obtain ⟨r1, r2, r3⟩ := HR.out HE.out
          have R1 := hid r1
          have R2 := hid r2
          have R3 := hid r3
          have hkn := hid (HTN.out (by omega))
          clear r1 r2 r3
          go_wp2
          go_loopw [1, 6, 7, 9, 10] (fun kk left al out m wr => ∃ j : Nat, j ≤ n ∧ kk = .int .i64 (K j : Nat) ∧ m = .int .i64 ((n : Int) - (j : Int)) ∧ al = .int .i64 (F (n - j) : Nat) ∧ OI w.heap.size wr left (intsL (L j)) ∧ OI w.heap.size wr out (intsL (O j)) ∧ Apart out left ∧ Below w.heap.size w wr) (fun _ _ _ _ m _ => (intOf m).toNat)
          case atStart => exact ⟨0, Nat.zero_le _, by rw [HK0.out, ← hkn.out], by simp, by simp, by rw [HL0.out]; exact HZ.out.1, by rw [HO0.out]; exact OI.nil _ _, Apart.nil _, HZ.out.2⟩
          case round =>
            obtain ⟨j, hj, rfl, rfl, rfl, hle, hou, hap, hb⟩ := hrel
            clear HZ
            by_cases hjn : j < n
            · have hI := R2.out j hjn
              have hLl := R3.out j hj
              have hK := R1.out j hj
              obtain ⟨f3, f4⟩ := HF.out (n - 1 - j) (by omega)
              obtain ⟨f5, f6⟩ := HF.out (n - j) (by omega)
              have hdv : ((F (n - j) : Nat) : Int).tdiv ((n : Int) - (j : Int)) = ((F (n - 1 - j) : Nat) : Int) := by
                rw [HFS.out j hjn, show (n : Int) - (j : Int) = ((n - j : Nat) : Int) by omega, ← Int.ofNat_tdiv, Nat.mul_div_cancel_left _ (by omega)]
              have hdi : ((K j : Nat) : Int).tdiv ((F (n - 1 - j) : Nat) : Int) = ((I j : Nat) : Int) := by
                rw [← Int.ofNat_tdiv, HI.out j]
              have hmo : ((K j : Nat) : Int).tmod ((F (n - 1 - j) : Nat) : Int) = ((K (j + 1) : Nat) : Int) := by
                rw [← Int.ofNat_tmod, HK1.out j]
              have hK2 : K (j + 1) < F (n - 1 - j) := by
                have := R1.out (j + 1) (by omega)
                rwa [show n - (j + 1) = n - 1 - j by omega] at this
              have hne : ¬ (n : Int) - (j : Int) = 0 := by omega
              have hnf : ¬ ((F (n - 1 - j) : Nat) : Int) = 0 := by omega
              have HJ : Hid (F (n - (j + 1)) = F (n - 1 - j)) := hid (by rw [show n - (j + 1) = n - 1 - j by omega])
              obtain ⟨g, c, rfl, hg1, hg2⟩ := hle.form (by rw [intsL_len]; omega)
              have hil : I j < (L j).length := by omega
              have hcell := hle.cell (I j) (by rw [intsL_len]; omega)
              rw [intsL_getD _ _ hil] at hcell
              have hO : Hid (intsL (O j) ++ [(((L j).getD (I j) 0 : Nat) : Int)] = intsL (O (j + 1))) := hid (by rw [HO1.out j, intsL_snoc])
              have hl2 : (intsL (O j)).length ≤ 1000000000000 := by rw [intsL_len, HOL.out]; omega
              have hLE : Hid ((intsL (L j)).eraseIdx (I j) = intsL (L (j + 1))) := hid (by rw [HL1.out j, intsL_erase])
              have hlen : (intsL (L j)).length = n - j := by rw [intsL_len, hLl]
              have hsz := hb.size
              have HDEL : Hid (∀ w1, OI w.heap.size w1 (.slice (some ⟨g, 0, none⟩) (n - j) c) (intsL (L j)) → Calls Tryd.prog 22 #[.slice (some ⟨g, 0, none⟩) (n - j) c, .int .i64 (I j : Nat), .int .i64 (((I j : Nat) : Int) + 1)] w1 fun e w' => ∃ v', e = .returned v' ∧ OI w.heap.size w' v' (intsL (L (j + 1))) ∧ w1.grownBy w' (some g) ∧ v'.ownBlock = some g) := hid (fun w1 h => by
                have := delete_own (I j) h (by rw [hlen]; exact hI)
                rwa [hLE.out] at this)
              rw [hlen] at hle hap ⊢
              clear hLE hlen hil hLl
              generalize (L j).getD (I j) 0 = x at *
              generalize I j = ij at *
              generalize F (n - 1 - j) = fj at *
              generalize F (n - j) = fp at *
              generalize K j = kj at *
              have HLE := hid hle
              clear hle
              go_wp2_with (first | (at_builtin; refine wpList_appi wr _ _ 22 rfl rfl Tryd.underlying22 Tryd.info3 w.heap.size _ _ rfl hou rfl hl2 hsz ?_; intro g2 c2 w1 hown1 hgr1 hgr2 hgr3) | fail)
              have hle1 := HLE.out.keptA hou hgr1 hap
              have hap1 : Apart (.slice (some ⟨g2, 0, none⟩) ((intsL (O j)).length + 1) c2) (.slice (some ⟨g, 0, none⟩) (n - j) c) := hap.app HLE.out (fun g' h' => by simp only [Value.ownBlock, Option.some.injEq] at h'; subst h'; exact hgr2)
              refine (HDEL.out w1 hle1).mono ?_
              rintro e w2 ⟨v2, rfl, hd1, hd2, hd3⟩
              have HZ := hid (And.intro hd1 (And.intro (((hown1.cast hO.out).keptA hle1 (v := .slice (some ⟨g, 0, none⟩) (n - j) c) hd2 hap1.symm)) (And.intro (hap1.symm.same (u' := v2) hd3).symm (((hou.grown hb hgr1 hsz).grown hd2 (Nat.le_trans hsz hgr1.size) (fun k' h' => by cases h'; exact hg1))))))
              clear hd1 hd2 hle1 hown1 hgr1 hgr2 hgr3 hou hb hap hap1
              go_wp2
              go_roundw
              case rel => exact ⟨j + 1, by omega, by go_num, by go_num, by rw [HJ.out], HZ.out.1, HZ.out.2.1, HZ.out.2.2.1, HZ.out.2.2.2⟩
              case measure => simp [intOf] <;> omega
            · obtain rfl : n = j := by omega
              have HZ := hid (And.intro hou hb)
              clear hle hou hb hap
              have hnn : ¬ 0 < (n : Int) - (n : Int) := by omega
              go_wp2
              exact HG2.out _ _ HE.out HZ.out.1 HZ.out.2
end Go.Proofs.YtgfdddknajeknaaDoor
