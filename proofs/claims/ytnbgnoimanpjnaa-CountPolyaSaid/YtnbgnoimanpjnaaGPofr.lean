/-
  The walk over parterreref1.PermOfRank. Conditions: a size and a rank within bounds where it is said.
-/
import Derived.Test.YtnbgnoimanpjnaaGPunr
namespace Go.Proofs.Ytnbgnoimanpjnaa
set_option linter.unusedVariables false
open Go.RowKit

theorem Try.info4 : (Try.prog.info? 4).map (fun i => (i.zero, i.size, i.bytes)) = some (some (.bool false), 1, 1) := by kernel_rfl

theorem OfRank_far (n k : Int) (w : World) (h : n < 0 ∨ 12 < n) :
    Calls Try.prog 56 #[.int .i64 n, .int .i64 k] w fun e w' => e = .returned (.tuple #[.slice none 0 0, .int .i64 1]) ∧ Below w.heap.size w w' := by
  go_enter Try.func56, Try.ntmps56
  rcases h with h | h
  · go_wp2
    go_ret2
    exact ⟨rfl, Below.refl _ _⟩
  · have h0 : ¬ n < 0 := by omega
    go_wp2
    go_ret2
    exact ⟨rfl, Below.refl _ _⟩

set_option maxHeartbeats 1000000 in
theorem OfRank_ok (n : Nat) (k : Int) (w : World) (hn : n ≤ 12) :
    Calls Try.prog 56 #[.int .i64 n, .int .i64 k] w (unrEnd n k w) := by
  have HF := hid fac_bd
  have HFA := hid (fun (m : Nat) (w1 : World) (hm : m ≤ 12) => factorial_ok m w1 hm)
  have HR : Hid (¬ (k < 0 ∨ (fac n : Int) ≤ k) → (∀ j, j ≤ n → kR n k.toNat j < fac (n - j)) ∧ (∀ j, j < n → iR n k.toNat j < n - j)) := hid (fun h => by
    have hk : k.toNat < fac n := by omega
    exact ⟨kR_lt hk, fun j hj => iR_lt hk hj⟩)
  have HSK : Hid (¬ (k < 0 ∨ (fac n : Int) ≤ k) → ∀ j, j < n → _) := hid (fun h j hj => skip_spec (n := n) (k := k.toNat) (show k.toNat < fac n by omega) hj)
  have HUS : Hid (¬ (k < 0 ∨ (fac n : Int) ≤ k) → ∀ j, j < n → _) := hid (fun h j hj => use_succ (n := n) (k := k.toNat) (show k.toNat < fac n by omega) hj)
  have HUG := hid (use_get n k.toNat)
  have HU0 := hid (use_zero n k.toNat)
  have HUL := hid (use_len n k.toNat)
  have HK1 : Hid (∀ j, kR n k.toNat (j + 1) = kR n k.toNat j % fac (n - 1 - j)) := hid (fun j => rfl)
  have HI : Hid (∀ j, iR n k.toNat j = kR n k.toNat j / fac (n - 1 - j)) := hid (fun j => rfl)
  have HK0 : Hid (kR n k.toNat 0 = k.toNat) := hid rfl
  have HO1 : Hid (∀ j, outL n k.toNat (j + 1) = outL n k.toNat j ++ [(leftL n k.toNat j).getD (iR n k.toNat j) 0]) := hid (fun j => rfl)
  have HO0 : Hid (outL n k.toNat 0 = []) := hid rfl
  have HOL := hid (out_len n k.toNat)
  have HTN : Hid (0 ≤ k → k = (k.toNat : Int)) := hid (fun h => by omega)
  have HG1 : Hid (∀ e w', (k < 0 ∨ (fac n : Int) ≤ k) → e = .returned (.tuple #[.slice none 0 0, .int .i64 1]) → Below w.heap.size w w' → unrEnd n k w e w') := hid (fun e w' h1 h2 h3 => ⟨.inl ⟨h1, h2⟩, h3⟩)
  have HG2 : Hid (∀ u w', ¬ (k < 0 ∨ (fac n : Int) ≤ k) → OI w.heap.size w' u (intsL (outL n k.toNat n)) → Below w.heap.size w w' → unrEnd n k w (.returned (.tuple #[u, .int .i64 0])) w') := hid (fun u w' h1 h2 h3 => ⟨.inr ⟨h1, u, rfl, h2⟩, h3⟩)
  generalize unrEnd n k w = G at *
  generalize kR n k.toNat = K at *
  generalize iR n k.toNat = I at *
  generalize leftL n k.toNat = L at *
  generalize outL n k.toNat = O at *
  generalize useL n k.toNat = U at *
  generalize k.toNat = kn at *
  generalize fac = F at *
  obtain ⟨fn1, fn2⟩ := HF.out n hn
  go_enter Try.func56, Try.ntmps56
  go_wp2_with fail
  refine (HFA.out n w hn).mono ?_
  rintro e w1 ⟨rfl, rfl⟩
  by_cases hk0 : k < 0
  · have HE := hid (Or.inl hk0 : k < 0 ∨ (F n : Int) ≤ k)
    go_wp2
    exact HG1.out _ _ HE.out rfl (Below.refl _ _)
  · by_cases hkF : (F n : Int) ≤ k
    · have HE := hid (Or.inr hkF : k < 0 ∨ (F n : Int) ≤ k)
      go_wp2
      exact HG1.out _ _ HE.out rfl (Below.refl _ _)
    · have HE : Hid (¬ (k < 0 ∨ (F n : Int) ≤ k)) := hid (by omega)
      obtain ⟨r1, r2⟩ := HR.out HE.out
      have R1 := hid r1
      have R2 := hid r2
      have S1 := hid (HSK.out HE.out)
      have U1 := hid (HUS.out HE.out)
      have hkn := hid (HTN.out (by omega))
      clear r1 r2 HSK HUS HR
      go_wp2_with (at_make; refine wpList_mk (w := w) _ _ 32 4 (.bool false) 1 rfl rfl Try.underlying32 Try.info4 rfl (by decide) w.heap.size _ n rfl rfl rfl (by omega) (Nat.le_refl _) ?_; intro w6 hs6 hgr6 hz6)
      have hs0 : Ow 4 w.heap.size w6 (.slice (some ⟨w.heap.size, 0, none⟩) n n) ((U 0).map Value.bool) := by rw [HU0.out, List.map_replicate]; exact hs6
      have hb6 : Below w.heap.size w w6 := (Below.refl _ _).grown hgr6 (Nat.le_refl _) (fun k h => by cases h)
      clear hs6 hgr6
      go_loopw [1, 6, 7, 9] (fun kk f out i wr => ∃ j : Nat, j ≤ n ∧ i = .int .i64 j ∧ kk = .int .i64 (K j : Nat) ∧ OI (w.heap.size + 1) wr out (intsL (O j)) ∧ Ow 4 w.heap.size wr (.slice (some ⟨w.heap.size, 0, none⟩) n n) ((U j).map Value.bool) ∧ Below w.heap.size w wr ∧ w.heap.size < wr.heap.size) (fun _ _ _ i _ => n - (intOf i).toNat)
      case atStart => exact ⟨0, Nat.zero_le _, rfl, by rw [HK0.out, ← hkn.out], by rw [HO0.out]; exact OI.nil _ _, hs0, hb6, hz6⟩
      case round =>
        obtain ⟨j, hj, rfl, rfl, hou, hus, hb, hsz⟩ := hrel
        clear hs0 hb6 hz6
        by_cases hjn : j < n
        · have hcast : (n : Int) - 1 - (j : Int) = ((n - 1 - j : Nat) : Int) := by omega
          have HFC := hid (HFA.out (n - 1 - j) wr (by omega))
          obtain ⟨f1, f2⟩ := HF.out (n - 1 - j) (by omega)
          have hdi : ((K j : Nat) : Int).tdiv ((F (n - 1 - j) : Nat) : Int) = ((I j : Nat) : Int) := by
            rw [← Int.ofNat_tdiv, HI.out j]
          have hmo : ((K j : Nat) : Int).tmod ((F (n - 1 - j) : Nat) : Int) = ((K (j + 1) : Nat) : Int) := by
            rw [← Int.ofNat_tmod, HK1.out j]
          have hK2 : K (j + 1) < F (n - 1 - j) := by
            have := R1.out (j + 1) (by omega)
            rwa [show n - (j + 1) = n - 1 - j by omega] at this
          have hK := R1.out j hj
          obtain ⟨fj1, fj2⟩ := HF.out (n - j) (by omega)
          have hI := R2.out j hjn
          have hnf : ¬ ((F (n - 1 - j) : Nat) : Int) = 0 := by omega
          have SJ := hid (S1.out j hjn)
          have UJ := hid (U1.out j hjn)
          have HO : Hid (intsL (O j) ++ [(((L j).getD (I j) 0 : Nat) : Int)] = intsL (O (j + 1))) := hid (by rw [HO1.out j, intsL_snoc])
          have hl2 : (intsL (O j)).length ≤ 1000000000000 := by rw [intsL_len, HOL.out]; omega
          have HLUJ := hid (HUG.out j)
          have HUJL := hid (HUL.out j)
          generalize (L j).getD (I j) 0 = X at *
          generalize I j = ij at *
          generalize F (n - 1 - j) = fj at *
          generalize F (n - j) = fp at *
          generalize K j = kj at *
          generalize (L j).contains = C at *
          generalize cnt (L j) = T at *
          obtain ⟨hXn, hCX, s1, s2, s3, s4, s5⟩ := SJ.out
          have S1' := hid s1
          have S2' := hid s2
          have S3' := hid s3
          have S4' := hid s4
          have S5' := hid s5
          clear s1 s2 s3 s4 s5 SJ
          have HB := hid (And.intro hou (And.intro hus (And.intro hb hsz)))
          clear hou hus hb hsz
          go_wp2_with fail
          refine HFC.out.mono ?_
          rintro e wq ⟨rfl, rfl⟩
          obtain ⟨w0, rfl⟩ : ∃ w0, w0 = wr := ⟨wr, rfl⟩
          go_wp2
          go_loopw [7, 10, 11] (fun o sk x wq => ∃ t : Nat, t ≤ X ∧ x = .int .i64 t ∧ sk = .int .i64 ((ij : Int) - (T t : Int)) ∧ o = u7 ∧ wq = w0) (fun _ _ x _ => X - (intOf x).toNat)
          case atStart => exact ⟨0, Nat.zero_le _, rfl, by rw [S3'.out]; simp, rfl, rfl⟩
          case round =>
            obtain ⟨t, ht, rfl, rfl, rfl, rfl⟩ := hrel
            obtain ⟨hou, hus, hb, hsz⟩ := HB.out
            have hcell := hus.cell t (by rw [List.length_map, HUJL.out]; omega)
            rw [List.getElem?_map, HLUJ.out t (by omega), Option.map_some] at hcell
            have hT := S1'.out t ht
            have htn : (t : Int) < (n : Int) := by omega
            by_cases htX : t < X
            · cases hC : C t with
              | false =>
                have h4 := S4'.out t
                rw [hC] at h4
                rw [hC] at hcell
                have HX : Hid (T (t + 1) = T t) := hid (by simpa using h4)
                clear h4 hou hus hb hC
                go_wp2
                go_roundw
                case rel => exact ⟨t + 1, by omega, by go_num, by rw [HX.out], by simp, by simp⟩
                case measure => simp [intOf] <;> omega
              | true =>
                have h4 := S4'.out t
                rw [hC] at h4
                rw [hC] at hcell
                have h5 := S5'.out t htX hC
                have HX : Hid (T (t + 1) = T t + 1) := hid (by simpa using h4)
                have hq : (((ij : Int) - (T t : Int)) == 0) = false := by simp; omega
                clear h4 hou hus hb hC
                go_wp2
                go_roundw
                case rel => exact ⟨t + 1, by omega, by go_num, by rw [HX.out]; go_num, by simp, by simp⟩
                case measure => simp [intOf] <;> omega
            · obtain rfl : X = t := by omega
              rw [hCX] at hcell
              have hq : (((ij : Int) - (T X : Int)) == 0) = true := by rw [S2'.out]; simp
              have hfz := hus.frozen X
              obtain ⟨hst1, hst2⟩ := hus.stored X (.bool true)
              rw [← List.map_set, ← UJ.out] at hst1
              have hou2 := hou.kept hst2 (.inr (by intro e; have := (hou.lt _ e).1; omega))
              have hb2 := hb.grown hst2 hb.size (fun k' e => by cases e; exact Nat.le_refl _)
              have hsz2 : w.heap.size + 1 ≤ (wr.setCell ⟨w.heap.size, X, none⟩ (.bool true)).heap.size := Nat.le_trans hsz hst2.size
              clear hus hou hb hst2
              go_wp2_with (first | (at_builtin; refine wpList_appi (wr.setCell ⟨w.heap.size, X, none⟩ (.bool true)) _ _ 23 rfl rfl Try.underlying23 Try.info3 (w.heap.size + 1) _ _ rfl hou2 rfl hl2 hsz2 ?_; intro g2 c2 w1 hown1 hgr1 hgr2 hgr3) | fail)
              have HZ := hid (And.intro (hown1.cast HO.out) (And.intro (hst1.kept hgr1 (.inr (by intro e; have := (hou2.lt w.heap.size e.symm).1; omega))) (And.intro ((hou2.mono (Nat.le_succ _)).grown hb2 hgr1 hb2.size) (Nat.le_trans hsz2 hgr1.size))))
              clear hown1 hgr1 hgr2 hgr3 hst1 hou2 hb2
              go_wp2
              go_roundw
              case rel => exact ⟨j + 1, by omega, by go_num, by go_num, HZ.out.1, HZ.out.2.1, HZ.out.2.2.1, HZ.out.2.2.2⟩
              case measure => simp [intOf] <;> omega
        · obtain rfl : n = j := by omega
          have HZ := hid (And.intro hou hb)
          clear hou hus hb hsz
          go_wp2
          exact HG2.out _ _ HE.out (HZ.out.1.mono (by omega)) HZ.out.2
end Go.Proofs.Ytnbgnoimanpjnaa
