/-
  The walk over parterreref1.solved. Conditions: the rows are the call's own and apart, numbers below a small prime; 60 at most each way.
-/
import Derived.Test.YtlnfkkapepgilaaMatP
import Derived.Test.YtlnfkkapepgilaaGauss2
import Derived.BigQuiet
namespace Go.Proofs.Ytlnfkkapepgilaa
set_option linter.unusedVariables false
open Go.RowKit

/-- What solved gives. -/
def SolvedR (p : Int) (R n : Nat) (M : Nat → Nat → Int) (U : Nat) (e : Ending) (w' : World) : Prop := ∃ (t : Int) (val : Value) (u : List Int), e = .returned (.tuple #[.int .i64 t, val]) ∧ SolvR p R n M t u ∧ OI U w' val u

theorem mul_bd2 {x y p : Int} (hx : 0 ≤ x ∧ x < p) (hy : 0 ≤ y ∧ y < p) (hp : p ≤ 7) : 0 ≤ x * y ∧ x * y ≤ 36 := by
  refine ⟨Int.mul_nonneg hx.1 hy.1, ?_⟩
  have := Int.mul_le_mul (show x ≤ 6 by omega) (show y ≤ 6 by omega) hy.1 (by decide)
  omega

set_option maxHeartbeats 4000000 in
set_option maxRecDepth 100000 in
theorem solved_any (P R n B : Nat) (v : Value) (M : Nat → Nat → Int) (w : World) (hm : MatP B w.heap.size w v R n M) (hp : smallB (P : Int) = true) (hR : R ≤ 60) (hn : n ≤ 60) (hen : ∀ i, i < R → ∀ j, j ≤ n → 0 ≤ M i j ∧ M i j < (P : Int)) (hB : B ≤ w.heap.size) :
    Calls Try.prog 45 #[v, .int .i64 n, .int .i64 P] w fun e w' => SolvedR P R n M w.heap.size e w' ∧ Below B w w' := by
  have hsm := small_cases hp
  have hP7 : P ≤ 7 := by omega
  have hP2 : 2 ≤ P := by omega
  have HSP := hid hp
  have HG0 := hid (GInv.start hen (fun _ => 0))
  obtain ⟨va, vc, rfl⟩ : ∃ a c, v = .slice a R c := by
    obtain ⟨g, cp, h⟩ := hm
    exact h.len
  have HM0 := hid hm
  have HVA : Hid (0 < R → ∃ go, va = some ⟨go, 0, none⟩) := hid (fun h0 => by
    obtain ⟨g, cp, h⟩ := hm
    obtain ⟨go, c, e⟩ := h.form h0
    exact ⟨go, (by simpa using e : va = _ ∧ _).1⟩)
  clear hm hen hsm hp
  go_enter Try.func45, Try.ntmps45
  go_wp2_with fail
  go_loopw [8, 9, 10, 11, 12, 13, 14, 15, 16] (fun v8 v9 v10 _ _ _ _ _ _ wr => ∃ (c a : Nat) (e : Nat → Nat) (M' : Nat → Nat → Int) (ll : List Int), c ≤ n ∧ v8 = .int .i64 a ∧ v10 = .int .i64 c ∧ Hid (ll.length ≤ c) ∧ Hid (GInv P R n M M' c a e) ∧ OI w.heap.size wr v9 ll ∧ MatP B w.heap.size wr (.slice va R vc) R n M' ∧ Below B w wr) (fun _ _ v10 _ _ _ _ _ _ _ => n - (intOf v10).toNat)
  case atStart => exact ⟨0, 0, _, M, [], Nat.zero_le _, rfl, rfl, hid (Nat.le_refl _), HG0.out, OI.nil _ _, HM0.out, Below.refl _ _⟩
  case round =>
    clear HG0 HM0
    obtain ⟨c, a, e, M', ll, hcn, rfl, rfl, HLL, HG, ho, hM, hB2⟩ := hrel
    have hac := HG.out.ac
    have haR := HG.out.aR
    have HX := hid (And.intro ho (And.intro hM hB2))
    clear ho hM hB2
    by_cases hlt : c < n
    · have hlti : (c : Int) < (n : Int) := by omega
      go_wp2_with fail
      go_loopw [11] (fun x wq => ∃ k : Nat, x = .int .i64 k ∧ a ≤ k ∧ k ≤ R ∧ Hid (∀ i, a ≤ i → i < k → M' i c = 0) ∧ OI w.heap.size wq u9 ll ∧ MatP B w.heap.size wq (.slice va R vc) R n M' ∧ Below B w wq) (fun x _ => R - (intOf x).toNat)
      case atStart => exact ⟨a, rfl, Nat.le_refl _, haR, hid (fun i h1 h2 => by omega), HX.out.1, HX.out.2.1, HX.out.2.2⟩
      case round =>
        clear HX
        obtain ⟨k, rfl, hak, hkR, HZ, ho, hM, hB2⟩ := hrel
        by_cases hkl : k < R
        · obtain ⟨go, rfl⟩ := HVA.out (by omega)
          obtain ⟨g, cp, hG⟩ := hM
          have hoc := hG.oc hkl
          have hic := hG.ic hkl (show c ≤ n by omega)
          have hki : (k : Int) < (R : Int) := by omega
          have hcn1 : c < n + 1 := by omega
          have hMG := hid hG
          have HX := hid (And.intro ho (And.intro (show MatP B w.heap.size wr (.slice (some ⟨go, 0, none⟩) R vc) R n M' from ⟨g, cp, hG⟩) hB2))
          clear ho hG hB2
          by_cases h0 : M' k c = 0
          · have HZ2 : Hid (∀ i, a ≤ i → i < k + 1 → M' i c = 0) := hid (fun i h1 h2 => by
              by_cases e : i = k
              · rw [e]; exact h0
              · exact HZ.out i h1 (by omega))
            rw [h0] at hic
            clear h0
            go_wp2
            go_roundw
            case rel => exact ⟨k + 1, by go_num, by omega, by omega, HZ2.out, HX.out.1, HX.out.2.1, HX.out.2.2⟩
            case measure => simp [intOf] <;> omega
          · have hx0 : (M' k c == 0) = false := by rw [beq_eq_false_iff_ne]; exact h0
            have hkR2 : ((k : Int) == (R : Int)) = false := by rw [beq_eq_false_iff_ne]; omega
            have haR2 : a < R := by omega
            have hoca := hMG.out.oc haR2
            have hfa := hMG.out.ofz a
            have hfk := hMG.out.ofz k
            have hst := hMG.out.out.stored a (rowS n g cp k)
            have hck2 := hst.1.cell k (by rw [List.length_set, outV_len]; exact hkl)
            rw [List.getElem?_set, outV_get hkl, outV_len, show (if a = k then (if a < R then some (rowS n g cp k) else none) else some (Value.slice (some ⟨g k, 0, none⟩) (n + 1) (cp k))) = some (Value.slice (some ⟨g k, 0, none⟩) (n + 1) (cp k)) by rw [if_pos haR2]; exact ite_self _] at hck2
            have hfk2 := hst.1.frozen k
            have HSW1 := hMG.out.swap haR2 hkl
            have hgoB := (hMG.out.out.lt go rfl).1
            have hB3 := HX.out.2.2.grown HSW1.2 (Nat.le_trans hB HX.out.2.2.size) (fun k h => by cases h; exact hgoB)
            have ho3 := HX.out.1.kept HSW1.2 (.inr (fun e => by
              have h1 := (HX.out.1.lt go e).1
              have h2 := hMG.out.vu go rfl
              omega))
            have hG1 := HG.out.swap hak hkl
            have hx1 : swM M' a k a c = M' k c := by unfold swM swA; rw [if_pos rfl]
            have hen1 := hG1.en a haR2 c (by omega)
            have HM1 := HSW1.1
            clear HX hst HSW1
            unfold rowS at HM1 hck2 hfk2 hB3 ho3
            have HY := hid (And.intro ho3 (And.intro HM1 hB3))
            clear ho3 HM1 hB3
            obtain ⟨A, hA⟩ : ∃ A : Nat, M' k c = (A : Int) := ⟨(M' k c).toNat, (Int.toNat_of_nonneg (by rw [← hx1]; exact hen1.1)).symm⟩
            have hAP : A < P := by omega
            have hA0 : 1 ≤ A := by omega
            have HG1 := hid hG1
            have HA : Hid (swM M' a k a c = (A : Int)) := hid (by rw [hx1, hA])
            clear hx1 hen1 hG1 h0
            rw [hA] at hic hx0
            clear hA HZ HG
            generalize swM M' a k = M1 at *
            generalize hW1 : (wr.setCell ⟨go, a, none⟩ (Value.slice (some ⟨g k, 0, none⟩) (n + 1) (cp k))).setCell ⟨go, k, none⟩ (Value.slice (some ⟨g a, 0, none⟩) (n + 1) (cp a)) = W1 at *
            obtain ⟨iv, hiv1, hiv2, hiv3, hiv4⟩ := inv_ex HSP.out hA0 hAP
            have HIV := hid hiv4
            have HI3 := hid hiv3
            clear hiv3 hiv4 hMG
            generalize g k = gk at *
            generalize cp k = ck at *
            go_wp2
            go_region
            clear hW1 hck2 hfk2 hoca hoc hic hfa hfk
            go_wp2_with fail
            go_loopw [12] (fun x wq => ∃ b : Nat, x = .int .i64 b ∧ 1 ≤ b ∧ b ≤ iv ∧ OI w.heap.size wq u9 ll ∧ MatP B w.heap.size wq (.slice (some ⟨go, 0, none⟩) R vc) R n M1 ∧ Below B w wq) (fun x _ => iv - (intOf x).toNat)
            case atStart => exact ⟨1, rfl, Nat.le_refl _, hiv1, HY.out.1.drew, HY.out.2.1.drew, HY.out.2.2.drew⟩
            case round =>
              clear HY
              obtain ⟨b, rfl, hb1, hbv, ho, ⟨g1, cp1, hG⟩, hB2⟩ := hrel
              have hoc := hG.oc haR2
              have hic := hG.ic haR2 (show c ≤ n by omega)
              rw [HA.out] at hic
              have hai : (a : Int) < (R : Int) := by omega
              have hm : (b : Int) * (A : Int) = ((A * b : Nat) : Int) := by rw [Int.natCast_mul, Int.mul_comm]
              have hmb : A * b ≤ 49 := Nat.mul_le_mul (show A ≤ 7 by omega) (show b ≤ 7 by omega)
              have hr : ((A * b : Nat) : Int).tmod (P : Int) = ((A * b % P : Nat) : Int) := (Int.ofNat_tmod _ _).symm
              have hPz : (P : Int) ≠ 0 := by omega
              have HX := hid (And.intro ho (And.intro (show MatP B w.heap.size wr (.slice (some ⟨go, 0, none⟩) R vc) R n M1 from ⟨g1, cp1, hG⟩) hB2))
              clear ho hG hB2
              by_cases he : b = iv
              · subst he
                rw [HI3.out, show ((1 : Nat) : Int) = 1 from rfl] at hr
                generalize g1 a = ga at *
                generalize cp1 a = ca at *
                have HIP : Hid ((P : Int) ∣ M1 a c * (b : Int) - 1) := hid (by
                  rw [HA.out]
                  have e2 := Nat.div_add_mod (A * b) P
                  rw [HI3.out] at e2
                  refine ⟨((A * b / P : Nat) : Int), ?_⟩
                  rw [← Int.natCast_mul, ← Int.natCast_mul]
                  omega)
                generalize A * b = m at *
                clear HI3 HIV
                go_wp2_with fail
                go_loopw [13] (fun x wq => ∃ j : Nat, x = .int .i64 j ∧ j ≤ n + 1 ∧ OI w.heap.size wq u9 ll ∧ MatP B w.heap.size wq (.slice (some ⟨go, 0, none⟩) R vc) R n (scM P M1 a b j) ∧ Below B w wq) (fun x _ => n + 1 - (intOf x).toNat)
                case atStart => exact ⟨0, rfl, Nat.zero_le _, HX.out.1, HX.out.2.1.congr (fun x _ y _ => by unfold scM; rw [if_neg (by omega)]), HX.out.2.2⟩
                case round =>
                  clear HX
                  obtain ⟨j, rfl, hjn, ho, ⟨g2, cp2, hG⟩, hB2⟩ := hrel
                  by_cases hjl : j ≤ n
                  · have hji : (j : Int) ≤ (n : Int) := by omega
                    have hjn1 : j < n + 1 := by omega
                    have hoc := hG.oc haR2
                    have hic := hG.ic haR2 hjl
                    have hfz := hG.fz haR2 j
                    have hej : scM P M1 a b j a j = M1 a j := by unfold scM; rw [if_neg (by omega)]
                    rw [hej] at hic
                    have hen := HG1.out.en a haR2 j hjl
                    have hmb := mul_bd2 hen (show 0 ≤ (b : Int) ∧ (b : Int) < P by omega) (show (P : Int) ≤ 7 by omega)
                    have hpt := hG.put haR2 j ((M1 a j * (b : Int)) % P)
                    have hM3 := hpt.1.congr (M' := scM P M1 a b (j + 1)) (fun x _ y _ => scM_step x y)
                    have hB3 := hB2.grown hpt.2 (Nat.le_trans hB hB2.size) (fun k h => by cases h; exact (hG.gB haR2).1)
                    have ho3 := ho.kept hpt.2 (.inr (fun e => by
                      have h1 := (ho.lt (g2 a) e).1
                      have h2 := hG.gu a haR2
                      omega))
                    have htm : (M1 a j * (b : Int)).tmod (P : Int) = (M1 a j * (b : Int)) % P := Int.tmod_eq_emod_of_nonneg hmb.1
                    have hlo := Int.emod_nonneg (M1 a j * (b : Int)) (b := (P : Int)) (by omega)
                    have hup := Int.emod_lt_of_pos (M1 a j * (b : Int)) (b := (P : Int)) (by omega)
                    have HY := hid (And.intro ho3 (And.intro (show MatP B w.heap.size _ (.slice (some ⟨go, 0, none⟩) R vc) R n (scM P M1 a b (j + 1)) from ⟨g2, cp2, hM3⟩) hB3))
                    clear ho hG hB2 hpt hM3 hB3 ho3 hej
                    generalize M1 a j = y at *
                    generalize hm2 : y * (b : Int) = m2 at *
                    generalize hr2 : m2 % (P : Int) = r2 at *
                    generalize hW2 : wr.setCell ⟨g2 a, j, none⟩ (.int .i64 r2) = W2 at *
                    generalize g2 a = ga2 at *
                    generalize cp2 a = ca2 at *
                    go_wp2
                    go_region
                    go_wp2
                    go_roundw
                    case rel => exact ⟨j + 1, by go_num, by omega, HY.out.1, HY.out.2.1.drew, HY.out.2.2.drew⟩
                    case measure => simp [intOf] <;> omega
                  · obtain rfl : j = n + 1 := by omega
                    have hji : ¬ ((n + 1 : Nat) : Int) ≤ (n : Int) := by omega
                    have HG2 := hid (HG1.out.scale (by omega) haR2 HIP.out)
                    have H1 : Hid (scM P M1 a b (n + 1) a c = 1) := hid (by
                      have h1 := HIP.out
                      unfold scM
                      rw [if_pos ⟨rfl, by omega⟩]
                      have h2 := Int.emod_emod_of_dvd (M1 a c * (b : Int)) (Int.dvd_refl (P : Int))
                      have h5 : (M1 a c * (b : Int)) % P = 1 % P := Int.emod_eq_emod_iff_emod_sub_eq_zero.2 (Int.emod_eq_zero_of_dvd h1)
                      rw [h5, Int.emod_eq_of_lt (by omega) (by omega)])
                    have HX := hid (And.intro ho (And.intro (show MatP B w.heap.size wr (.slice (some ⟨go, 0, none⟩) R vc) R n (scM P M1 a b (n + 1)) from ⟨g2, cp2, hG⟩) hB2))
                    clear ho hG hB2 HA HG1 HIP
                    generalize scM P M1 a b (n + 1) = M2 at *
                    go_wp2_with fail
                    go_loopw [14, 15, 16] (fun x _ _ wq => ∃ i : Nat, x = .int .i64 i ∧ i ≤ R ∧ OI w.heap.size wq u9 ll ∧ MatP B w.heap.size wq (.slice (some ⟨go, 0, none⟩) R vc) R n (elO P M2 a c i) ∧ Below B w wq) (fun x _ _ _ => R - (intOf x).toNat)
                    case atStart => exact ⟨0, rfl, Nat.zero_le _, HX.out.1, HX.out.2.1.congr (fun x _ y _ => (elO_zero x y).symm), HX.out.2.2⟩
                    case round =>
                      clear HX
                      obtain ⟨i, rfl, hiR, ho, hM, hB2⟩ := hrel
                      by_cases hil : i < R
                      · have hii : (i : Int) < (R : Int) := by omega
                        by_cases hia : i = a
                        · subst hia
                          have hne : ((i : Int) != (i : Int)) = false := by simp
                          have HX := hid (And.intro ho (And.intro (hM.congr (M' := elO P M2 i c (i + 1)) (fun x _ y hy => elO_skip (fun y hy => HG2.out.en i haR2 y hy) (.inl rfl) x y hy)) hB2))
                          clear ho hM hB2
                          go_wp2
                          go_roundw
                          case rel => exact ⟨i + 1, by go_num, by omega, HX.out.1, HX.out.2.1, HX.out.2.2⟩
                          case measure => simp [intOf] <;> omega
                        · have hne : ((i : Int) != (a : Int)) = true := by rw [bne_iff_ne]; omega
                          obtain ⟨g3, cp3, hG⟩ := hM
                          have hoc := hG.oc hil
                          have hic := hG.ic hil (show c ≤ n by omega)
                          have heO : elO P M2 a c i i c = M2 i c := if_neg (by omega)
                          rw [heO] at hic
                          by_cases h0 : M2 i c = 0
                          · rw [h0] at hic
                            have HX := hid (And.intro ho (And.intro ((show MatP B w.heap.size wr (.slice (some ⟨go, 0, none⟩) R vc) R n (elO P M2 a c i) from ⟨g3, cp3, hG⟩).congr (M' := elO P M2 a c (i + 1)) (fun x _ y hy => elO_skip (fun y hy => HG2.out.en i hil y hy) (.inr h0) x y hy)) hB2))
                            clear ho hG hB2 heO h0
                            generalize g3 i = gi at *
                            generalize cp3 i = ci at *
                            go_wp2
                            go_roundw
                            case rel => exact ⟨i + 1, by go_num, by omega, HX.out.1, HX.out.2.1, HX.out.2.2⟩
                            case measure => simp [intOf] <;> omega
                          · have hx1 : (M2 i c != 0) = true := by rw [bne_iff_ne]; exact h0
                            have hfin := HG2.out.en i hil c (by omega)
                            have HX := hid (And.intro ho (And.intro (show MatP B w.heap.size wr (.slice (some ⟨go, 0, none⟩) R vc) R n (elO P M2 a c i) from ⟨g3, cp3, hG⟩) hB2))
                            have HFE : Hid (M2 i c = M2 i c) := hid rfl
                            clear ho hG hB2 heO h0
                            generalize g3 i = gi at *
                            generalize cp3 i = ci at *
                            obtain ⟨f, hf⟩ : ∃ f, M2 i c = f := ⟨_, rfl⟩
                            rw [hf] at hic hx1 hfin
                            have HF := hid hf
                            clear hf
                            go_wp2_with fail
                            go_loopw [16] (fun x wq => ∃ j : Nat, x = .int .i64 j ∧ j ≤ n + 1 ∧ OI w.heap.size wq u9 ll ∧ MatP B w.heap.size wq (.slice (some ⟨go, 0, none⟩) R vc) R n (elM P (elO P M2 a c i) a f i j) ∧ Below B w wq) (fun x _ => n + 1 - (intOf x).toNat)
                            case atStart => exact ⟨0, rfl, Nat.zero_le _, HX.out.1, HX.out.2.1.congr (fun x _ y _ => by unfold elM; rw [if_neg (by omega)]), HX.out.2.2⟩
                            case round =>
                              clear HX hic hoc hx1
                              obtain ⟨j, rfl, hjn, ho, ⟨g4, cp4, hG⟩, hB2⟩ := hrel
                              by_cases hjl : j ≤ n
                              · have hji : (j : Int) ≤ (n : Int) := by omega
                                have hjn1 : j < n + 1 := by omega
                                have hoc := hG.oc hil
                                have hoca := hG.oc haR2
                                have hic := hG.ic hil hjl
                                have hica := hG.ic haR2 hjl
                                have hfz := hG.fz hil j
                                have e1 : elM P (elO P M2 a c i) a f i j i j = M2 i j := by
                                  unfold elM elO
                                  rw [if_neg (by omega), if_neg (by omega)]
                                have e2 : elM P (elO P M2 a c i) a f i j a j = M2 a j := by
                                  unfold elM elO
                                  rw [if_neg (by omega), if_neg (by omega)]
                                have e3 : elO P M2 a c i i j = M2 i j := if_neg (by omega)
                                have e4 : elO P M2 a c i a j = M2 a j := if_neg (by omega)
                                rw [e1] at hic
                                rw [e2] at hica
                                have hen1 := HG2.out.en i hil j hjl
                                have hen2 := HG2.out.en a haR2 j hjl
                                have hmb := mul_bd2 hfin hen2 (show (P : Int) ≤ 7 by omega)
                                have hpt := hG.put hil j ((M2 i j - f * M2 a j) % P)
                                have hM3 := hpt.1.congr (M' := elM P (elO P M2 a c i) a f i (j + 1)) (fun x _ y _ => by
                                  have := elM_step (p := (P : Int)) (M := elO P M2 a c i) (a := a) (i := i) (u := j) (f := f) x y
                                  rw [e3, e4] at this
                                  exact this)
                                have hB3 := hB2.grown hpt.2 (Nat.le_trans hB hB2.size) (fun k h => by cases h; exact (hG.gB hil).1)
                                have ho3 := ho.kept hpt.2 (.inr (fun e => by
                                  have h1 := (ho.lt (g4 i) e).1
                                  have h2 := hG.gu i hil
                                  omega))
                                have HY := hid (And.intro ho3 (And.intro (show MatP B w.heap.size _ (.slice (some ⟨go, 0, none⟩) R vc) R n (elM P (elO P M2 a c i) a f i (j + 1)) from ⟨g4, cp4, hM3⟩) hB3))
                                clear ho hG hB2 hpt hM3 hB3 ho3 e1 e2 e3 e4
                                obtain ⟨y, hy⟩ : ∃ y, M2 i j = y := ⟨_, rfl⟩
                                obtain ⟨z, hz⟩ : ∃ z, M2 a j = z := ⟨_, rfl⟩
                                rw [hy, hz] at HY
                                rw [hy] at hic hen1
                                rw [hz] at hica hen2 hmb
                                clear hy hz
                                generalize hm2 : f * z = m2 at *
                                have htm : ((y - m2).tmod (P : Int) + (P : Int)).tmod (P : Int) = (y - m2) % P := by
                                  have h1 : (y - m2).tmod (P : Int) + P > 0 := by
                                    have := Int.lt_tmod_of_pos (y - m2) (show (0 : Int) < (P : Int) by omega)
                                    omega
                                  rw [Int.tmod_eq_emod_of_nonneg (by omega)]
                                  have h2 : (y - m2).tmod (P : Int) = (y - m2) - (P : Int) * (y - m2).tdiv P := Int.tmod_def _ _
                                  rw [h2, Int.add_emod_right, Int.sub_mul_emod_self_left]
                                have htb := Int.tmod_lt_of_pos (y - m2) (show (0 : Int) < (P : Int) by omega)
                                have htb2 := Int.lt_tmod_of_pos (y - m2) (show (0 : Int) < (P : Int) by omega)
                                generalize hd2 : y - m2 = d2 at *
                                have hdb : -36 ≤ d2 ∧ d2 ≤ 7 := by omega
                                generalize ht2 : d2.tmod (P : Int) = t2 at *
                                generalize hr2 : d2 % (P : Int) = r2 at *
                                have hPz : (P : Int) ≠ 0 := by omega
                                generalize hW2 : wr.setCell ⟨g4 i, j, none⟩ (.int .i64 r2) = W2 at *
                                generalize g4 i = gi2 at *
                                generalize cp4 i = ci2 at *
                                generalize g4 a = ga2 at *
                                generalize cp4 a = ca2 at *
                                go_wp2
                                go_region
                                go_wp2
                                go_roundw
                                case rel => exact ⟨j + 1, by go_num, by omega, HY.out.1, HY.out.2.1.drew, HY.out.2.2.drew⟩
                                case measure => simp [intOf] <;> omega
                              · obtain rfl : j = n + 1 := by omega
                                have hji : ¬ ((n + 1 : Nat) : Int) ≤ (n : Int) := by omega
                                have HX := hid (And.intro ho (And.intro ((show MatP B w.heap.size wr (.slice (some ⟨go, 0, none⟩) R vc) R n (elM P (elO P M2 a c i) a f i (n + 1)) from ⟨g4, cp4, hG⟩).congr (M' := elO P M2 a c (i + 1)) (fun x _ y hy => by rw [← HF.out]; exact elO_row hia x y hy)) hB2))
                                clear ho hG hB2
                                go_wp2
                                go_roundw
                                case rel => exact ⟨i + 1, by go_num, by omega, HX.out.1, HX.out.2.1, HX.out.2.2⟩
                                case measure => simp [intOf] <;> omega
                      · obtain rfl : i = R := by omega
                        have hii : ¬ (i : Int) < (i : Int) := by omega
                        have HG3 := hid (HG2.out.elim (by omega) haR2 hlt H1.out)
                        have hll := HLL.out
                        have HX := hid (And.intro ho (And.intro hM hB2))
                        have hsz : w.heap.size ≤ wr.heap.size := hB2.size
                        clear ho hM hB2 HG2 H1
                        go_wp2_with (at_builtin; refine wpList_appi wr _ _ 30 rfl rfl Try.underlying30 Try.info3 w.heap.size _ _ rfl HX.out.1 rfl (by omega) hsz ?_; intro g7 c7 w4 hown1 hg1 hg2 hg3)
                        have hM4 := HX.out.2.1.kept hg1 (fun k hk => (HX.out.1.lt k hk).1)
                        have hb4 := HX.out.2.2.grown hg1 (Nat.le_trans hB HX.out.2.2.size) (fun k hk => Nat.le_trans hB (HX.out.1.lt k hk).1)
                        have hl2 : (ll ++ [(c : Int)]).length ≤ c + 1 := by rw [List.length_append, List.length_singleton]; omega
                        have HY := hid (And.intro hl2 (And.intro hown1 (And.intro hM4 hb4)))
                        clear hown1 hg1 hg2 hg3 hM4 hb4 HX hl2
                        go_roundw
                        case rel => exact ⟨c + 1, a + 1, _, _, ll ++ [(c : Int)], by omega, by go_num, by go_num, HY.out.1, HG3.out, HY.out.2.1, HY.out.2.2.1, HY.out.2.2.2⟩
                        case measure => simp [intOf] <;> omega
              · have hne := HIV.out b (by omega)
                have hltr : A * b % P < P := Nat.mod_lt _ (by omega)
                generalize A * b % P = r at *
                generalize A * b = m at *
                have hy : ((r : Int) != 1) = true := by rw [bne_iff_ne]; omega
                have hbv2 : b < iv := by omega
                generalize g1 a = ga at *
                generalize cp1 a = ca at *
                go_wp2
                go_roundw
                case rel => exact ⟨b + 1, by go_num, by omega, by omega, HX.out.1, HX.out.2.1, HX.out.2.2⟩
                case measure => simp [intOf] <;> omega
        · obtain rfl : k = R := by omega
          have hki : ¬ (k : Int) < (k : Int) := by omega
          have HS := hid (HG.out.skip hlt (fun i h1 h2 => HZ.out i h1 h2))
          have HL2 : Hid (ll.length ≤ c + 1) := hid (by have := HLL.out; omega)
          have HX := hid (And.intro ho (And.intro hM hB2))
          clear ho hM hB2
          go_wp2
          go_roundw
          case rel => exact ⟨c + 1, a, e, M', ll, by omega, rfl, by go_num, HL2.out, HS.out, HX.out.1, HX.out.2.1, HX.out.2.2⟩
          case measure => simp [intOf] <;> omega
    · obtain rfl : c = n := by omega
      have hlti : ¬ (c : Int) < (c : Int) := by omega
      go_wp2_with fail
      go_loopw [17] (fun x wq => ∃ i : Nat, x = .int .i64 i ∧ a ≤ i ∧ i ≤ R ∧ Hid (∀ k, a ≤ k → k < i → M' k c = 0) ∧ MatP B w.heap.size wq (.slice va R vc) R c M' ∧ Below B w wq) (fun x _ => R - (intOf x).toNat)
      case atStart => exact ⟨a, rfl, Nat.le_refl _, haR, hid (fun k h1 h2 => by omega), HX.out.2.1, HX.out.2.2⟩
      case round =>
        clear HX
        obtain ⟨i, rfl, hai, hiR, HZ, hM, hB2⟩ := hrel
        by_cases hil : i < R
        · obtain ⟨go, rfl⟩ := HVA.out (by omega)
          obtain ⟨g, cp, hG⟩ := hM
          have hoc := hG.oc hil
          have hic := hG.ic hil (Nat.le_refl c)
          have hii : (i : Int) < (R : Int) := by omega
          have hcn1 : c < c + 1 := by omega
          have HX := hid (And.intro (show MatP B w.heap.size wr (.slice (some ⟨go, 0, none⟩) R vc) R c M' from ⟨g, cp, hG⟩) hB2)
          clear hG hB2
          by_cases h0 : M' i c = 0
          · have HZ2 : Hid (∀ k, a ≤ k → k < i + 1 → M' k c = 0) := hid (fun k h1 h2 => by
              by_cases e : k = i
              · rw [e]; exact h0
              · exact HZ.out k h1 (by omega))
            rw [h0] at hic
            clear h0
            generalize g i = gi at *
            generalize cp i = ci at *
            go_wp2
            go_roundw
            case rel => exact ⟨i + 1, by go_num, by omega, by omega, HZ2.out, HX.out.1, HX.out.2⟩
            case measure => simp [intOf] <;> omega
          · have hx1 : (M' i c != 0) = true := by rw [bne_iff_ne]; exact h0
            have HN := hid (HG.out.none hai hil h0)
            clear h0
            generalize g i = gi at *
            generalize cp i = ci at *
            go_wp2
            go_ret2
            exact ⟨⟨0, _, [], rfl, .inl ⟨rfl, rfl, HN.out⟩, OI.nil _ _⟩, HX.out.2⟩
        · obtain rfl : i = R := by omega
          have hii : ¬ (i : Int) < (i : Int) := by omega
          have HX := hid (And.intro hM hB2)
          clear hM hB2
          by_cases hlt2 : a < c
          · have hlt2i : (a : Int) < (c : Int) := by omega
            have HN := hid (HG.out.two (by omega) HZ.out hlt2)
            go_wp2
            go_ret2
            exact ⟨⟨2, _, [], rfl, .inr (.inl ⟨rfl, rfl, HN.out⟩), OI.nil _ _⟩, HX.out.2⟩
          · have hlt2i : ¬ (a : Int) < (c : Int) := by omega
            have HN : Hid (c ≤ i ∧ Sol P i c M (fun j => M' j c)) := hid (by
              rcases HG.out.one hlt2 with h | ⟨k, h1, h2, h3⟩
              · exact h
              · exact absurd (HZ.out k h1 h2) h3)
            have hci := HN.out.1
            go_wp2_with fail
            go_loopw [18, 19] (fun o x wq => ∃ j : Nat, x = .int .i64 j ∧ j ≤ c ∧ OI w.heap.size wq o ((List.range j).map fun k => M' k c) ∧ MatP B w.heap.size wq (.slice va i vc) i c M' ∧ Below B w wq) (fun _ x _ => c - (intOf x).toNat)
            case atStart => exact ⟨0, rfl, Nat.zero_le _, OI.nil _ _, HX.out.1, HX.out.2⟩
            case round =>
              clear HX
              obtain ⟨j, rfl, hjc, ho, hM, hB2⟩ := hrel
              by_cases hjl : j < c
              · obtain ⟨go, rfl⟩ := HVA.out (by omega)
                obtain ⟨g, cp, hG⟩ := hM
                have hji : (j : Int) < (c : Int) := by omega
                have hjR : j < i := by omega
                have hoc := hG.oc hjR
                have hic := hG.ic hjR (Nat.le_refl c)
                have hcn1 : c < c + 1 := by omega
                have HX := hid (And.intro ho (And.intro (show MatP B w.heap.size wr (.slice (some ⟨go, 0, none⟩) i vc) i c M' from ⟨g, cp, hG⟩) hB2))
                have HE : Hid ((List.range (j + 1)).map (fun k => M' k c) = (List.range j).map (fun k => M' k c) ++ [M' j c]) := hid (by rw [List.range_succ, List.map_append]; rfl)
                have hsz : w.heap.size ≤ wr.heap.size := hB2.size
                have hlen : ((List.range j).map fun k => M' k c).length ≤ 1000000000000 := by rw [List.length_map, List.length_range]; omega
                clear ho hG hB2
                generalize M' j c = x at *
                generalize g j = gj at *
                generalize cp j = cj at *
                go_wp2_with (at_builtin; refine wpList_appi wr _ _ 30 rfl rfl Try.underlying30 Try.info3 w.heap.size _ _ rfl HX.out.1 rfl hlen hsz ?_; intro g7 c7 w4 hown1 hg1 hg2 hg3)
                have hM4 := HX.out.2.1.kept hg1 (fun k hk => (HX.out.1.lt k hk).1)
                have hb4 := HX.out.2.2.grown hg1 (Nat.le_trans hB HX.out.2.2.size) (fun k hk => Nat.le_trans hB (HX.out.1.lt k hk).1)
                rw [List.length_map, List.length_range] at hown1
                have HY := hid (And.intro (hown1.cast HE.out.symm) (And.intro hM4 hb4))
                clear hown1 hg1 hg2 hg3 hM4 hb4 HX
                go_roundw
                case rel => exact ⟨j + 1, by go_num, by omega, HY.out.1, HY.out.2.1, HY.out.2.2⟩
                case measure => simp [intOf] <;> omega
              · obtain rfl : j = c := by omega
                have hji : ¬ (j : Int) < (j : Int) := by omega
                have HR : Hid (SolvR P i j M 1 ((List.range j).map fun k => M' k j)) := hid (by
                  refine .inr (.inr ⟨rfl, HN.out.1, by simp, fun x hx => ?_, fun k hk => ?_⟩)
                  · obtain ⟨k, hk, rfl⟩ := List.mem_map.1 hx
                    have := List.mem_range.1 hk
                    exact HG.out.en k (by omega) j (Nat.le_refl _)
                  · have h1 := HN.out.2 k hk
                    unfold rowM at h1 ⊢
                    rw [sm_congr (g := fun q => M k q * M' q j) j (fun q hq => by show M k q * ((List.range j).map fun k => M' k j).getD q 0 = _; rw [List.getD_eq_getElem?_getD, List.getElem?_map, List.getElem?_range hq]; rfl)]
                    exact h1)
                have HX := hid (And.intro ho hB2)
                clear ho hM hB2
                go_wp2
                go_ret2
                exact ⟨⟨1, _, _, rfl, HR.out, HX.out.1⟩, HX.out.2⟩
end Go.Proofs.Ytlnfkkapepgilaa
