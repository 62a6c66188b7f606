/-
  The walk over parterreref4.SomeOf. Conditions: the slice can be read; of 1 to 5 numbers.
-/
import Derived.Test.YthbpdfkaacgpoaaTscof
import Derived.Test.YthbpdfkaacgpoaaWints
namespace Go.Proofs.Ythbpdfkaacgpoaa
set_option linter.unusedVariables false
open Go.RowKit

def kkN : Nat → Nat
  | 0 => 0
  | a + 1 => kkN a + a
/-- The cells behind a row's first so many pairs; behind so many rows. -/
def celR (N code a : Nat) (X : List Int) : Nat → List Int
  | 0 => X
  | b + 1 => if code / 2 ^ (kkN a + b) % 2 = 1 then (celR N code a X b).set (a * N + b) 1 else (celR N code a X b).set (b * N + a) 1
def celA (N code : Nat) : Nat → List Int
  | 0 => List.replicate (N * N) 0
  | a + 1 => celR N code a (celA N code a) a
theorem celR_len (N code a : Nat) (X : List Int) : ∀ b, (celR N code a X b).length = X.length
  | 0 => rfl
  | b + 1 => by rw [celR]; split <;> rw [List.length_set, celR_len N code a X b]
theorem celA_len (N code : Nat) : ∀ a, (celA N code a).length = N * N
  | 0 => by simp [celA]
  | a + 1 => by rw [celA, celR_len, celA_len N code a]
def is01 (X : List Int) : Prop := ∀ x ∈ X, x = 0 ∨ x = 1
theorem is01_set {X : List Int} (h : is01 X) (i : Nat) : is01 (X.set i 1) := fun x hx => by
  rcases List.mem_or_eq_of_mem_set hx with e | e
  · exact h x e
  · exact .inr e
theorem celR_01 {N code a : Nat} {X : List Int} (h : is01 X) : ∀ b, is01 (celR N code a X b)
  | 0 => h
  | b + 1 => by rw [celR]; split <;> exact is01_set (celR_01 h b) _
theorem celA_01 (N code : Nat) : ∀ a, is01 (celA N code a)
  | 0 => fun x hx => .inl (by simp [celA] at hx; exact hx.2)
  | a + 1 => celR_01 (celA_01 N code a) a
theorem is01_gD {X : List Int} (h : is01 X) (i : Nat) : gD X i = 0 ∨ gD X i = 1 := by
  unfold gD
  rw [List.getD_eq_getElem?_getD]
  cases e : X[i]? with
  | none => exact .inl rfl
  | some x => exact h x (List.mem_of_getElem? e)
theorem kkN_le : ∀ a, a ≤ 5 → kkN a ≤ 10 := by
  intro a ha
  have : a = 0 ∨ a = 1 ∨ a = 2 ∨ a = 3 ∨ a = 4 ∨ a = 5 := by omega
  rcases this with h | h | h | h | h | h <;> subst h <;> decide
/-- Are there tournaments with these scores, of the first so many? -/
def somB (l : List Int) (N t : Nat) : Bool := (List.range t).any fun code => decide (scL N (celA N code N) = l)
theorem somB_yes {l : List Int} {N code t : Nat} (h1 : code < t) (h : scL N (celA N code N) = l) : somB l N t = true := List.any_eq_true.2 ⟨code, List.mem_range.2 h1, decide_eq_true h⟩
theorem somB_no {l : List Int} {N t : Nat} (h : ∀ code, code < t → scL N (celA N code N) ≠ l) : somB l N t = false := by
  cases hb : somB l N t with
  | false => rfl
  | true =>
    obtain ⟨s, hs, h2⟩ := List.any_eq_true.1 hb
    exact absurd (of_decide_eq_true h2) (h s (List.mem_range.1 hs))

set_option maxHeartbeats 2000000 in
set_option maxRecDepth 100000 in
theorem SomeOf_ok (v : Value) (l : List Int) (N : Nat) (w : World) (hv : Sl w v l) (hl : l.length = N) (hN1 : 1 ≤ N) (hN5 : N ≤ 5) :
    Calls Try.prog 31 #[v] w fun e w' => e = .returned (.bool (somB l N (2 ^ (N * (N - 1) / 2)))) ∧ Below w.heap.size w w' := by
  have HSC := hid (fun X (u : Value) (w1 : World) (h1 : Sl w1 u X) (h2 : X.length = N * N) (h3 : is01 X) => ScoresOf_ok N u X w1 h1 hN1 (by omega) h2 (is01_gD h3))
  have HV := hid hv
  obtain ⟨a0, c0, N', rfl, hN', hl1, hl2⟩ := hv.open
  obtain rfl : N' = N := by rw [← hN'.out, hl]
  have HZ0 : Hid (∀ code, celA N' code 0 = List.replicate (N' * N') 0) := hid (fun code => rfl)
  have HZ1 : Hid (∀ code a, celA N' code (a + 1) = celR N' code a (celA N' code a) a) := hid (fun code a => rfl)
  have HR0 : Hid (∀ code a X, celR N' code a X 0 = X) := hid (fun code a X => rfl)
  have HR1 : Hid (∀ code a X b, celR N' code a X (b + 1) = if code / 2 ^ (kkN a + b) % 2 = 1 then (celR N' code a X b).set (a * N' + b) 1 else (celR N' code a X b).set (b * N' + a) 1) := hid (fun code a X b => rfl)
  have HRL := hid (fun code a X b => celR_len N' code a X b)
  have HAL := hid (fun code a => celA_len N' code a)
  have HA1 := hid (fun code a => celA_01 N' code a)
  have HK0 : Hid (kkN 0 = 0) := hid rfl
  have HK1 : Hid (∀ a, kkN (a + 1) = kkN a + a) := hid (fun a => rfl)
  have HKL := hid kkN_le
  have HP := hid (fun i j (hi : i < N') (hj : j < N') => pos_lt hi hj)
  have hNN : N' * N' ≤ 25 := Nat.mul_le_mul hN5 hN5
  have hNc : (N' : Int) * (N' : Int) = ((N' * N' : Nat) : Int) := (Int.natCast_mul _ _).symm
  have hNp : (N' : Int) - 1 = ((N' - 1 : Nat) : Int) := by omega
  have hNq : (N' : Int) * ((N' - 1 : Nat) : Int) = ((N' * (N' - 1) : Nat) : Int) := (Int.natCast_mul _ _).symm
  have hq20 : N' * (N' - 1) ≤ 20 := Nat.mul_le_mul hN5 (show N' - 1 ≤ 4 by omega)
  have hNd : ((N' * (N' - 1) : Nat) : Int).tdiv 2 = ((N' * (N' - 1) / 2 : Nat) : Int) := by rw [Int.tdiv_eq_ediv_of_nonneg (by omega)]; omega
  have hd10 : N' * (N' - 1) / 2 ≤ 10 := by omega
  have h2n : (2 : Int) ^ (N' * (N' - 1) / 2) = ((2 ^ (N' * (N' - 1) / 2) : Nat) : Int) := by simp
  have hP1 : 1 ≤ 2 ^ (N' * (N' - 1) / 2) := Nat.pos_of_ne_zero (by simp)
  have hP2 : 2 ^ (N' * (N' - 1) / 2) ≤ 1024 := Nat.pow_le_pow_right (n := 2) (by omega) hd10
  have HSY : Hid (∀ code, code < 2 ^ (N' * (N' - 1) / 2) → scL N' (celA N' code N') = l → somB l N' (2 ^ (N' * (N' - 1) / 2)) = true) := hid (fun code h1 h => somB_yes h1 h)
  have HSN : Hid ((∀ code, code < 2 ^ (N' * (N' - 1) / 2) → scL N' (celA N' code N') ≠ l) → somB l N' (2 ^ (N' * (N' - 1) / 2)) = false) := hid somB_no
  have HB0 := hid (Below.refl w.heap.size w)
  generalize somB l N' (2 ^ (N' * (N' - 1) / 2)) = SO at *
  generalize 2 ^ (N' * (N' - 1) / 2) = P at *
  generalize hpr : N' * (N' - 1) / 2 = pr at *
  generalize N' * (N' - 1) = nq at *
  generalize N' - 1 = np at *
  generalize hNNe : N' * N' = NN at *
  have HNNe := hid hNNe
  generalize celR N' = CR at *
  generalize celA N' = CA at *
  generalize scL N' = SL at *
  generalize kkN = kk at *
  clear hv hl1 hl2 hN' hpr hNNe hl
  unfold sqV at HSC
  go_enter Try.func31, Try.ntmps31
  go_wp2
  go_loopw [5, 6, 7, 8, 9, 10, 11] (fun x _ _ _ _ _ _ wr => ∃ code : Nat, x = .int .i64 code ∧ code ≤ P ∧ Hid (∀ c, c < code → SL (CA c N') ≠ l) ∧ Below w.heap.size w wr) (fun x _ _ _ _ _ _ _ => P - (intOf x).toNat)
  case atStart => exact ⟨0, rfl, Nat.zero_le _, hid (fun c h => by omega), HB0.out⟩
  case round =>
    obtain ⟨code, rfl, hcP, HC, hB⟩ := hrel
    obtain ⟨W0, rfl⟩ : ∃ W0, W0 = wr := ⟨_, rfl⟩
    by_cases hcl : code < P
    · have hcli : (code : Int) < (P : Int) := by omega
      have hsw := hB.size
      have HB := hid hB
      clear hB
      go_wp2_with (at_make; refine wpList_mk (w := W0) _ _ 22 3 (.int .i64 0) 8 rfl rfl Try.underlying22 Try.info3 rfl (by decide) W0.heap.size _ NN rfl rfl rfl (by omega) (Nat.le_refl _) ?_; intro w3 hs3 hgr3 hz3)
      have ho3 : OI W0.heap.size (w3.alloc (.cells #[.int .i64 (N' : Int), .slice (some ⟨W0.heap.size, 0, none⟩) NN NN] 24)) (.slice (some ⟨W0.heap.size, 0, none⟩) NN NN) (CA code 0) := by
        refine OI.alloc ?_ _
        unfold OI
        rw [HZ0.out, List.map_replicate]
        exact hs3
      have hA3 := Arr.new w3 24 [.int .i64 (N' : Int), .slice (some ⟨W0.heap.size, 0, none⟩) NN NN]
      have hb3 : Below W0.heap.size W0 (w3.alloc (.cells #[.int .i64 (N' : Int), .slice (some ⟨W0.heap.size, 0, none⟩) NN NN] 24)) := ((Below.refl _ _).grown hgr3 (Nat.le_refl _) (fun k h => by cases h)).alloc (by omega) _
      have HX := hid (And.intro ho3 (And.intro hA3 hb3))
      clear hs3 hgr3 ho3 hA3 hb3
      go_wp2
      go_loopw [7, 8, 9] (fun kx x _ wq => ∃ a : Nat, x = .int .i64 a ∧ a ≤ N' ∧ kx = .int .i64 (kk a) ∧ OI W0.heap.size wq (.slice (some ⟨W0.heap.size, 0, none⟩) NN NN) (CA code a) ∧ Arr wq w3.heap.size 24 [.int .i64 (N' : Int), .slice (some ⟨W0.heap.size, 0, none⟩) NN NN] ∧ Below W0.heap.size W0 wq) (fun _ x _ _ => N' - (intOf x).toNat)
      case atStart => exact ⟨0, rfl, Nat.zero_le _, by rw [HK0.out]; rfl, HX.out.1, HX.out.2.1, HX.out.2.2⟩
      case round =>
        clear HX
        obtain ⟨a, rfl, haN, rfl, hO, hA, hb⟩ := hrel
        by_cases hal : a < N'
        · have hali : (a : Int) < (N' : Int) := by omega
          have HX := hid (And.intro hO (And.intro hA hb))
          clear hO hA hb
          go_wp2_with fail
          go_loopw [7, 9] (fun kx x wp => ∃ b : Nat, x = .int .i64 b ∧ b ≤ a ∧ kx = .int .i64 ((kk a + b : Nat) : Int) ∧ OI W0.heap.size wp (.slice (some ⟨W0.heap.size, 0, none⟩) NN NN) (CR code a (CA code a) b) ∧ Arr wp w3.heap.size 24 [.int .i64 (N' : Int), .slice (some ⟨W0.heap.size, 0, none⟩) NN NN] ∧ Below W0.heap.size W0 wp) (fun _ x _ => a - (intOf x).toNat)
          case atStart => exact ⟨0, rfl, Nat.zero_le _, rfl, by rw [HR0.out]; exact HX.out.1, HX.out.2.1, HX.out.2.2⟩
          case round =>
            clear HX
            obtain ⟨b, rfl, hba, rfl, hO, hA, hb⟩ := hrel
            by_cases hbl : b < a
            · have hbli : (b : Int) < (a : Int) := by omega
              have hkl := HKL.out (a + 1) (by omega)
              rw [HK1.out] at hkl
              have h2 : (2 : Int) ^ (kk a + b) = ((2 ^ (kk a + b) : Nat) : Int) := by simp
              have hp1 : 1 ≤ 2 ^ (kk a + b) := Nat.pos_of_ne_zero (by simp)
              have hp12 : 2 ^ (kk a + b) ≤ 1024 := Nat.pow_le_pow_right (n := 2) (by omega) (show kk a + b ≤ 10 by omega)
              have hsh : (code : Int) / ((2 ^ (kk a + b) : Nat) : Int) = ((code / 2 ^ (kk a + b) : Nat) : Int) := (Int.natCast_ediv code (2 ^ (kk a + b))).symm
              have hqc : code / 2 ^ (kk a + b) ≤ code := Nat.div_le_self _ _
              have han : bits .and .i64 ((code / 2 ^ (kk a + b) : Nat) : Int) 1 = ((code / 2 ^ (kk a + b) % 2 : Nat) : Int) := by rw [← Nat.and_one_is_mod]; exact and_i64 (code / 2 ^ (kk a + b)) 1 (by omega) (by omega)
              have hr1 := HR1.out code a (CA code a) b
              have hrl := HRL.out code a (CA code a) b
              rw [HAL.out] at hrl
              have j1 := hA.cell 1
              simp only [List.getElem?_cons_zero, List.getElem?_cons_succ] at j1
              have hne : W0.heap.size ≠ w3.heap.size := by omega
              by_cases hbit : code / 2 ^ (kk a + b) % 2 = 1
              · rw [if_pos hbit] at hr1
                rw [hbit] at han
                have hp := HP.out a b hal (by omega)
                have m1 : (a : Int) * (N' : Int) = ((a * N' : Nat) : Int) := (Int.natCast_mul _ _).symm
                have a1 : ((a * N' : Nat) : Int) + (b : Int) = ((a * N' + b : Nat) : Int) := (Int.natCast_add _ _).symm
                have l1 : a * N' ≤ a * N' + b := by omega
                have hcell := hO.cell (a * N' + b) (by rw [hrl]; exact hp)
                have hfz := hO.frozen (a * N' + b)
                obtain ⟨hs1, hg1⟩ := hO.stored (a * N' + b) 1
                rw [← hr1] at hs1
                have HY := hid (And.intro hs1 (And.intro (hA.kept hg1 (fun e => by have : w3.heap.size = W0.heap.size := Option.some.inj e; omega)) (hb.grown hg1 hb.size (fun k h => by cases h; exact Nat.le_refl _))))
                clear hr1 hrl hbit hO hA hb hs1 hg1
                generalize (CR code a (CA code a) b).getD (a * N' + b) 0 = old at *
                generalize code / 2 ^ (kk a + b) = cq at *
                generalize 2 ^ (kk a + b) = pw at *
                generalize a * N' + b = pp at *
                generalize a * N' = qq at *
                have hkb10 : kk a + b ≤ 10 := by omega
                have hke : kk a + b + 1 = kk a + (b + 1) := by omega
                have HKE := hid hke
                clear hke
                generalize kk a + b = kb at *
                go_wp2
                go_roundw
                case rel => exact ⟨b + 1, by go_num, by omega, by rw [← HKE.out]; go_num, HY.out.1, HY.out.2.1, HY.out.2.2⟩
                case measure => simp [intOf] <;> omega
              · rw [if_neg hbit] at hr1
                have hbit0 : code / 2 ^ (kk a + b) % 2 = 0 := by omega
                rw [hbit0] at han
                have hp := HP.out b a (by omega) hal
                have m1 : (b : Int) * (N' : Int) = ((b * N' : Nat) : Int) := (Int.natCast_mul _ _).symm
                have a1 : ((b * N' : Nat) : Int) + (a : Int) = ((b * N' + a : Nat) : Int) := (Int.natCast_add _ _).symm
                have l1 : b * N' ≤ b * N' + a := by omega
                have hcell := hO.cell (b * N' + a) (by rw [hrl]; exact hp)
                have hfz := hO.frozen (b * N' + a)
                obtain ⟨hs1, hg1⟩ := hO.stored (b * N' + a) 1
                rw [← hr1] at hs1
                have HY := hid (And.intro hs1 (And.intro (hA.kept hg1 (fun e => by have : w3.heap.size = W0.heap.size := Option.some.inj e; omega)) (hb.grown hg1 hb.size (fun k h => by cases h; exact Nat.le_refl _))))
                clear hr1 hrl hbit hbit0 hO hA hb hs1 hg1
                generalize (CR code a (CA code a) b).getD (b * N' + a) 0 = old at *
                generalize code / 2 ^ (kk a + b) = cq at *
                generalize 2 ^ (kk a + b) = pw at *
                generalize b * N' + a = pp at *
                generalize b * N' = qq at *
                have hkb10 : kk a + b ≤ 10 := by omega
                have hke : kk a + b + 1 = kk a + (b + 1) := by omega
                have HKE := hid hke
                clear hke
                generalize kk a + b = kb at *
                go_wp2
                go_roundw
                case rel => exact ⟨b + 1, by go_num, by omega, by rw [← HKE.out]; go_num, HY.out.1, HY.out.2.1, HY.out.2.2⟩
                case measure => simp [intOf] <;> omega
            · obtain rfl : b = a := by omega
              have hbli : ¬ (b : Int) < (b : Int) := by omega
              have HX := hid (And.intro hO (And.intro hA hb))
              have HKE := hid (HK1.out b)
              have HZE := hid (HZ1.out code b)
              clear hO hA hb
              go_wp2
              go_roundw
              case rel => exact ⟨b + 1, by go_num, by omega, by rw [HKE.out], by rw [HZE.out]; exact HX.out.1, HX.out.2.1, HX.out.2.2⟩
              case measure => simp [intOf] <;> omega
        · obtain rfl : a = N' := by omega
          have hali : ¬ (a : Int) < (a : Int) := by omega
          have k0 := hA.cell 0
          have j1 := hA.cell 1
          simp only [List.getElem?_cons_zero, List.getElem?_cons_succ] at k0 j1
          have hcl2 := HAL.out code a
          have HS4 := hid (HSC.out (CA code a) _ wr (hO.sl (by omega)) hcl2 (HA1.out code a))
          have HX := hid (HB.out.trans (hb.mono hsw))
          clear hO hA hb hcl2
          go_wp2_with fail
          refine HS4.out.mono ?_
          rintro e w5 ⟨⟨v5, rfl, hv5⟩, hb5⟩
          have hB5 := HX.out.trans (hb5.mono HX.out.size)
          have HI := hid (ints_any v5 (.slice a0 a c0) (SL (CA code a)) l w5 hv5 (HV.out.below hB5))
          have HB5 := hid hB5
          have HSYc := hid (HSY.out code hcl)
          have HC2 : Hid (SL (CA code a) ≠ l → ∀ c, c < code + 1 → SL (CA c a) ≠ l) := hid (fun h c hc => by
            by_cases e : c = code
            · rw [e]; exact h
            · exact HC.out c (by omega))
          clear hv5 hb5 hB5 HX HS4
          by_cases heq : SL (CA code a) = l
          · rw [decide_eq_true heq] at HI
            have HE := hid (HSYc.out heq)
            clear heq
            go_wp2_with fail
            refine HI.out.mono ?_
            rintro e w6 ⟨rfl, n6, rfl⟩
            go_wp2
            go_ret
            exact ⟨by rw [HE.out]; rfl, below_drewN HB5.out _⟩
          · rw [decide_eq_false heq] at HI
            have HE := hid (HC2.out heq)
            clear heq
            go_wp2_with fail
            refine HI.out.mono ?_
            rintro e w6 ⟨rfl, n6, rfl⟩
            go_wp2
            go_roundw
            case rel => exact ⟨code + 1, by go_num, by omega, HE, below_drewN HB5.out _⟩
            case measure => simp [intOf] <;> omega
    · obtain rfl : code = P := by omega
      have hcli : ¬ (code : Int) < (code : Int) := by omega
      have HE := hid (HSN.out (fun c hc => HC.out c hc))
      have HX := hid hB
      clear hB
      go_wp2
      go_ret
      exact ⟨by rw [HE.out]; rfl, HX.out⟩
end Go.Proofs.Ythbpdfkaacgpoaa
