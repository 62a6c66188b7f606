/-
  The walk over parterreref4.RingsOf; it counts as tour.Rings does. Conditions: the slice can be read.
-/
import Derived.Test.YthbpdfkaacgpoaaTlredei
namespace Go.Proofs.Ythbpdfkaacgpoaa
set_option linter.unusedVariables false
open Go.RowKit

def f3R (SB : Nat → Bool) (a b c : Nat) : Nat := if (SB (a * 9 + b) == SB (b * 9 + c)) = true ∧ (SB (b * 9 + c) == SB (c * 9 + a)) = true then 1 else 0
def g3R (SB : Nat → Bool) (a b c : Nat) : Nat := if b < c then f3R SB a b c else 0
def g2R (SB : Nat → Bool) (S a b : Nat) : Nat := if a < b then sN (g3R SB a b) S else 0
def g1R (SB : Nat → Bool) (S a : Nat) : Nat := sN (g2R SB S a) S
theorem sN_zero {f : Nat → Nat} : ∀ n, (∀ i, i < n → f i = 0) → sN f n = 0
  | 0, _ => rfl
  | n + 1, h => by rw [sN, sN_zero n (fun i hi => h i (by omega)), h n (by omega)]
theorem sN_congr {f g : Nat → Nat} : ∀ n, (∀ i, i < n → f i = g i) → sN f n = sN g n
  | 0, _ => rfl
  | n + 1, h => by rw [sN, sN, sN_congr n (fun i hi => h i (by omega)), h n (by omega)]
theorem sN_add (f g : Nat → Nat) : ∀ n, sN (fun i => f i + g i) n = sN f n + sN g n
  | 0 => rfl
  | n + 1 => by rw [sN, sN, sN, sN_add f g n]; omega
theorem sN_swap (f : Nat → Nat → Nat) (m : Nat) : ∀ n, sN (fun i => sN (f i) m) n = sN (fun j => sN (fun i => f i j) n) m
  | 0 => (sN_zero m (fun i _ => rfl)).symm
  | n + 1 => by
    rw [sN, sN_swap f m n, ← sN_add]
    exact sN_congr m (fun i _ => rfl)
theorem sN_cut (f : Nat → Nat) {k : Nat} : ∀ n, k ≤ n → sN (fun i => if i < k then f i else 0) n = sN f k
  | 0, h => by
    have : k = 0 := by omega
    subst this; rfl
  | n + 1, h => by
    by_cases e : k = n + 1
    · subst e
      exact sN_congr _ (fun i hi => by rw [if_pos hi])
    · rw [sN, sN_cut f n (by omega), if_neg (by omega)]
      omega
theorem f3R_le (SB : Nat → Bool) (a b c : Nat) : f3R SB a b c ≤ 1 := by unfold f3R; split <;> omega
theorem g3R_le (SB : Nat → Bool) (a b c : Nat) : g3R SB a b c ≤ 1 := by unfold g3R; split; exact f3R_le _ _ _ _; omega
theorem g2R_le (SB : Nat → Bool) {S : Nat} (hS : S ≤ 9) (a b : Nat) : g2R SB S a b ≤ 9 := by
  unfold g2R
  split
  · have := sN_le (f := g3R SB a b) (c := 1) S (fun i _ => g3R_le _ _ _ _)
    omega
  · omega
theorem rof_bd (SB : Nat → Bool) {S : Nat} (hS : S ≤ 9) (a b c : Nat) (ha : a ≤ 9) (hb : b ≤ 9) (hc : c ≤ 9) : sN (g1R SB S) a + (sN (g2R SB S a) b + sN (g3R SB a b) c) ≤ 2000 := by
  have h1 := sN_le (f := g3R SB a b) (c := 1) c (fun i _ => g3R_le _ _ _ _)
  have h2 := sN_le (f := g2R SB S a) (c := 9) b (fun i _ => g2R_le SB hS _ _)
  have h3 : sN (g1R SB S) a ≤ a * 81 := sN_le a (fun i _ => Nat.le_trans (sN_le (c := 9) S (fun j _ => g2R_le SB hS _ _)) (by omega))
  omega
/-- Both count each three once. -/
theorem rings_same {S : Nat} {SB : Nat → Bool} (ht : ∀ i j, i < S → j < S → i ≠ j → SB (j * 9 + i) = !SB (i * 9 + j)) : sN (g1R SB S) S = rgC SB S := by
  have e1 : sN (g1R SB S) S = sN (fun a => sN (fun b => sN (fun c => if c < S ∧ b < c ∧ a < b then f3R SB a b c else 0) S) S) S := by
    refine sN_congr S fun a _ => sN_congr S fun b _ => ?_
    unfold g2R
    by_cases h : a < b
    · rw [if_pos h]
      refine sN_congr S fun c hc => ?_
      unfold g3R
      by_cases h2 : b < c
      · rw [if_pos h2, if_pos ⟨hc, h2, h⟩]
      · rw [if_neg h2, if_neg (fun e => h2 e.2.1)]
    · rw [if_neg h]
      exact (sN_zero S fun c _ => if_neg (fun e => h e.2.2)).symm
  have e2 : rgC SB S = sN (fun i => sN (fun j => sN (fun k => if k < j ∧ j < i then rgT SB i j k else 0) S) S) S := by
    refine sN_congr S fun i hi => ?_
    rw [← sN_cut _ S (Nat.le_of_lt hi)]
    refine sN_congr S fun j hj => ?_
    by_cases h : j < i
    · rw [if_pos h, ← sN_cut _ S (show j ≤ S by omega)]
      refine sN_congr S fun k hk => ?_
      by_cases h2 : k < j
      · rw [if_pos h2, if_pos ⟨h2, h⟩]
      · rw [if_neg h2, if_neg (fun e => h2 e.1)]
    · rw [if_neg h]
      exact (sN_zero S fun k _ => if_neg (fun e => h e.2)).symm
  rw [e1, e2, sN_swap (fun a b => sN (fun c => if c < S ∧ b < c ∧ a < b then f3R SB a b c else 0) S) S S]
  have e3 : sN (fun b => sN (fun a => sN (fun c => if c < S ∧ b < c ∧ a < b then f3R SB a b c else 0) S) S) S = sN (fun b => sN (fun c => sN (fun a => if c < S ∧ b < c ∧ a < b then f3R SB a b c else 0) S) S) S :=
    sN_congr S fun b _ => sN_swap (fun a c => if c < S ∧ b < c ∧ a < b then f3R SB a b c else 0) S S
  rw [e3, sN_swap (fun b c => sN (fun a => if c < S ∧ b < c ∧ a < b then f3R SB a b c else 0) S) S S]
  refine sN_congr S fun c hc => sN_congr S fun b hb => sN_congr S fun a ha => ?_
  by_cases h : a < b ∧ b < c
  · rw [if_pos ⟨hc, h.2, h.1⟩, if_pos h]
    unfold f3R rgT
    rw [ht b a hb ha (by omega), ht c b hc hb (by omega), ht a c ha hc (by omega)]
    generalize SB (b * 9 + a) = x
    generalize SB (c * 9 + b) = y
    generalize SB (a * 9 + c) = z
    cases x <;> cases y <;> cases z <;> rfl
  · rw [if_neg (fun e => h ⟨e.2.2, e.2.1⟩), if_neg h]
theorem g3_start (SB : Nat → Bool) (a b : Nat) : sN (g3R SB a b) (b + 1) = 0 := sN_zero _ fun c hc => if_neg (by omega)
theorem g2_start (SB : Nat → Bool) (S a : Nat) : sN (g2R SB S a) (a + 1) = 0 := sN_zero _ fun b hb => if_neg (by omega)

set_option maxHeartbeats 2000000 in
set_option maxRecDepth 100000 in
theorem RingsOf_ok (S : Nat) (u : Value) (l : List Int) (w : World) (hu : Sl w u l) (hS1 : 1 ≤ S) (hS9 : S ≤ 9) (hlen : l.length = S * S) :
    Calls Try.prog 28 #[sqV S u] w fun e w' => e = .returned (.int .i64 (sN (g1R (beB S l (S * S)) S) S : Nat)) ∧ Below w.heap.size w w' := by
  have HBT := hid (fun a b (ha : a < S) (hb : b < S) w1 (hw : Below w.heap.size w w1) => Beats_ok S a b u l w1 (hu.below hw) hS9 hlen ha hb)
  obtain ⟨ax, cx, e1⟩ := hu.len
  subst e1
  generalize l.length = N at *
  generalize beB S l (S * S) = SB at *
  have HBD := hid (rof_bd SB hS9)
  have HG3 := hid (g3_start SB)
  have HG2 := hid (g2_start SB S)
  have HA0 : Hid (sN (g1R SB S) 0 = 0) := hid rfl
  have HA1 : Hid (∀ a, sN (g1R SB S) (a + 1) = sN (g1R SB S) a + sN (g2R SB S a) S) := hid (fun a => rfl)
  have HB1 : Hid (∀ a b, a < b → sN (g2R SB S a) (b + 1) = sN (g2R SB S a) b + sN (g3R SB a b) S) := hid (fun a b h => by rw [sN, show g2R SB S a b = sN (g3R SB a b) S from if_pos h])
  have HC1 : Hid (∀ a b c, b < c → sN (g3R SB a b) (c + 1) = sN (g3R SB a b) c + if (SB (a * 9 + b) == SB (b * 9 + c)) = true ∧ (SB (b * 9 + c) == SB (c * 9 + a)) = true then 1 else 0) := hid (fun a b c h => by rw [sN, show g3R SB a b c = f3R SB a b c from if_pos h]; rfl)
  obtain ⟨AA, hAA⟩ : ∃ AA : Nat → Nat, AA = sN (g1R SB S) := ⟨_, rfl⟩
  obtain ⟨BB, hBB⟩ : ∃ BB : Nat → Nat → Nat, BB = fun a => sN (g2R SB S a) := ⟨_, rfl⟩
  obtain ⟨CC, hCC⟩ : ∃ CC : Nat → Nat → Nat → Nat, CC = fun a b => sN (g3R SB a b) := ⟨_, rfl⟩
  have HBD : Hid (∀ a b c, a ≤ 9 → b ≤ 9 → c ≤ 9 → AA a + (BB a b + CC a b c) ≤ 2000) := hid (by rw [hAA, hBB, hCC]; exact HBD.out)
  have HG3 : Hid (∀ a b, CC a b (b + 1) = 0) := hid (by rw [hCC]; exact HG3.out)
  have HG2 : Hid (∀ a, BB a (a + 1) = 0) := hid (by rw [hBB]; exact HG2.out)
  have HA0 : Hid (AA 0 = 0) := hid (by rw [hAA]; exact HA0.out)
  have HA1 : Hid (∀ a, AA (a + 1) = AA a + BB a S) := hid (by rw [hAA, hBB]; exact HA1.out)
  have HB1 : Hid (∀ a b, a < b → BB a (b + 1) = BB a b + CC a b S) := hid (by rw [hBB, hCC]; exact HB1.out)
  have HC1 : Hid (∀ a b c, b < c → CC a b (c + 1) = CC a b c + if (SB (a * 9 + b) == SB (b * 9 + c)) = true ∧ (SB (b * 9 + c) == SB (c * 9 + a)) = true then 1 else 0) := hid (by rw [hCC]; exact HC1.out)
  rw [← hAA]
  clear hAA hBB hCC
  unfold sqV at HBT
  unfold sqV
  have HW0 := hid (And.intro (Arr.new w 24 [.int .i64 (S : Int), .slice ax N cx]) ((Below.refl w.heap.size w).alloc (Nat.le_refl _) (.cells #[.int .i64 (S : Int), .slice ax N cx] 24)))
  clear hu hlen
  go_enter Try.func28, Try.ntmps28
  go_wp2
  go_loopw [3, 4, 5, 6, 7, 8, 9] (fun n x _ _ _ _ _ wr => ∃ a : Nat, x = .int .i64 a ∧ a ≤ S ∧ n = .int .i64 (AA a) ∧ Arr wr w.heap.size 24 [.int .i64 (S : Int), .slice ax N cx] ∧ Below w.heap.size w wr) (fun _ x _ _ _ _ _ _ => S - (intOf x).toNat)
  case atStart => exact ⟨0, rfl, Nat.zero_le _, by rw [HA0.out]; rfl, HW0.out.1, HW0.out.2⟩
  case round =>
    clear HW0
    obtain ⟨a, rfl, haS, rfl, hA, hB⟩ := hrel
    have k0 := hA.cell 0
    simp only [List.getElem?_cons_zero] at k0
    by_cases hal : a < S
    · have hali : (a : Int) < (S : Int) := by omega
      have HX := hid (And.intro hA hB)
      have HAa := hid (HA1.out a)
      clear hA hB
      go_wp2_with fail
      clear k0
      go_loopw [3, 5, 6, 7, 8, 9] (fun n x _ _ _ _ wr => ∃ b : Nat, x = .int .i64 b ∧ a < b ∧ b ≤ S ∧ n = .int .i64 ((AA a + BB a b : Nat) : Int) ∧ Arr wr w.heap.size 24 [.int .i64 (S : Int), .slice ax N cx] ∧ Below w.heap.size w wr) (fun _ x _ _ _ _ _ => S - (intOf x).toNat)
      case atStart => exact ⟨a + 1, by go_num, by omega, by omega, by rw [HG2.out]; rfl, HX.out.1, HX.out.2⟩
      case round =>
        clear HX
        obtain ⟨b, rfl, hab, hbS, rfl, hA, hB⟩ := hrel
        have k0 := hA.cell 0
        simp only [List.getElem?_cons_zero] at k0
        by_cases hbl : b < S
        · have hbli : (b : Int) < (S : Int) := by omega
          have HX := hid (And.intro hA hB)
          have HBb := hid (HB1.out a b hab)
          clear hA hB
          go_wp2_with fail
          clear k0
          go_loopw [3, 6, 7, 8, 9] (fun n x _ _ _ wr => ∃ c : Nat, x = .int .i64 c ∧ b < c ∧ c ≤ S ∧ n = .int .i64 ((AA a + (BB a b + CC a b c) : Nat) : Int) ∧ Arr wr w.heap.size 24 [.int .i64 (S : Int), .slice ax N cx] ∧ Below w.heap.size w wr) (fun _ x _ _ _ _ => S - (intOf x).toNat)
          case atStart => exact ⟨b + 1, by go_num, by omega, by omega, by rw [HG3.out]; rfl, HX.out.1, HX.out.2⟩
          case round =>
            clear HX
            obtain ⟨c, rfl, hbc, hcS, rfl, hA, hB⟩ := hrel
            have k0 := hA.cell 0
            have k1 := hA.cell 1
            simp only [List.getElem?_cons_zero, List.getElem?_cons_succ] at k0 k1
            by_cases hcl : c < S
            · have hcli : (c : Int) < (S : Int) := by omega
              have HX := hid (And.intro hA hB)
              have hC1 := HC1.out a b c hbc
              have hbd := HBD.out a b c (by omega) (by omega) (by omega)
              have HB1 := hid (HBT.out a b hal hbl)
              have HB2 := hid (HBT.out b c hbl hcl)
              have HB3 := hid (HBT.out c a hcl hal)
              clear hA hB
              generalize SB (a * 9 + b) = x at *
              generalize SB (b * 9 + c) = y at *
              generalize SB (c * 9 + a) = z at *
              have HCC := hid hC1
              clear hC1
              generalize hsum : AA a + (BB a b + CC a b c) = sm at *
              have HSM := hid hsum
              clear hsum
              go_wp2_with fail
              refine (HB1.out _ HX.out.2).mono ?_
              rintro e w5 ⟨rfl, hb5⟩
              have h5 := HX.out.1.below hb5
              have q0 := h5.cell 0
              have q1 := h5.cell 1
              simp only [List.getElem?_cons_zero, List.getElem?_cons_succ] at q0 q1
              have H5 := hid (And.intro h5 (HX.out.2.trans (hb5.mono HX.out.2.size)))
              clear h5 hb5 k0 k1 HX HB1
              go_wp2_with fail
              refine (HB2.out _ H5.out.2).mono ?_
              rintro e w6 ⟨rfl, hb6⟩
              have h6 := H5.out.1.below hb6
              have p0 := h6.cell 0
              have p1 := h6.cell 1
              simp only [List.getElem?_cons_zero, List.getElem?_cons_succ] at p0 p1
              have H6 := hid (And.intro h6 (H5.out.2.trans (hb6.mono H5.out.2.size)))
              clear h6 hb6 q0 q1 H5 HB2
              go_wp2_with fail
              refine (HB3.out _ H6.out.2).mono ?_
              rintro e w7 ⟨rfl, hb7⟩
              have h7 := H6.out.1.below hb7
              have H7 := hid (And.intro h7 (H6.out.2.trans (hb7.mono H6.out.2.size)))
              clear h7 hb7 p0 p1 H6 HB3
              cases x <;> cases y <;> cases z
              all_goals
                go_wp2
                go_roundw
                case rel => exact ⟨c + 1, by go_num, by omega, by omega, by rw [HCC.out, ← Nat.add_assoc (BB a b), ← Nat.add_assoc (AA a), HSM.out]; first | rfl | go_num, H7.out.1, H7.out.2⟩
                case measure => simp [intOf] <;> omega
            · obtain rfl : c = S := by omega
              have hcli : ¬ (c : Int) < (c : Int) := by omega
              have HX := hid (And.intro hA hB)
              clear hA hB
              go_wp2
              go_roundw
              case rel => exact ⟨b + 1, by go_num, by omega, by omega, by rw [HBb.out], HX.out.1, HX.out.2⟩
              case measure => simp [intOf] <;> omega
        · obtain rfl : b = S := by omega
          have hbli : ¬ (b : Int) < (b : Int) := by omega
          have HX := hid (And.intro hA hB)
          clear hA hB
          go_wp2
          go_roundw
          case rel => exact ⟨a + 1, by go_num, by omega, by rw [HAa.out], HX.out.1, HX.out.2⟩
          case measure => simp [intOf] <;> omega
    · obtain rfl : a = S := by omega
      have hali : ¬ (a : Int) < (a : Int) := by omega
      have HX := hid hB
      clear hA hB
      go_wp2
      go_ret
      exact ⟨rfl, HX.out⟩
end Go.Proofs.Ythbpdfkaacgpoaa
