/-
  The walks over parterreref4.KingsOf and RingsOf. Conditions: the slice can be read.
-/
import Derived.Test.YthbpdfkaacgpoaaTkings
import Derived.Test.YthbpdfkaacgpoaaTlredei
namespace Go.Proofs.Ythbpdfkaacgpoaa
set_option linter.unusedVariables false
open Go.RowKit

def thB (SB : Nat → Bool) (a c : Nat) : Nat → Bool
  | 0 => decide (c = a) || SB (a * 9 + c)
  | k + 1 => thB SB a c k || (SB (a * 9 + k) && SB (k * 9 + c))
def kiB (S : Nat) (SB : Nat → Bool) (a : Nat) : Nat → Bool
  | 0 => true
  | k + 1 => kiB S SB a k && thB SB a k S
theorem thB_iff {SB : Nat → Bool} {a c : Nat} : ∀ k, thB SB a c k = true ↔ (c = a ∨ SB (a * 9 + c) = true ∨ ∃ b, b < k ∧ SB (a * 9 + b) = true ∧ SB (b * 9 + c) = true)
  | 0 => by
    rw [thB, Bool.or_eq_true, decide_eq_true_iff]
    constructor
    · rintro (h | h)
      · exact .inl h
      · exact .inr (.inl h)
    · rintro (h | h | ⟨b, hb, _⟩)
      · exact .inl h
      · exact .inr h
      · omega
  | k + 1 => by
    rw [thB, Bool.or_eq_true, thB_iff k, Bool.and_eq_true]
    constructor
    · rintro ((h | h | ⟨b, hb, h⟩) | h)
      · exact .inl h
      · exact .inr (.inl h)
      · exact .inr (.inr ⟨b, by omega, h⟩)
      · exact .inr (.inr ⟨k, by omega, h⟩)
    · rintro (h | h | ⟨b, hb, h⟩)
      · exact .inl (.inl h)
      · exact .inl (.inr (.inl h))
      · by_cases e : b = k
        · subst e; exact .inr h
        · exact .inl (.inr (.inr ⟨b, by omega, h⟩))
theorem kiB_iff {S : Nat} {SB : Nat → Bool} {a : Nat} : ∀ k, kiB S SB a k = true ↔ ∀ c, c < k → thB SB a c S = true
  | 0 => by simp [kiB]
  | k + 1 => by
    rw [kiB, Bool.and_eq_true, kiB_iff k]
    constructor
    · rintro ⟨h1, h2⟩ c hc
      by_cases e : c = k
      · rw [e]; exact h2
      · exact h1 c (by omega)
    · intro h
      exact ⟨fun c hc => h c (by omega), h k (by omega)⟩
theorem kiB_kgB {S : Nat} {SB : Nat → Bool} {a : Nat} : kiB S SB a S = kgB S SB a := by
  rw [Bool.eq_iff_iff, kiB_iff, kgB_iff]
  constructor
  · intro h j hj
    rcases (thB_iff S).1 (h j hj) with e | e | e
    · exact .inl e.symm
    · exact .inr (.inl e)
    · exact .inr (.inr e)
  · intro h c hc
    rcases h c hc with e | e | e
    · exact (thB_iff S).2 (.inl e.symm)
    · exact (thB_iff S).2 (.inr (.inl e))
    · exact (thB_iff S).2 (.inr (.inr e))

set_option maxHeartbeats 2000000 in
set_option maxRecDepth 100000 in
theorem KingsOf_ok (S : Nat) (u : Value) (l : List Int) (w : World) (hu : Sl w u l) (hS1 : 1 ≤ S) (hS9 : S ≤ 9) (hlen : l.length = S * S) :
    Calls Try.prog 27 #[sqV S u] w fun e w' => (∃ v, e = .returned v ∧ Sl w' v (kgI S (beB S l (S * S)) S)) ∧ Below w.heap.size w w' := by
  have HBT := hid (fun a b (ha : a < S) (hb : b < S) w1 (hw : Below w.heap.size w w1) => Beats_ok S a b u l w1 (hu.below hw) hS9 hlen ha hb)
  obtain ⟨ax, cx, e1⟩ := hu.len
  subst e1
  generalize l.length = N at *
  generalize beB S l (S * S) = SB at *
  have HT0 : Hid (∀ a c, thB SB a c 0 = (decide (c = a) || SB (a * 9 + c))) := hid (fun a c => rfl)
  have HT1 : Hid (∀ a c k, thB SB a c (k + 1) = (thB SB a c k || (SB (a * 9 + k) && SB (k * 9 + c)))) := hid (fun a c k => rfl)
  have HI0 : Hid (∀ a, kiB S SB a 0 = true) := hid (fun a => rfl)
  have HI1 : Hid (∀ a k, kiB S SB a (k + 1) = (kiB S SB a k && thB SB a k S)) := hid (fun a k => rfl)
  have HKY : Hid (∀ t, kiB S SB t S = true → kgI S SB (t + 1) = kgI S SB t ++ [(t : Int)]) := hid (fun t ht => kgI_yes (by rw [← kiB_kgB]; exact ht))
  have HKN : Hid (∀ t, kiB S SB t S = false → kgI S SB (t + 1) = kgI S SB t) := hid (fun t ht => kgI_no (by rw [← kiB_kgB]; exact ht))
  have HK0 := hid (kgI_zero S SB)
  have HKL := hid (kgI_len S SB)
  generalize kgI S SB = D at *
  generalize thB SB = TH at *
  generalize kiB S SB = KI at *
  unfold sqV at HBT
  unfold sqV
  have HW0 := hid (And.intro (Arr.new w 24 [.int .i64 (S : Int), .slice ax N cx]) ((Below.refl w.heap.size w).alloc (Nat.le_refl _) (.cells #[.int .i64 (S : Int), .slice ax N cx] 24)))
  clear hu hlen
  go_enter Try.func27, Try.ntmps27
  go_wp2
  go_loopw [3, 4, 5, 6, 7, 8, 9, 10, 11] (fun o x _ _ _ _ _ _ _ wr => ∃ a : Nat, x = .int .i64 a ∧ a ≤ S ∧ OI (w.heap.size + 1) wr o (D a) ∧ Arr wr w.heap.size 24 [.int .i64 (S : Int), .slice ax N cx] ∧ Below w.heap.size w wr ∧ w.heap.size + 1 ≤ wr.heap.size) (fun _ x _ _ _ _ _ _ _ _ => S - (intOf x).toNat)
  case atStart => exact ⟨0, rfl, Nat.zero_le _, by rw [HK0.out]; exact OI.nil _ _, HW0.out.1, HW0.out.2, by simp⟩
  case round =>
    clear HW0
    obtain ⟨a, rfl, haS, hO, hA, hB, hws⟩ := hrel
    by_cases hal : a < S
    · have hali : (a : Int) < (S : Int) := by omega
      obtain ⟨W1, rfl⟩ : ∃ W1, W1 = wr := ⟨_, rfl⟩
      have k0 := hA.cell 0
      simp only [List.getElem?_cons_zero] at k0
      have HX := hid (And.intro hO (And.intro hA hB))
      clear hO hA hB
      go_wp2_with fail
      go_loopw [5, 6, 7, 8, 9, 10, 11] (fun kg x _ _ _ _ _ wr => ∃ c : Nat, x = .int .i64 c ∧ c ≤ S ∧ kg = .bool (KI a c) ∧ Below W1.heap.size W1 wr) (fun _ x _ _ _ _ _ _ => S - (intOf x).toNat)
      case atStart => exact ⟨0, rfl, Nat.zero_le _, by rw [HI0.out], Below.refl _ _⟩
      case round =>
        clear k0
        obtain ⟨c, rfl, hcS, rfl, hb⟩ := hrel
        by_cases hcl : c < S
        · have hcli : (c : Int) < (S : Int) := by omega
          have hA := HX.out.2.1.below hb
          have k0 := hA.cell 0
          have k1 := hA.cell 1
          simp only [List.getElem?_cons_zero, List.getElem?_cons_succ] at k0 k1
          have hT0 := HT0.out a c
          have HBC := hid (HBT.out a c hal hcl wr (HX.out.2.2.trans (hb.mono HX.out.2.2.size)))
          have HB := hid hb
          have HIc := hid (HI1.out a c)
          have hca : ((c : Int) == (a : Int)) = decide (c = a) := by
            by_cases e : c = a
            · rw [e]; simp
            · rw [decide_eq_false e, beq_eq_false_iff_ne]; omega
          clear hA hb
          generalize hdc : decide (c = a) = dc at *
          generalize SB (a * 9 + c) = sac at *
          go_wp2_with fail
          refine HBC.out.mono ?_
          rintro e w5 ⟨rfl, hb5⟩
          have hb5' := HB.out.trans (hb5.mono HB.out.size)
          have hA5 := HX.out.2.1.below hb5'
          have q0 := hA5.cell 0
          have q1 := hA5.cell 1
          simp only [List.getElem?_cons_zero, List.getElem?_cons_succ] at q0 q1
          have HB5 := hid hb5'
          clear hb5 hb5' hA5 HB HBC k0 k1
          have hor : TH a c 0 = (dc || sac) := hT0
          have HT00 := hid hor
          clear hor hT0
          cases dc <;> cases sac
          all_goals
            go_wp2_with fail
            clear q0 q1
            go_loopw [7, 9, 10, 11] (fun th x _ _ wr => ∃ b : Nat, x = .int .i64 b ∧ b ≤ S ∧ th = .bool (TH a c b) ∧ Below W1.heap.size W1 wr) (fun _ x _ _ _ => S - (intOf x).toNat)
            case atStart => exact ⟨0, rfl, Nat.zero_le _, by rw [HT00.out]; rfl, HB5.out⟩
            case round =>
              clear HB5 HT00
              obtain ⟨b, rfl, hbS, rfl, hb⟩ := hrel
              by_cases hbl : b < S
              · have hbli : (b : Int) < (S : Int) := by omega
                have hA := HX.out.2.1.below hb
                have k0 := hA.cell 0
                have k1 := hA.cell 1
                simp only [List.getElem?_cons_zero, List.getElem?_cons_succ] at k0 k1
                have HB1 := hid (HBT.out a b hal hbl wr (HX.out.2.2.trans (hb.mono HX.out.2.2.size)))
                have HB2 := hid (fun w1 (h : Below W1.heap.size W1 w1) => HBT.out b c hbl hcl w1 (HX.out.2.2.trans (h.mono HX.out.2.2.size)))
                have hT1 := HT1.out a c b
                have HB := hid hb
                clear hA hb
                generalize SB (a * 9 + b) = sab at *
                generalize SB (b * 9 + c) = sbc at *
                generalize TH a c b = th at *
                have HTS := hid hT1
                clear hT1
                go_wp2_with fail
                refine HB1.out.mono ?_
                rintro e w5 ⟨rfl, hb5⟩
                have hb5' := HB.out.trans (hb5.mono HB.out.size)
                have hA5 := HX.out.2.1.below hb5'
                have q0 := hA5.cell 0
                have q1 := hA5.cell 1
                simp only [List.getElem?_cons_zero, List.getElem?_cons_succ] at q0 q1
                have HB5 := hid hb5'
                clear hb5 hb5' hA5 HB HB1 k0 k1
                go_wp2_with fail
                refine (HB2.out _ HB5.out).mono ?_
                rintro e w6 ⟨rfl, hb6⟩
                have HB6 := hid (HB5.out.trans (hb6.mono HB5.out.size))
                clear hb6 q0 q1 HB2
                cases th <;> cases sab <;> cases sbc
                all_goals
                  go_wp2
                  go_roundw
                  case rel => exact ⟨b + 1, by go_num, by omega, by rw [HTS.out]; rfl, HB6.out⟩
                  case measure => simp [intOf] <;> omega
              · obtain rfl : b = S := by omega
                have hbli : ¬ (b : Int) < (b : Int) := by omega
                have hA := HX.out.2.1.below hb
                have k0 := hA.cell 0
                simp only [List.getElem?_cons_zero] at k0
                have HB := hid hb
                clear hA hb
                generalize TH a c b = th at *
                generalize KI a c = ki at *
                cases ki <;> cases th
                all_goals
                  go_wp2
                  go_roundw
                  case rel => exact ⟨c + 1, by go_num, by omega, by rw [HIc.out]; rfl, HB.out⟩
                  case measure => simp [intOf] <;> omega
        · obtain rfl : c = S := by omega
          have hcli : ¬ (c : Int) < (c : Int) := by omega
          have hO := HX.out.1.below hb
          have hA := HX.out.2.1.below hb
          have hB := HX.out.2.2.trans (hb.mono HX.out.2.2.size)
          have hsw := hb.size
          have k0 := hA.cell 0
          simp only [List.getElem?_cons_zero] at k0
          have hl9 : (D a).length ≤ 9 := by have := HKL.out a; omega
          have HYa := hid (HKY.out a)
          have HNa := hid (HKN.out a)
          generalize KI a c = ki at *
          have hws2 : w.heap.size + 1 ≤ wr.heap.size := Nat.le_trans hws hsw
          have HY := hid (And.intro hO (And.intro hA hB))
          clear hO hA hB hb
          cases ki with
          | true =>
            have HE := hid (HYa.out rfl)
            go_wp2_with (at_builtin; refine wpList_appi wr _ _ 22 rfl rfl Try.underlying22 Try.info3 (w.heap.size + 1) _ _ rfl HY.out.1 rfl (by omega) hws2 ?_; intro g7 c7 w7 ho7 hg7 hg7a hg7b; have HZ := hid (And.intro ho7 (And.intro (HY.out.2.1.kept hg7 (fun e => by have := (OI.lt HY.out.1 _ e.symm).1; omega)) (And.intro (HY.out.2.2.grown hg7 HY.out.2.2.size (fun k e => by have := (OI.lt HY.out.1 k e).1; omega)) (Nat.le_trans hws2 hg7.size)))); clear ho7 hg7 hg7a hg7b)
            go_roundw
            case rel => exact ⟨a + 1, by go_num, by omega, by rw [HE.out]; exact HZ.out.1, HZ.out.2.1, HZ.out.2.2.1, HZ.out.2.2.2⟩
            case measure => simp [intOf] <;> omega
          | false =>
            have HE := hid (HNa.out rfl)
            go_wp2
            go_roundw
            case rel => exact ⟨a + 1, by go_num, by omega, by rw [HE.out]; exact HY.out.1, HY.out.2.1, HY.out.2.2, hws2⟩
            case measure => simp [intOf] <;> omega
    · obtain rfl : a = S := by omega
      have hali : ¬ (a : Int) < (a : Int) := by omega
      have k0 := hA.cell 0
      simp only [List.getElem?_cons_zero] at k0
      have hl9 := HKL.out a
      have HX := hid (And.intro (hO.sl (by omega)) hB)
      clear hO hA hB
      go_wp2
      go_ret
      exact ⟨⟨_, rfl, HX.out.1⟩, HX.out.2⟩
end Go.Proofs.Ythbpdfkaacgpoaa
