/-
  Slices of the call's own, sorted by what their first numbers are looked up as. Conditions as each law states.
-/
import Derived.Test.YthbpdfkaacgpoaaTprt
namespace Go.Proofs.Ythbpdfkaacgpoaa
set_option linter.unusedVariables false
open Go.RowKit Go.Maps

def kfV (w : World) (v : Value) : Nat := match v with
  | .slice (some a) _ _ => match w.cell? a with
    | some (.int _ z) => z.toNat
    | _ => 0
  | _ => 0
theorem kfV_eq {w : World} {v : Value} {k : Nat} (h : fstV w v k) : kfV w v = k := by
  obtain ⟨b, off, N, c, rfl, _, _, hc⟩ := h
  unfold kfV
  simp only [hc]
  simp
def kfL (m : List Int) : Nat := (m.getD 0 0).toNat
/-- Whose first number is looked up as more goes ahead. -/
def ltP (L : List (Nat × Nat)) (a b : List Int) : Bool := decide ((lookL L (kfL b) : Int) - (lookL L (kfL a) : Int) < 0)
def cmP (L : List (Nat × Nat)) (w : World) (p q : Value) : Int := (lookL L (kfV w q) : Int) - (lookL L (kfV w p) : Int)
/-- Values and what they stand for, one by one. -/
def Par (P : Value → List Int → Prop) (vs : List Value) (ll : List (List Int)) : Prop := vs.length = ll.length ∧ ∀ i, i < ll.length → P (vs.getD i undef) (ll.getD i [])
theorem getD_set {α : Type} (X : List α) (i j : Nat) (x d : α) (hi : i < X.length) : (X.set i x).getD j d = if j = i then x else X.getD j d := by
  rw [List.getD_eq_getElem?_getD, List.getD_eq_getElem?_getD, List.getElem?_set]
  by_cases h : i = j
  · rw [if_pos h, if_pos hi, if_pos h.symm]; rfl
  · rw [if_neg h, if_neg (fun e => h e.symm)]
theorem par_insJ {P : Value → List Int → Prop} {lv : Value → Value → Bool} {ll' : List Int → List Int → Bool} (hlt : ∀ v m v' m', P v m → P v' m' → lv v v' = ll' m m') : ∀ (j : Nat) (vs : List Value) (ll : List (List Int)), j < ll.length → Par P vs ll → Par P (insJ lv undef j vs) (insJ ll' [] j ll)
  | 0, _, _, _, h => h
  | j + 1, vs, ll, hj, h => by
    obtain ⟨h1, h2⟩ := h
    rw [insJ, insJ, hlt _ _ _ _ (h2 (j + 1) hj) (h2 j (by omega))]
    split
    · refine par_insJ hlt j _ _ (by simp; omega) ⟨by simp [h1], fun i hi => ?_⟩
      rw [List.length_set, List.length_set] at hi
      rw [getD_set _ _ _ _ _ (by simp; omega), getD_set _ _ _ _ _ (by omega), getD_set _ _ _ _ _ (by simp; omega), getD_set _ _ _ _ _ hj]
      by_cases e : i = j
      · rw [if_pos e, if_pos e]; exact h2 (j + 1) hj
      · rw [if_neg e, if_neg e]
        by_cases e2 : i = j + 1
        · rw [if_pos e2, if_pos e2]; exact h2 j (by omega)
        · rw [if_neg e2, if_neg e2]; exact h2 i hi
    · exact ⟨h1, h2⟩
theorem par_insI {P : Value → List Int → Prop} {lv : Value → Value → Bool} {ll' : List Int → List Int → Bool} (hlt : ∀ v m v' m', P v m → P v' m' → lv v v' = ll' m m') {vs : List Value} {ll : List (List Int)} (h : Par P vs ll) : ∀ k, k ≤ ll.length → Par P (insI lv undef k vs) (insI ll' [] k ll)
  | 0, _ => h
  | k + 1, hk => by
    rw [insI, insI]
    exact par_insJ hlt k _ _ (by rw [insI_len]; omega) (par_insI hlt h k (by omega))

/-- The slices, sorted where they lie. -/
theorem sortL_ok (B mb mp n : Nat) (L : List (Nat × Nat)) (v : Value) (ll : List (List Int)) (w : World) (hol : OL B w.heap.size w v ll) (h1 : 1 ≤ ll.length) (h9 : ll.length ≤ 9) (hne : ∀ m ∈ ll, 1 ≤ m.length ∧ m.length ≤ 100 ∧ 0 ≤ m.getD 0 0 ∧ m.getD 0 0 ≤ 9) (hL : ∀ k, lookL L k ≤ 9) (hmb : mb < B) (hmp : mp < B) (hb : Arr w mb 64 [.map (some mp)]) (hM : MV w mp n L) :
    ∃ g cc, v = .slice (some ⟨g, 0, none⟩) ll.length cc ∧ B ≤ g ∧ Calls Try.prog 45 #[v, .func (.func 46) #[] #[.pointer (some ⟨mb, 0, none⟩)]] w fun e w' => e = .returned (.tuple #[]) ∧ OL B w'.heap.size w' v (insI (ltP L) [] ll.length ll) ∧ w.grownBy w' (some g) := by
  obtain ⟨g, cc, rfl, hg1, hg2⟩ := hol.form (by omega)
  obtain ⟨vs, o1, o2, o3, o4⟩ := hol
  have hin : ∀ x ∈ vs, ∃ m, m ∈ ll ∧ OI B w x m := fun x hx => by
    obtain ⟨i, hi, rfl⟩ := List.getElem_of_mem hx
    have := (o4 i (by omega)).1
    rw [List.getD_eq_getElem?_getD, List.getElem?_eq_getElem hi] at this
    rw [List.getD_eq_getElem?_getD, List.getElem?_eq_getElem (by omega)] at this
    exact ⟨ll[i], List.getElem_mem (by omega), this⟩
  have hfst : ∀ (x : Value) (m : List Int), m ∈ ll → OI B w x m → fstV w x (kfL m) := fun x m hm ho => by
    obtain ⟨q1, q2, q3, q4⟩ := hne m hm
    obtain ⟨g2, c2, rfl, h2, h3⟩ := ho.form (by omega)
    refine ⟨g2, 0, _, _, rfl, q1, h3, ?_⟩
    rw [ho.cell 0 (by omega)]
    unfold kfL
    rw [Int.toNat_of_nonneg q3]
  have hcm : CmpV 46 #[.pointer (some ⟨mb, 0, none⟩)] (cmP L w) vs g w := {
    enter := run_callFunc_own Try.func46 (by kernel_rfl) (by kernel_rfl)
    form := fun x hx => by
      obtain ⟨m, hm, ho⟩ := hin x hx
      obtain ⟨b, off, N, c, e, _⟩ := hfst x m hm ho
      exact ⟨_, _, _, e⟩
    calls := fun p q W hp hq hg => by
      obtain ⟨m1, hm1, ho1⟩ := hin p hp
      obtain ⟨m2, hm2, ho2⟩ := hin q hq
      have f1 := hfst p m1 hm1 ho1
      have f2 := hfst q m2 hm2 ho2
      have hk : ∀ (x : Value) (m : List Int), m ∈ ll → OI B w x m → fstV W x (kfL m) := fun x m hm ho => by
        have hap := ow_apart o1 ho
        obtain ⟨q1, q2, q3, q4⟩ := hne m hm
        have ho' := ho.kept hg (by
          rcases hap with h | h
          · exact .inl h
          · exact .inr h)
        obtain ⟨g2, c2, rfl, h2, h3⟩ := ho'.form (by omega)
        refine ⟨g2, 0, _, _, rfl, q1, h3, ?_⟩
        rw [ho'.cell 0 (by omega)]
        unfold kfL
        rw [Int.toNat_of_nonneg q3]
      have := parts1_any p q (kfL m1) (kfL m2) mb mp n L W (hk p m1 hm1 ho1) (hk q m2 hm2 ho2) (by have := hne m1 hm1; unfold kfL; omega) (by have := hne m2 hm2; unfold kfL; omega) hL ((hb.kept hg (fun e => by have : mb = g := Option.some.inj e; omega)).cell 0) (hM.kept hg (fun e => by have : mp = g := Option.some.inj e; omega))
      unfold cmP
      rw [kfV_eq f1, kfV_eq f2]
      exact this }
  refine ⟨g, cc, rfl, hg1, (sortFunc_ok 46 #[.pointer (some ⟨mb, 0, none⟩)] (cmP L w) B g ll.length cc vs w o1 o3 h1 (by omega) hcm).mono ?_⟩
  rintro e w' ⟨rfl, s1, s2⟩
  refine ⟨rfl, ?_, s2⟩
  have hpar : Par (fun x m => OI B w x m ∧ (∀ k, x.ownBlock = some k → k < w.heap.size) ∧ m ∈ ll) vs ll := ⟨o3, fun i hi => ⟨(o4 i hi).1, (o4 i hi).2, by rw [List.getD_eq_getElem?_getD, List.getElem?_eq_getElem hi]; exact List.getElem_mem hi⟩⟩
  have hp2 := par_insI (lv := ltC (cmP L w)) (ll' := ltP L) (fun v m v' m' h h' => by
    unfold ltC ltP cmP
    rw [kfV_eq (hfst v m h.2.2 h.1), kfV_eq (hfst v' m' h'.2.2 h'.1)]) hpar ll.length (Nat.le_refl _)
  refine ⟨_, s1, fun k hk => by have := s2.size; have := o2 k hk; omega, by rw [insI_len, insI_len]; exact o3, fun i hi => ?_⟩
  obtain ⟨p1, p2, p3⟩ := hp2.2 i hi
  refine ⟨p1.kept s2 ?_, fun k hk => by have := s2.size; have := p2 k hk; omega⟩
  rcases ow_apart o1 p1 with h | h
  · exact .inl h
  · exact .inr h
end Go.Proofs.Ythbpdfkaacgpoaa
