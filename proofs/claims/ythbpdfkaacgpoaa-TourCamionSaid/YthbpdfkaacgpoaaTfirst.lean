/-
  The walks over tour.first, Path and Cycle's tests. Conditions: the slice can be read; the numbers are of 64 bits.
-/
import Derived.Test.YthbpdfkaacgpoaaTpth2
namespace Go.Proofs.Ythbpdfkaacgpoaa
set_option linter.unusedVariables false
open Go.RowKit

/-- A test of a list, by the table. -/
structure Want (g : FuncId) (SB : Nat → Bool) (N : Nat) (wt : List Int → Bool) : Prop where
  enter : ∀ (args : Array Value) (w : World), (callFunc g args).run Try.prog w = .ok (.enter g args) w
  calls : ∀ (w : World) (v : Value) (l : List Int), Sl w v l → l.length = N → (∀ x ∈ l, 0 ≤ x ∧ x < 9) → Calls Try.prog g #[.agg (boolS 81 SB).toArray, v] w fun e w' => e = .returned (.bool (wt l)) ∧ w.grownBy w' none
def stepF (wt : List Int → Bool) (_ : Option (List Int)) (l : List Int) : Option (List Int) × Bool := (some l, wt l)
theorem foldF_yes {wt : List Int → Bool} {l : List Int} : ∀ (L : List (List Int)) (o : Option (List Int)), L.find? wt = some l → foldU (stepF wt) o L = (some l, true)
  | [], o, h => by cases h
  | x :: xs, o, h => by
    have e : foldU (stepF wt) o (x :: xs) = if wt x then (some x, true) else foldU (stepF wt) (some x) xs := rfl
    rw [e]
    cases hx : wt x with
    | true =>
      rw [List.find?_cons_of_pos hx] at h
      cases h
      rfl
    | false =>
      rw [List.find?_cons_of_neg (by rw [hx]; decide)] at h
      exact foldF_yes xs _ h
theorem foldF_no {wt : List Int → Bool} : ∀ (L : List (List Int)) (o : Option (List Int)), L.find? wt = none → (foldU (stepF wt) o L).2 = false
  | [], o, _ => rfl
  | x :: xs, o, h => by
    have e : foldU (stepF wt) o (x :: xs) = if wt x then (some x, true) else foldU (stepF wt) (some x) xs := rfl
    rw [e]
    cases hx : wt x with
    | true =>
      rw [List.find?_cons_of_pos hx] at h
      cases h
    | false =>
      rw [List.find?_cons_of_neg (by rw [hx]; decide)] at h
      exact foldF_no xs _ h
/-- What the boxes hold. -/
def InvF (bx bw bt : Nat) (g : FuncId) (SB : Nat → Bool) (o : Option (List Int)) (w : World) : Prop :=
  ∃ v, Arr w bx 22 [v] ∧ (∀ l, o = some l → Sl w v l ∧ OffB v bx) ∧ Arr w bw 52 [.func (.func g) #[] #[]] ∧ Arr w bt 51 (boolS 81 SB) ∧ bx ≠ bw ∧ bx ≠ bt

set_option maxHeartbeats 1000000 in
set_option maxRecDepth 100000 in
theorem first1_ok {g : FuncId} {SB : Nat → Bool} {N : Nat} {wt : List Int → Bool} (Wn : Want g SB N wt) (bx bw bt : Nat) (o : Option (List Int)) (w : World) (v : Value) (l : List Int) (hI : InvF bx bw bt g SB o w) (hv : Sl w v l) (ho : OffB v bx) (hl : l.length = N) (hin : ∀ x ∈ l, 0 ≤ x ∧ x < 9) :
    Calls Try.prog 47 #[v, .pointer (some ⟨bx, 0, none⟩), .pointer (some ⟨bw, 0, none⟩), .pointer (some ⟨bt, 0, none⟩)] w fun e w' => e = .returned (.bool (wt l)) ∧ InvF bx bw bt g SB (some l) w' ∧ w.grownBy w' (some bx) := by
  obtain ⟨av, cv, e1⟩ := hv.len
  rw [hl] at e1
  subst e1
  obtain ⟨v0, h1, _, h2, h3, h4, h5⟩ := hI
  have c1 := h1.cell 0
  have f1 := h1.frozen 0
  simp only [List.getElem?_cons_zero] at c1
  obtain ⟨hs, hg⟩ := h1.stored 0 (.slice av N cv)
  have hw2 := h2.kept hg (fun e => h4 (Option.some.inj e).symm)
  have ht2 := h3.kept hg (fun e => h5 (Option.some.inj e).symm)
  have hv2 := hv.grown hg ho
  have hen := Wn.enter
  have HW := hid (Wn.calls _ _ l hv2 hl hin)
  have HS := hid (And.intro hs (And.intro hw2 (And.intro ht2 (And.intro hv2 hg))))
  have k2 := hw2.cell 0
  simp only [List.getElem?_cons_zero] at k2
  have r3 := ht2.range
  have i1 : (Try.prog.info? 51).map (·.size) = some (boolS 81 SB).length := by rw [boolS_len]; kernel_rfl
  have HNE := hid (And.intro h4 (And.intro h5 ho))
  clear hl h1 h2 h3 h4 h5 hs hg hw2 ht2 hv2 hv ho Wn
  generalize wt l = b at *
  go_enter Try.func47, Try.ntmps47
  go_wp2_with (refine wpList_load_mid rfl 51 _ rfl bt 0 rfl (boolS 81 SB) _ r3 Try.underlying51 rfl i1 ?_)
  refine HW.out.mono ?_
  rintro e w2 ⟨rfl, hg2⟩
  have HZ : Hid (InvF bx bw bt g SB (some l) w2 ∧ w.grownBy w2 (some bx)) := hid ⟨⟨_, HS.out.1.kept hg2 (by simp), (fun l' e => by cases e; exact ⟨HS.out.2.2.2.1.grown0 hg2, HNE.out.2.2⟩), HS.out.2.1.kept hg2 (by simp), HS.out.2.2.1.kept hg2 (by simp), HNE.out.1, HNE.out.2.1⟩, grown_rn HS.out.2.2.2.2 hg2⟩
  clear hg2
  go_wp2
  go_ret
  exact ⟨rfl, HZ.out.1, HZ.out.2⟩
theorem contF {g : FuncId} {SB : Nat → Bool} {N : Nat} {wt : List Int → Bool} (Wn : Want g SB N wt) (bx bw bt : Nat) : Cont 47 #[.pointer (some ⟨bx, 0, none⟩), .pointer (some ⟨bw, 0, none⟩), .pointer (some ⟨bt, 0, none⟩)] bx (InvF bx bw bt g SB) (stepF wt) (fun _ => 0) 1000000000 N where
  enter := run_callFunc_own Try.func47 (by kernel_rfl) (by kernel_rfl)
  calls := fun s w v l hI hM hv ho hl hin => first1_ok Wn bx bw bt s w v l hI hv ho hl hin
  stab := fun s w w' hI hg => by
    obtain ⟨v, h1, h2, h3, h4, h5, h6⟩ := hI
    exact ⟨v, h1.kept hg (by simp), (fun l e => ⟨(h2 l e).1.grown0 hg, (h2 l e).2⟩), h3.kept hg (by simp), h4.kept hg (by simp), h5, h6⟩
  box := fun s w hI => by obtain ⟨v, h1, _⟩ := hI; exact h1.lt
  lstep := fun s x => Nat.zero_le _
end Go.Proofs.Ythbpdfkaacgpoaa
