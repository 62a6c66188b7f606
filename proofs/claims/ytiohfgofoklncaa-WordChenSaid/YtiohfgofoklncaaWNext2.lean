/-
  The walk over word.Next: the next Lyndon word, or what is wrong. Condition: the slice can be read.
-/
import Derived.Test.YtiohfgofoklncaaWNext
namespace Go.Proofs.Ytiohfgofoklncaa
open Go.RowKit

def tooBig (k : Int) (l : List Int) : Bool := l.any fun x => decide (k ≤ x)

theorem Next_range (k : Int) (v : Value) (w : World) (h : k < 1 ∨ 10 < k) :
    Calls Try.prog 28 #[.int .i64 k, v] w fun e w' => e = .returned (.tuple #[.slice none 0 0, .int .i64 1]) ∧ Below w.heap.size w w' := by
  by_cases h1 : k < 1
  · go_enter Try.func28, Try.ntmps28
    go_wp2
    all_goals (go_ret2; exact ⟨rfl, (Below.refl _ _).alloc (Nat.le_refl _) _⟩)
  · have h2 : 10 < k := by omega
    go_enter Try.func28, Try.ntmps28
    go_wp2
    all_goals (go_ret2; exact ⟨rfl, (Below.refl _ _).alloc (Nat.le_refl _) _⟩)

theorem Next_fault (k : Int) (v : Value) (l : List Int) (w : World) (hl : Sl w v l) (hb : ∀ x ∈ l, I64 x) (h1 : 1 ≤ k) (h2 : k ≤ 10) (h : wordFault l ≠ 0) :
    Calls Try.prog 28 #[.int .i64 k, v] w fun e w' => e = .returned (.tuple #[.slice none 0 0, .int .i64 (wordFault l)]) ∧ Below w.heap.size w w' := by
  have hbw : Below w.heap.size w (w.alloc (.cells #[.int .i64 k] 3)) := (Below.refl _ _).alloc (Nat.le_refl _) _
  have H := hid (check_any v l _ (hl.below hbw) hb)
  have hq : (wordFault l != 0) = true := by simpa using h
  go_enter Try.func28, Try.ntmps28
  go_wp2_with fail
  refine H.out.mono ?_
  rintro e w' ⟨rfl, rfl⟩
  go_wp2
  go_ret2
  exact ⟨rfl, hbw⟩

theorem Next_big (k : Int) (v : Value) (l : List Int) (w : World) (hl : Sl w v l) (hb : ∀ x ∈ l, I64 x) (h1 : 1 ≤ k) (h2 : k ≤ 10) (h : wordFault l = 0) (h3 : tooBig k l = true) :
    Calls Try.prog 28 #[.int .i64 k, v] w fun e w' => e = .returned (.tuple #[.slice none 0 0, .int .i64 1]) ∧ Below w.heap.size w w' := by
  have hbw : Below w.heap.size w (w.alloc (.cells #[.int .i64 k] 3)) := (Below.refl _ _).alloc (Nat.le_refl _) _
  have H := check_any v l _ (hl.below hbw) hb
  rw [h] at H
  have H' := hid H
  have C := containsFunc_any _ _ _ v l _ (hl.below hbw) hb (next1_tests k w.heap.size (w.alloc (.cells #[.int .i64 k] 3)) (by simp))
  rw [show (l.any fun x => decide (k ≤ x)) = true from h3] at C
  have C' := hid C
  clear H C
  go_enter Try.func28, Try.ntmps28
  go_wp2_with fail
  refine H'.out.mono ?_
  rintro e w' ⟨rfl, rfl⟩
  go_wp2_with fail
  refine C'.out.mono ?_
  rintro e w' ⟨rfl, rfl⟩
  go_wp2
  go_ret2
  exact ⟨rfl, hbw⟩

theorem Next_shape (k : Int) (v : Value) (l : List Int) (w : World) (hl : Sl w v l) (hb : ∀ x ∈ l, I64 x) (h1 : 1 ≤ k) (h2 : k ≤ 10) (h : wordFault l = 0) (h3 : tooBig k l = false) (h4 : Lex.lynB l = false) :
    Calls Try.prog 28 #[.int .i64 k, v] w fun e w' => e = .returned (.tuple #[.slice none 0 0, .int .i64 2]) ∧ Below w.heap.size w w' := by
  have hbw : Below w.heap.size w (w.alloc (.cells #[.int .i64 k] 3)) := (Below.refl _ _).alloc (Nat.le_refl _) _
  have H := check_any v l _ (hl.below hbw) hb
  rw [h] at H
  have H' := hid H
  have C := containsFunc_any _ _ _ v l _ (hl.below hbw) hb (next1_tests k w.heap.size (w.alloc (.cells #[.int .i64 k] 3)) (by simp))
  rw [show (l.any fun x => decide (k ≤ x)) = false from h3] at C
  have C' := hid C
  have L := lyndon_any v l _ (hl.below hbw) (fault_len h)
  rw [h4] at L
  have L' := hid L
  clear H C L
  go_enter Try.func28, Try.ntmps28
  go_wp2_with fail
  refine H'.out.mono ?_
  rintro e w' ⟨rfl, rfl⟩
  go_wp2_with fail
  refine C'.out.mono ?_
  rintro e w' ⟨rfl, rfl⟩
  go_wp2_with fail
  refine L'.out.mono ?_
  rintro e w2 ⟨rfl, hb2⟩
  have hfin := hbw.trans (hb2.mono hbw.size)
  clear hb2
  go_wp2
  go_ret2
  exact ⟨rfl, hfin⟩

theorem fault_small {l : List Int} (h : wordFault l = 0) : ∀ x ∈ l, 0 ≤ x ∧ x < 10 := by
  unfold wordFault at h
  split at h
  · cases h
  · split at h
    · cases h
    · rename_i h2
      intro x hx
      have h3 : l.any badLetter = false := by simpa using h2
      rw [List.any_eq_false] at h3
      have := h3 x hx
      simp [badLetter] at this
      omega

/-- What is wrong where there is no next one. -/
def nextErr (n : Nat) : Int := if n = 0 then 4 else 0

theorem Next_go (k : Int) (v : Value) (l : List Int) (w : World) (hl : Sl w v l) (hb : ∀ x ∈ l, I64 x) (h1 : 1 ≤ k) (h2 : k ≤ 10) (h : wordFault l = 0) (h3 : tooBig k l = false) (h4 : Lex.lynB l = true) :
    Calls Try.prog 28 #[.int .i64 k, v] w fun e w' => (∃ u, e = .returned (.tuple #[u, .int .i64 (nextErr (nextL k l l.length).length)]) ∧ OI w.heap.size w' u (nextL k l l.length)) ∧ Below w.heap.size w w' := by
  have hbw : Below w.heap.size w (w.alloc (.cells #[.int .i64 k] 3)) := (Below.refl _ _).alloc (Nat.le_refl _) _
  have H := check_any v l _ (hl.below hbw) hb
  rw [h] at H
  have H' := hid H
  have C := containsFunc_any _ _ _ v l _ (hl.below hbw) hb (next1_tests k w.heap.size (w.alloc (.cells #[.int .i64 k] 3)) (by simp))
  rw [show (l.any fun x => decide (k ≤ x)) = false from h3] at C
  have C' := hid C
  have hlen := fault_len h
  have L := lyndon_any v l _ (hl.below hbw) hlen
  rw [h4] at L
  have L' := hid L
  have hpos : 0 < l.length := List.length_pos_iff.2 ((Lex.lynB_iff l).1 h4).1
  have N := fun W => next_any k l.length v l W
  have N' := hid N
  have hsm : SmallL l := fun x hx => by have := fault_small h x hx; omega
  have hnl := nextL_len k l l.length
  clear H C L N
  obtain ⟨a, c, M, rfl, hM, hl1, _⟩ := hl.open
  rw [hM.out] at N' hnl hlen hpos ⊢
  generalize nextL k l M = R at *
  go_enter Try.func28, Try.ntmps28
  go_wp2_with fail
  refine H'.out.mono ?_
  rintro e w' ⟨rfl, rfl⟩
  go_wp2_with fail
  refine C'.out.mono ?_
  rintro e w' ⟨rfl, rfl⟩
  go_wp2_with fail
  refine L'.out.mono ?_
  rintro e w2 ⟨rfl, hb2⟩
  have hfin := hbw.trans (hb2.mono hbw.size)
  have hck : w2.cell? ⟨w.heap.size, 0, none⟩ = some (.int .i64 k) := by
    rw [hb2.cell (p := ⟨w.heap.size, 0, none⟩) (by simp)]
    simp
  clear hb2
  go_wp2_with fail
  refine (N'.out _ (hl.below hfin) hpos hsm h1 h2 (by omega)).mono ?_
  rintro e w3 ⟨⟨u, rfl, hu⟩, hb3⟩
  have hfin3 := hfin.trans (hb3.mono hfin.size)
  rcases Nat.eq_zero_or_pos R.length with h0 | h0
  · obtain ⟨a2, c2, e⟩ := hu.len
    subst e
    rw [h0]
    obtain rfl : R = [] := List.eq_nil_of_length_eq_zero h0
    clear hb3 hu h0 H' C' L' N'
    go_wp2
    go_ret2
    exact ⟨⟨_, rfl, OI.nil _ _⟩, hfin3⟩
  · have HC := hid (show nextErr R.length = 0 from if_neg (by omega))
    obtain ⟨g, c2, e, _, _⟩ := hu.form h0
    subst e
    have hcl := fun W (hw : Below w3.heap.size w3 W) => clone_any g R.length c2 R W ((hu.below hw).sl (by omega)) (by omega)
    have HCL := hid hcl
    have hlz : Hid (R.length = R.length) := hid rfl
    clear hb3 H' C' L' N' hcl
    generalize hRl : R.length = RL at *
    have HRL := hid hRl
    clear hRl
    have hz : ((RL : Int) == 0) = false := by simp; omega
    go_wp2_with fail
    refine (HCL.out _ (Below.refl _ _)).mono ?_
    rintro e w4 ⟨⟨u4, rfl, hu4⟩, hb4⟩
    go_wp2
    go_ret2
    exact ⟨⟨_, by rw [HRL.out, HC.out]; rfl, hu4.mono hfin3.size⟩, hfin3.trans (hb4.mono hfin3.size)⟩
end Go.Proofs.Ytiohfgofoklncaa
