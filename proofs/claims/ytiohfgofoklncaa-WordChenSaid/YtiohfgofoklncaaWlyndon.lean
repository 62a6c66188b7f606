/-
  Walks over word.lyndon, word.Lyndon, word.Factors: what each returns. Condition: the slice can be read.
-/
import Derived.Test.YtiohfgofoklncaaWfactors
import Derived.Test.YtiohfgofoklncaaWcheck
import Derived.Test.YtiohfgofoklncaaLynB
namespace Go.Proofs.Ytiohfgofoklncaa
open Go.RowKit

theorem lyndon_any (v : Value) (l : List Int) (w : World) (hl : Sl w v l) (hlen : l.length ≤ 4096) :
    Calls Try.prog 33 #[v] w fun e w' => e = .returned (.bool (Lex.lynB l)) ∧ Below w.heap.size w w' := by
  have H := hid (factors_any v l w hl hlen)
  obtain ⟨a, k, N, rfl, hN, hl1, hl2⟩ := hl.open
  clear hl hl2 hlen
  by_cases h0 : N = 0
  · subst h0
    obtain rfl : l = [] := List.eq_nil_of_length_eq_zero hN.out
    clear H
    go_enter Try.func33, Try.ntmps33
    go_wp2
    go_ret
    exact ⟨rfl, Below.refl _ _⟩
  · have hpos : 0 < N := by omega
    go_enter Try.func33, Try.ntmps33
    go_wp2_with fail
    refine H.out.mono ?_
    rintro e w' ⟨⟨u, F, rfl, hF, hown⟩, hb⟩
    obtain ⟨f, G, rfl⟩ := Lex.made_ne hF (by intro e; have := hN.out; rw [e] at this; simp at this; omega)
    have hfl := Lex.made_first hF
    obtain ⟨g, c, rfl, _, _⟩ := hown.form (by simp [Lex.lens])
    have hc := hown.cell 0 (by simp [Lex.lens])
    have HL : Hid (((f.length : Int) == (N : Int)) = Lex.lynB l) := by
      refine hid (Lex.lynB_of ?_)
      rw [← hfl, hN.out]
      simp
      omega
    have hlc : (Lex.lens (f :: G)).getD 0 0 = (f.length : Int) := rfl
    rw [hlc] at hc
    have hlen2 : 0 < (Lex.lens (f :: G)).length := by simp [Lex.lens]
    generalize (Lex.lens (f :: G)).length = M at *
    clear hown hF hfl hlc H
    go_wp2
    go_ret
    exact ⟨by rw [← HL.out]; rfl, hb⟩

theorem Lyndon_bad (v : Value) (l : List Int) (w : World) (hl : Sl w v l) (hb : ∀ x ∈ l, I64 x) (h : wordFault l ≠ 0) :
    Calls Try.prog 18 #[v] w fun e w' => e = .returned (.tuple #[.bool false, .int .i64 (wordFault l)]) ∧ w = w' := by
  have H := hid (check_any v l w hl hb)
  have hq : (wordFault l != 0) = true := by simpa using h
  go_enter Try.func18, Try.ntmps18
  go_wp2_with fail
  refine H.out.mono ?_
  rintro e w' ⟨rfl, rfl⟩
  go_wp2
  go_ret2
  exact ⟨rfl, rfl⟩

theorem fault_len {l : List Int} (h : wordFault l = 0) : l.length ≤ 4096 := by
  unfold wordFault at h
  split at h
  · cases h
  · omega

theorem Lyndon_ok (v : Value) (l : List Int) (w : World) (hl : Sl w v l) (hb : ∀ x ∈ l, I64 x) (h : wordFault l = 0) :
    Calls Try.prog 18 #[v] w fun e w' => e = .returned (.tuple #[.bool (Lex.lynB l), .int .i64 0]) ∧ Below w.heap.size w w' := by
  have H := check_any v l w hl hb
  rw [h] at H
  have H' := hid H
  clear H
  go_enter Try.func18, Try.ntmps18
  go_wp2_with fail
  refine H'.out.mono ?_
  rintro e w' ⟨rfl, rfl⟩
  go_wp2_with fail
  refine (lyndon_any v l w hl (fault_len h)).mono ?_
  rintro e w' ⟨rfl, hb'⟩
  go_wp2
  go_ret2
  exact ⟨rfl, hb'⟩

theorem Factors_bad (v : Value) (l : List Int) (w : World) (hl : Sl w v l) (hb : ∀ x ∈ l, I64 x) (h : wordFault l ≠ 0) :
    Calls Try.prog 17 #[v] w fun e w' => e = .returned (.tuple #[.slice none 0 0, .int .i64 (wordFault l)]) ∧ w = w' := by
  have H := hid (check_any v l w hl hb)
  have hq : (wordFault l != 0) = true := by simpa using h
  go_enter Try.func17, Try.ntmps17
  go_wp2_with fail
  refine H.out.mono ?_
  rintro e w' ⟨rfl, rfl⟩
  go_wp2
  go_ret2
  exact ⟨rfl, rfl⟩

theorem Factors_ok (v : Value) (l : List Int) (w : World) (hl : Sl w v l) (hb : ∀ x ∈ l, I64 x) (h : wordFault l = 0) :
    Calls Try.prog 17 #[v] w fun e w' => (∃ u F, e = .returned (.tuple #[u, .int .i64 0]) ∧ Lex.Made l F ∧ OI w.heap.size w' u (Lex.lens F)) ∧ Below w.heap.size w w' := by
  have H := check_any v l w hl hb
  rw [h] at H
  have H' := hid H
  clear H
  go_enter Try.func17, Try.ntmps17
  go_wp2_with fail
  refine H'.out.mono ?_
  rintro e w' ⟨rfl, rfl⟩
  go_wp2_with fail
  refine (factors_any v l w hl (fault_len h)).mono ?_
  rintro e w' ⟨⟨u, F, rfl, hF, hown⟩, hb'⟩
  have HF := hid hF
  clear hF
  go_wp2
  go_ret2
  exact ⟨⟨_, F, rfl, HF.out, hown⟩, hb'⟩
end Go.Proofs.Ytiohfgofoklncaa
