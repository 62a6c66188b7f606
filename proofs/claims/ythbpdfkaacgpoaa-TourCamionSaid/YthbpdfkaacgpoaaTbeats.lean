/-
  The walk over parterreref4.Beats; what comes of a list, as the document walks it. Conditions: as each theorem states.
-/
import Derived.Test.YthbpdfkaacgpoaaTpath2
namespace Go.Proofs.Ythbpdfkaacgpoaa
set_option linter.unusedVariables false
open Go.RowKit

theorem beB_at {S : Nat} {l : List Int} {a b : Nat} (hS9 : S ≤ 9) (ha : a < S) (hb : b < S) : beB S l (S * S) (a * 9 + b) = (gD l (a * S + b) == 1) := by
  unfold beB
  have h1 : (a * 9 + b) / 9 = a := by omega
  have h2 : (a * 9 + b) % 9 = b := by omega
  rw [h1, h2, decide_eq_true ha, decide_eq_true hb, decide_eq_true (pos_lt ha hb)]
  rfl
set_option maxHeartbeats 1000000 in
set_option maxRecDepth 100000 in
theorem Beats_ok (S a b : Nat) (u : Value) (l : List Int) (w : World) (hu : Sl w u l) (hS9 : S ≤ 9) (hlen : l.length = S * S) (ha : a < S) (hb : b < S) :
    Calls Try.prog 18 #[sqV S u, .int .i64 a, .int .i64 b] w fun e w' => e = .returned (.bool (beB S l (S * S) (a * 9 + b))) ∧ Below w.heap.size w w' := by
  have hE := beB_at (l := l) hS9 ha hb
  obtain ⟨ax, cx, hv1, hl1, hc⟩ := hu.out
  rw [hlen] at hv1 hl1 hc
  subst hv1
  have hp := pos_lt ha hb
  obtain ⟨bs, os, rfl, hbs, hcs⟩ := hc (by omega)
  have c1 := (((Below.refl w.heap.size w).alloc (Nat.le_refl _) (.cells #[.int .i64 (S : Int), .slice (some ⟨bs, os, none⟩) (S * S) cx] 24)).cell (p := ⟨bs, os + (a * S + b), none⟩) hbs).trans (hcs (a * S + b) hp)
  have HB := hid ((Below.refl w.heap.size w).alloc (Nat.le_refl _) (.cells #[.int .i64 (S : Int), .slice (some ⟨bs, os, none⟩) (S * S) cx] 24))
  rw [show l.getD (a * S + b) 0 = gD l (a * S + b) from rfl] at c1
  have m1 : (a : Int) * (S : Int) = ((a * S : Nat) : Int) := (Int.natCast_mul _ _).symm
  have a1 : ((a * S : Nat) : Int) + (b : Int) = ((a * S + b : Nat) : Int) := (Int.natCast_add _ _).symm
  have hSS81 : S * S ≤ 81 := Nat.mul_le_mul hS9 hS9
  have l1 : a * S ≤ a * S + b := by omega
  rw [hE]
  clear hu hE hcs hc hlen
  generalize gD l (a * S + b) = x at *
  generalize a * S + b = p at *
  generalize a * S = q at *
  generalize S * S = SS at *
  unfold sqV
  go_enter Try.func18, Try.ntmps18
  go_wp2
  go_ret
  exact ⟨rfl, HB.out⟩

/-- What the document counts. -/
def fltB (SB : Nat → Bool) (ring : Bool) (l : List Int) : Bool := !ring || clB SB l
def cmpF (N : Nat) (SB : Nat → Bool) (ring : Bool) (f : Nat) (l : List Int) : List (List Int) := (comp N SB f l).filter (fltB SB ring)
def cmpT (N : Nat) (SB : Nat → Bool) (ring : Bool) (f : Nat) (l : List Int) (t : Nat) : List (List Int) := (compT N SB f l t).filter (fltB SB ring)
theorem cmpT_zero (N : Nat) (SB : Nat → Bool) (ring : Bool) (f : Nat) (l : List Int) : cmpT N SB ring f l 0 = [] := rfl
theorem cmpT_succ (N : Nat) (SB : Nat → Bool) (ring : Bool) (f : Nat) (l : List Int) (t : Nat) : cmpT N SB ring f l (t + 1) = cmpT N SB ring f l t ++ if okB SB l t then cmpF N SB ring f (l ++ [(t : Int)]) else [] := by
  unfold cmpT cmpF
  rw [compT_succ, List.filter_append]
  split <;> simp
theorem cmpF_succ (N : Nat) (SB : Nat → Bool) (ring : Bool) (f : Nat) (l : List Int) : cmpF N SB ring (f + 1) l = cmpT N SB ring f l N := rfl
theorem cmpF_len {N : Nat} (SB : Nat → Bool) (ring : Bool) (f : Nat) (l : List Int) : (cmpF N SB ring f l).length ≤ N ^ f := Nat.le_trans (List.length_filter_le _ _) (comp_len SB f l)
/-- The first one, or nil. -/
def HeadV (w : World) (v : Value) (L : List (List Int)) : Prop := match L with
  | [] => v = .slice none 0 0
  | x :: _ => Sl w v x
theorem HeadV.grown {A B : World} {v : Value} {L : List (List Int)} (h : HeadV A v L) (g : Below A.heap.size A B) : HeadV B v L := by
  cases L with
  | nil => exact h
  | cons x xs => exact Sl.below h g
theorem HeadV.app {w : World} {v : Value} {L M : List (List Int)} (h : HeadV w v L) (hL : L ≠ []) : HeadV w v (L ++ M) := by
  cases L with
  | nil => exact absurd rfl hL
  | cons x xs => exact h
theorem HeadV.nil {w : World} {v : Value} {M : List (List Int)} (h : HeadV w v M) : HeadV w v ([] ++ M) := h
end Go.Proofs.Ythbpdfkaacgpoaa
