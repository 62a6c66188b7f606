/-
  The walk over tour.Parts. Conditions: the tournament is right; the slice can be read.
-/
import Derived.Test.YthbpdfkaacgpoaaSortC
import Derived.Test.YthbpdfkaacgpoaaMapV
import Derived.Test.YthbpdfkaacgpoaaTpof
import Derived.Deep.RegionHeld
namespace Go.Proofs.Ythbpdfkaacgpoaa
set_option linter.unusedVariables false
open Go.RowKit Go.Maps

/-- The table's cells. -/
def relT (r : Rel) : List Value := boolS 81 fun c => r (c / 9) (c % 9)
theorem relT_len (r : Rel) : (relT r).length = 81 := boolS_len _ _
theorem relT_get {r : Rel} {i j : Nat} (hi : i < 9) (hj : j < 9) : (relT r)[i * 9 + j]? = some (.bool (r i j)) := relS_get (S := 9) hi hj
theorem relT_put {r : Rel} {i j : Nat} {b : Bool} (hi : i < 9) (hj : j < 9) : (relT r).set (i * 9 + j) (.bool b) = relT (upd r i j b) := relS_put (S := 9) hi hj
def b0R (S : Nat) (l : List Int) : Rel := fun x y => beB S l (S * S) (x * 9 + y)
theorem relT_tab (S : Nat) (l : List Int) : boolS 81 (beB S l (S * S)) = relT (b0R S l) := by
  unfold relT boolS
  refine List.map_congr_left fun c _ => ?_
  have : c / 9 * 9 + c % 9 = c := by omega
  show Value.bool (beB S l (S * S) c) = Value.bool (beB S l (S * S) (c / 9 * 9 + c % 9))
  rw [this]
/-- How many are reached in other parts. -/
def mnR (R : Rel) (i k : Nat) : Nat := ((List.range k).filter fun j => R i j && !R j i).length
theorem mnR_succ (R : Rel) (i k : Nat) : mnR R i (k + 1) = mnR R i k + if (R i k && !R k i) = true then 1 else 0 := by
  unfold mnR
  rw [List.range_succ, List.filter_append, List.length_append, List.filter_cons]
  split <;> simp
theorem mnR_le (R : Rel) (i k : Nat) : mnR R i k ≤ k := by
  unfold mnR
  have := List.length_filter_le (fun j => R i j && !R j i) (List.range k)
  rwa [List.length_range] at this
/-- With everybody coming to himself. -/
def slf (R : Rel) : Rel := fun x y => R x y || decide (x = y)
theorem slf_both (R : Rel) (i j : Nat) : (slf R i j && slf R j i) = (decide (i = j) || (R i j && R j i)) := by
  unfold slf
  by_cases e : i = j
  · subst e; simp
  · have e2 : ¬ j = i := fun h => e h.symm
    simp [e, e2]
def hdB (R : Rel) (n i : Nat) : Bool := (clP (slf R) i n).getD 0 0 == (i : Int)
/-- The parts by their first players; how many these reach. -/
def ptL (R : Rel) (n : Nat) : Nat → List (List Int)
  | 0 => []
  | i + 1 => ptL R n i ++ if hdB R n i = true then [clP (slf R) i n] else []
def mpL (R : Rel) (n : Nat) : Nat → List (Nat × Nat)
  | 0 => []
  | i + 1 => if hdB R n i = true then (i, mnR R i n) :: mpL R n i else mpL R n i
theorem ptL_len (R : Rel) (n : Nat) : ∀ i, (ptL R n i).length ≤ i
  | 0 => Nat.le_refl _
  | i + 1 => by
    have := ptL_len R n i
    rw [ptL, List.length_append]
    split <;> simp <;> omega
theorem mpL_le (R : Rel) (n : Nat) : ∀ i k, lookL (mpL R n i) k ≤ n
  | 0, k => Nat.zero_le _
  | i + 1, k => by
    rw [mpL]
    split
    · rw [lookL]
      split
      · exact mnR_le R i n
      · exact mpL_le R n i k
    · exact mpL_le R n i k

/-- A slice's first number. -/
def fstV (w : World) (v : Value) (k : Nat) : Prop := ∃ b off N c, v = .slice (some ⟨b, off, none⟩) N c ∧ 1 ≤ N ∧ b < w.heap.size ∧ w.cell? ⟨b, off, none⟩ = some (.int .i64 (k : Int))

set_option maxHeartbeats 1000000 in
set_option maxRecDepth 100000 in
theorem parts1_any (p q : Value) (kp kq mb mp n : Nat) (L : List (Nat × Nat)) (w : World) (hp : fstV w p kp) (hq : fstV w q kq) (h1 : kp ≤ 9) (h2 : kq ≤ 9) (hL : ∀ k, lookL L k ≤ 9) (hb : w.cell? ⟨mb, 0, none⟩ = some (.map (some mp))) (hM : MV w mp n L) :
    Calls Try.prog 46 #[p, q, .pointer (some ⟨mb, 0, none⟩)] w fun e w' => e = .returned (.int .i64 ((lookL L kq : Int) - (lookL L kp : Int))) ∧ ∃ m, w' = w.drewN m := by
  obtain ⟨b1, o1, n1, c1, rfl, hn1, hb1, hc1⟩ := hp
  obtain ⟨b2, o2, n2, c2, rfl, hn2, hb2, hc2⟩ := hq
  have hl1 := fun m => MV.look Try.underlying64 (hM.drewN m) (show kp ≤ 1000 by omega)
  have hl2 := fun m => MV.look Try.underlying64 (hM.drewN m) (show kq ≤ 1000 by omega)
  have g1 := hL kp
  have g2 := hL kq
  generalize lookL L kp = z1 at *
  generalize lookL L kq = z2 at *
  have hz1 : (0 : Int) < (n1 : Int) := by omega
  have hz2 : (0 : Int) < (n2 : Int) := by omega
  have hl10 := hl1 0
  have hl20 := hl2 0
  clear hM hL
  have hw := IntWalk.i64_in ((z2 : Int) - (z1 : Int)) (by omega)
  go_enter Try.func46, Try.ntmps46
  go_wp2
  go_quiet (fail)
  go_wp2
  go_ret
  exact ⟨rfl, _, rfl⟩
end Go.Proofs.Ythbpdfkaacgpoaa
