/-
  append of two integers to a slice of the call's own. Conditions as each law states.
-/
import Derived.Test.YtlcndccjlbahpaaBase
namespace Go.Proofs.Ytlcndccjlbahpaa
set_option linter.unusedVariables false
open Go.RowKit

theorem l20 (w : World) (x y : Value) (t : TypeId) : (w.alloc (.cells #[x, y] t)).cell? ⟨w.heap.size, 0, none⟩ = some x := by simp
theorem l21 (w : World) (x y : Value) (t : TypeId) : (w.alloc (.cells #[x, y] t)).cell? ⟨w.heap.size, 1, none⟩ = some y := by simp
theorem l20d (w : World) (x y : Value) (t : TypeId) : (w.alloc (.cells #[x, y] t)).drew.cell? ⟨w.heap.size, 0, none⟩ = some x := by simp
theorem l21d (w : World) (x y : Value) (t : TypeId) : (w.alloc (.cells #[x, y] t)).drew.cell? ⟨w.heap.size, 1, none⟩ = some y := by simp
theorem wpList_appi2 {P : Program} {ops : Array Oper} {rest : List Oper} {o : Oper} {a : Act} {Q : Exit → Act → World → Prop} {w : World} {x y : Int} {H : Nat} (w0 : World) (s z : Operand) (st : TypeId)
    (hgd : o.guard = none) (ho : o.op = .call { callee := .builtin .append, args := #[s, z], argTypes := #[st, st] })
    (ht : P.underlying st = some (.slice 3)) (hi : (P.info? 3).map (fun i => (i.zero, i.size, i.bytes)) = some (some (.int .i64 0), 1, 8))
    (B : Nat) (v : Value) (l : List Int) (hs : a.eval s = v) (hown : OI B w0 v l) (hy : a.eval z = .slice (some ⟨H, 0, none⟩) 2 2)
    (hlen : l.length ≤ 1000000000000) (hB : B ≤ w0.heap.size)
    (h : ∀ g c w', OI B w' (.slice (some ⟨g, 0, none⟩) (l.length + 2) c) (l ++ [x, y]) → w0.grownBy w' v.ownBlock → (v.ownBlock = some g ∨ w0.heap.size ≤ g) → g < w'.heap.size → wpList P ops Q rest (a.put o.dst (.slice (some ⟨g, 0, none⟩) (l.length + 2) c)) w')
    (h0 : Below w0.heap.size w0 w := by first | exact (Below.refl _ _).alloc (Nat.le_refl _) _ | exact ((Below.refl _ _).alloc (Nat.le_refl _) _).drew | exact ((Below.refl _ _).drew).alloc (Nat.le_refl _) _)
    (hc0 : w.cell? ⟨H, 0, none⟩ = some (.int .i64 x) := by first | exact l20 _ _ _ _ | exact l20d _ _ _ _ | go_simp)
    (hc1 : w.cell? ⟨H, 1, none⟩ = some (.int .i64 y) := by first | exact l21 _ _ _ _ | exact l21d _ _ _ _ | go_simp) :
    wpList P ops Q (o :: rest) a w := by
  obtain ⟨i0, hi1, hz0, hz1, hz2⟩ := info_parts hi
  have hsz := h0.size
  have hlm : (l.map (Value.int .i64)).length = l.length := by simp
  refine Go.wpList_append_lies (P := P) (w := w) hgd s z st ho B 3 i0 (.int .i64 0) 1 8 ht hi1 hz0 hz1 hz2 rfl (by decide) v (l.map (Value.int .i64)).length _ hs (Ow.below hown h0) ⟨H, 0, none⟩ 2 2 [.int .i64 x, .int .i64 y] hy rfl ?_ ?_ (by decide) ?_ ?_ (by omega) _ rfl ?_
  · intro j u hj
    match j, hj with
    | 0, hj => simp at hj; subst hj; simpa [Addr.add] using hc0
    | 1, hj => simp at hj; subst hj; simpa [Addr.add] using hc1
  · intro u hu
    simp at hu
    rcases hu with rfl | rfl <;> rfl
  · unfold maxLen; omega
  · omega
  · intro g cap w' h1 h2 h3 h4
    rw [hlm] at h1 ⊢
    refine h g cap w' ?_ ?_ ?_ h4
    · unfold OI Ow; rw [List.map_append]; simpa using h1
    · exact ⟨h2.os.trans h0.os, h2.tape.trans h0.tape, h2.output.trans h0.output, Nat.le_trans hsz h2.size, fun k hk hne => (h2.block k (by omega) hne).trans (h0.block k hk)⟩
    · rcases h3 with h3 | h3
      · exact .inl h3
      · right; omega
/-- At a step of a region that draws its order. -/
theorem step_appi2 {P : Program} {ops : Array Oper} {o : Oper} {a : Act} {K : Act → World → Prop} {Q : Exit → Act → World → Prop} {R : Prop} {w : World} {x y : Int} {H : Nat} (w0 : World) (s z : Operand) (st : TypeId)
    (hgd : o.guard = none) (ho : o.op = .call { callee := .builtin .append, args := #[s, z], argTypes := #[st, st] })
    (ht : P.underlying st = some (.slice 3)) (hi : (P.info? 3).map (fun i => (i.zero, i.size, i.bytes)) = some (some (.int .i64 0), 1, 8))
    (B : Nat) (v : Value) (l : List Int) (hs : a.eval s = v) (hown : OI B w0 v l) (hy : a.eval z = .slice (some ⟨H, 0, none⟩) 2 2)
    (hlen : l.length ≤ 1000000000000) (hB : B ≤ w0.heap.size)
    (h : ∀ g c w', OI B w' (.slice (some ⟨g, 0, none⟩) (l.length + 2) c) (l ++ [x, y]) → w0.grownBy w' v.ownBlock → (v.ownBlock = some g ∨ w0.heap.size ≤ g) → g < w'.heap.size → K (a.put o.dst (.slice (some ⟨g, 0, none⟩) (l.length + 2) c)) w')
    (h0 : Below w0.heap.size w0 w := by first | exact (Below.refl _ _).alloc (Nat.le_refl _) _ | exact ((Below.refl _ _).alloc (Nat.le_refl _) _).drew | exact ((Below.refl _ _).drew).alloc (Nat.le_refl _) _)
    (hc0 : w.cell? ⟨H, 0, none⟩ = some (.int .i64 x) := by first | exact l20 _ _ _ _ | exact l20d _ _ _ _ | go_simp)
    (hc1 : w.cell? ⟨H, 1, none⟩ = some (.int .i64 y) := by first | exact l21 _ _ _ _ | exact l21d _ _ _ _ | go_simp) :
    if Region.wanted o (yielded ops a.tmps) = true then Oper.wp P o a w K Q else R := by
  obtain ⟨i0, hi1, hz0, hz1, hz2⟩ := info_parts hi
  have hsz := h0.size
  have hlm : (l.map (Value.int .i64)).length = l.length := by simp
  refine step_append_lies (P := P) (w := w) hgd s z st ho B 3 i0 (.int .i64 0) 1 8 ht hi1 hz0 hz1 hz2 rfl (by decide) v (l.map (Value.int .i64)).length _ hs (Ow.below hown h0) ⟨H, 0, none⟩ 2 2 [.int .i64 x, .int .i64 y] hy rfl ?_ ?_ (by decide) ?_ ?_ (by omega) _ rfl ?_
  · intro j u hj
    match j, hj with
    | 0, hj => simp at hj; subst hj; simpa [Addr.add] using hc0
    | 1, hj => simp at hj; subst hj; simpa [Addr.add] using hc1
  · intro u hu
    simp at hu
    rcases hu with rfl | rfl <;> rfl
  · unfold maxLen; omega
  · omega
  · intro g cap w' h1 h2 h3 h4
    rw [hlm] at h1 ⊢
    refine h g cap w' ?_ ?_ ?_ h4
    · unfold OI Ow; rw [List.map_append]; simpa using h1
    · exact ⟨h2.os.trans h0.os, h2.tape.trans h0.tape, h2.output.trans h0.output, Nat.le_trans hsz h2.size, fun k hk hne => (h2.block k (by omega) hne).trans (h0.block k hk)⟩
    · rcases h3 with h3 | h3
      · exact .inl h3
      · right; omega
end Go.Proofs.Ytlcndccjlbahpaa
