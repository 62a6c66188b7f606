/-
  Slices of pairs of integers ([][2]int). Conditions as each law states.
-/
import Derived.Test.YtlcndccjlbahpaaLists
namespace Go.Proofs.Ytlcndccjlbahpaa
set_option linter.unusedVariables false
open Go.RowKit

/-- A slice of pairs that can be read. -/
def PR (w : World) (v : Value) (l : List (Nat × Nat)) : Prop :=
  ∃ a c, v = .slice a l.length c ∧ (l.length ≤ 1000 ∧ l.length ≤ c) ∧ (0 < l.length → ∃ b, a = some ⟨b, 0, none⟩ ∧ b < w.heap.size ∧ ∀ i, i < l.length → w.cell? ⟨b, i * 2, none⟩ = some (.int .i64 ((l.getD i (0, 0)).1 : Int)) ∧ w.cell? ⟨b, i * 2 + 1, none⟩ = some (.int .i64 ((l.getD i (0, 0)).2 : Int)))
theorem PR.below {w w' : World} {v : Value} {l : List (Nat × Nat)} (h : PR w v l) (hb : Below w.heap.size w w') : PR w' v l := by
  obtain ⟨a, c, h1, h2, h3⟩ := h
  refine ⟨a, c, h1, h2, fun hp => ?_⟩
  obtain ⟨b, e, hg, hc⟩ := h3 hp
  exact ⟨b, e, Nat.lt_of_lt_of_le hg hb.size, fun i hi => ⟨(hb.cell (p := ⟨b, i * 2, none⟩) hg).trans (hc i hi).1, (hb.cell (p := ⟨b, i * 2 + 1, none⟩) hg).trans (hc i hi).2⟩⟩
theorem PR.open {w : World} {v : Value} {l : List (Nat × Nat)} (h : PR w v l) : ∃ a c N, v = .slice a N c ∧ Hid (l.length = N) ∧ (N ≤ 1000 ∧ N ≤ c) ∧ (0 < N → ∃ b, a = some ⟨b, 0, none⟩ ∧ b < w.heap.size ∧ ∀ i, i < N → w.cell? ⟨b, i * 2, none⟩ = some (.int .i64 ((l.getD i (0, 0)).1 : Int)) ∧ w.cell? ⟨b, i * 2 + 1, none⟩ = some (.int .i64 ((l.getD i (0, 0)).2 : Int))) := by
  obtain ⟨a, c, h1, h2, h3⟩ := h
  exact ⟨a, c, l.length, h1, hid rfl, h2, h3⟩
theorem pl0 (w : World) (x y : Value) (t : TypeId) : (w.alloc (.cells #[x, y] t)).cell? ⟨w.heap.size, 0, none⟩ = some x := by simp
theorem pl1 (w : World) (x y : Value) (t : TypeId) : (w.alloc (.cells #[x, y] t)).cell? ⟨w.heap.size, 1, none⟩ = some y := by simp
theorem pl_lt (w : World) (o : Obj) : w.heap.size < (w.alloc o).heap.size := by simp

def flP : List (Nat × Nat) → List Value
  | [] => []
  | p :: l => .int .i64 (p.1 : Int) :: .int .i64 (p.2 : Int) :: flP l
theorem flP_len : ∀ l, (flP l).length = l.length * 2
  | [] => rfl
  | p :: l => by simp only [flP, List.length_cons, flP_len l]; omega
theorem flP_at : ∀ (l : List (Nat × Nat)) (i : Nat), i < l.length → (flP l)[i * 2]? = some (.int .i64 ((l.getD i (0, 0)).1 : Int)) ∧ (flP l)[i * 2 + 1]? = some (.int .i64 ((l.getD i (0, 0)).2 : Int))
  | p :: l, 0, _ => ⟨rfl, rfl⟩
  | p :: l, i + 1, h => by
    have := flP_at l i (by simpa using h)
    rw [show (i + 1) * 2 = i * 2 + 1 + 1 by omega]
    simpa [flP] using this
theorem flP_app : ∀ (l m : List (Nat × Nat)), flP (l ++ m) = flP l ++ flP m
  | [], m => rfl
  | p :: l, m => by simp [flP, flP_app l m]
/-- A slice of pairs that the call made. -/
def OP (B : Nat) (w : World) (v : Value) (l : List (Nat × Nat)) : Prop := w.ownsRow B 40 2 v l.length (flP l)
section
variable {B : Nat} {w w' : World} {v : Value} {l : List (Nat × Nat)}
theorem OP.nil (B : Nat) (w : World) : OP B w (.slice none 0 0) [] := World.ownsRow_nil _ _ _ _
theorem OP.lt (h : OP B w v l) : ∀ k, v.ownBlock = some k → B ≤ k ∧ k < w.heap.size := World.ownsRow.lt h
theorem OP.below (h : OP B w v l) (hb : Below w.heap.size w w') : OP B w' v l := by
  obtain ⟨h1, h2⟩ := h
  refine ⟨h1, h2.imp id ?_⟩
  rintro ⟨g, cap, cur, e, hg, hh, r⟩
  exact ⟨g, cap, cur, e, hg, by rw [hb.block g (Array.getElem?_eq_some_iff.1 hh).1]; exact hh, r⟩
theorem OP.pr (h : OP B w v l) (hl : l.length ≤ 1000) : PR w v l := by
  rcases h.2 with ⟨rfl, h0⟩ | ⟨g, cap, cur, rfl, hb, hg, hnc, hcm, hcs, htake⟩
  · exact ⟨none, 0, by rw [h0], by omega, fun hp => by omega⟩
  · refine ⟨_, _, rfl, by omega, fun _ => ⟨g, rfl, (Array.getElem?_eq_some_iff.1 hg).1, fun i hi => ?_⟩⟩
    have hc := World.ownsRow.cells h (g := g) rfl
    have ha : ∀ j, (⟨g, 0, none⟩ : Addr).add j = ⟨g, j, none⟩ := fun j => by unfold Addr.add; split <;> simp_all
    obtain ⟨e1, e2⟩ := flP_at l i hi
    have c1 := hc _ _ e1
    have c2 := hc _ _ e2
    rw [ha] at c1 c2
    exact ⟨c1, c2⟩
end
theorem Try.info40 : (Try.prog.info? 40).map (fun i => (i.zero, i.size, i.bytes)) = some (some (.agg #[.int .i64 0, .int .i64 0]), 2, 16) := by kernel_rfl
/-- append of one pair to a slice of the call's own. -/
theorem wpList_appp {P : Program} {ops : Array Oper} {rest : List Oper} {o : Oper} {a : Act} {Q : Exit → Act → World → Prop} {w : World} {H : Nat} (p : Nat × Nat) (w0 : World) (s y : Operand) (st : TypeId)
    (hgd : o.guard = none) (ho : o.op = .call { callee := .builtin .append, args := #[s, y], argTypes := #[st, st] })
    (ht : P.underlying st = some (.slice 40)) (hi : (P.info? 40).map (fun i => (i.zero, i.size, i.bytes)) = some (some (.agg #[.int .i64 0, .int .i64 0]), 2, 16))
    (B : Nat) (v : Value) (l : List (Nat × Nat)) (hs : a.eval s = v) (hown : OP B w0 v l) (hy : a.eval y = .slice (some ⟨H, 0, none⟩) 1 1)
    (hlen : l.length ≤ 1000000000000) (hB : B ≤ w0.heap.size)
    (h : ∀ g c w', OP B w' (.slice (some ⟨g, 0, none⟩) (l.length + 1) c) (l ++ [p]) → w0.grownBy w' v.ownBlock → (v.ownBlock = some g ∨ w0.heap.size ≤ g) → g < w'.heap.size → wpList P ops Q rest (a.put o.dst (.slice (some ⟨g, 0, none⟩) (l.length + 1) c)) w')
    (h0 : Below w0.heap.size w0 w := by first | exact (Below.refl _ _).alloc (Nat.le_refl _) _ | exact ((Below.refl _ _).alloc (Nat.le_refl _) _).drew | exact ((Below.refl _ _).drew).alloc (Nat.le_refl _) _)
    (hc0 : w.cell? ⟨H, 0, none⟩ = some (.int .i64 (p.1 : Int)) := by first | exact pl0 _ _ _ _ | go_simp)
    (hc1 : w.cell? ⟨H, 1, none⟩ = some (.int .i64 (p.2 : Int)) := by first | exact pl1 _ _ _ _ | go_simp) :
    wpList P ops Q (o :: rest) a w := by
  obtain ⟨i0, hi1, hz0, hz1, hz2⟩ := info_parts hi
  have hsz := h0.size
  refine Go.wpList_append_lies (P := P) (w := w) hgd s y st ho B 40 i0 (.agg #[.int .i64 0, .int .i64 0]) 2 16 ht hi1 hz0 hz1 hz2 rfl (by decide) v l.length (flP l) hs (hown.below h0) ⟨H, 0, none⟩ 1 1 [.int .i64 (p.1 : Int), .int .i64 (p.2 : Int)] hy rfl ?_ ?_ (by decide) ?_ ?_ (by omega) _ rfl ?_
  · intro j u hj
    match j, hj with
    | 0, hj => simp at hj; subst hj; simpa [Addr.add] using hc0
    | 1, hj => simp at hj; subst hj; simpa [Addr.add] using hc1
  · intro u hu
    simp at hu
    rcases hu with rfl | rfl <;> rfl
  · unfold maxLen; omega
  · omega
  · intro g cap w' h1 h2 h3 h4
    refine h g cap w' ?_ ?_ ?_ h4
    · unfold OP; rw [flP_app, List.length_append]; exact h1
    · exact ⟨h2.os.trans h0.os, h2.tape.trans h0.tape, h2.output.trans h0.output, Nat.le_trans hsz h2.size, fun k hk hne => (h2.block k (by omega) hne).trans (h0.block k hk)⟩
    · rcases h3 with h3 | h3
      · exact .inl h3
      · right; omega
/-- At a step of a region that draws its order. -/
theorem step_appp {P : Program} {ops : Array Oper} {o : Oper} {a : Act} {K : Act → World → Prop} {R : Prop} {Q : Exit → Act → World → Prop} {w : World} {H : Nat} (p : Nat × Nat) (w0 : World) (s y : Operand) (st : TypeId)
    (hgd : o.guard = none) (ho : o.op = .call { callee := .builtin .append, args := #[s, y], argTypes := #[st, st] })
    (ht : P.underlying st = some (.slice 40)) (hi : (P.info? 40).map (fun i => (i.zero, i.size, i.bytes)) = some (some (.agg #[.int .i64 0, .int .i64 0]), 2, 16))
    (B : Nat) (v : Value) (l : List (Nat × Nat)) (hs : a.eval s = v) (hown : OP B w0 v l) (hy : a.eval y = .slice (some ⟨H, 0, none⟩) 1 1)
    (hlen : l.length ≤ 1000000000000) (hB : B ≤ w0.heap.size)
    (h : ∀ g c w', OP B w' (.slice (some ⟨g, 0, none⟩) (l.length + 1) c) (l ++ [p]) → w0.grownBy w' v.ownBlock → (v.ownBlock = some g ∨ w0.heap.size ≤ g) → g < w'.heap.size → K (a.put o.dst (.slice (some ⟨g, 0, none⟩) (l.length + 1) c)) w')
    (h0 : Below w0.heap.size w0 w := by first | exact (Below.refl _ _).alloc (Nat.le_refl _) _ | exact ((Below.refl _ _).alloc (Nat.le_refl _) _).drew | exact ((Below.refl _ _).drew).alloc (Nat.le_refl _) _)
    (hc0 : w.cell? ⟨H, 0, none⟩ = some (.int .i64 (p.1 : Int)) := by first | exact pl0 _ _ _ _ | go_simp)
    (hc1 : w.cell? ⟨H, 1, none⟩ = some (.int .i64 (p.2 : Int)) := by first | exact pl1 _ _ _ _ | go_simp) :
    if Region.wanted o (yielded ops a.tmps) = true then Oper.wp P o a w K Q else R := by
  obtain ⟨i0, hi1, hz0, hz1, hz2⟩ := info_parts hi
  have hsz := h0.size
  refine step_append_lies (P := P) (w := w) hgd s y st ho B 40 i0 (.agg #[.int .i64 0, .int .i64 0]) 2 16 ht hi1 hz0 hz1 hz2 rfl (by decide) v l.length (flP l) hs (hown.below h0) ⟨H, 0, none⟩ 1 1 [.int .i64 (p.1 : Int), .int .i64 (p.2 : Int)] hy rfl ?_ ?_ (by decide) ?_ ?_ (by omega) _ rfl ?_
  · intro j u hj
    match j, hj with
    | 0, hj => simp at hj; subst hj; simpa [Addr.add] using hc0
    | 1, hj => simp at hj; subst hj; simpa [Addr.add] using hc1
  · intro u hu
    simp at hu
    rcases hu with rfl | rfl <;> rfl
  · unfold maxLen; omega
  · omega
  · intro g cap w' h1 h2 h3 h4
    refine h g cap w' ?_ ?_ ?_ h4
    · unfold OP; rw [flP_app, List.length_append]; exact h1
    · exact ⟨h2.os.trans h0.os, h2.tape.trans h0.tape, h2.output.trans h0.output, Nat.le_trans hsz h2.size, fun k hk hne => (h2.block k (by omega) hne).trans (h0.block k hk)⟩
    · rcases h3 with h3 | h3
      · exact .inl h3
      · right; omega
end Go.Proofs.Ytlcndccjlbahpaa
