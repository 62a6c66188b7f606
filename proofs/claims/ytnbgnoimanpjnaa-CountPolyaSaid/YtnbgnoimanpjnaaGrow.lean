/-
  Slices of arrays of seven ([]move) of the call's own. Conditions as each law states.
-/
import Derived.Test.YtnbgnoimanpjnaaGmoveof
namespace Go.Proofs.Ytnbgnoimanpjnaa
set_option linter.unusedVariables false
open Go.RowKit

def flM : List (Nat → Nat) → List Value
  | [] => []
  | x :: l => mvC x ++ flM l
theorem flM_len : ∀ l, (flM l).length = l.length * 7
  | [] => rfl
  | x :: l => by simp only [flM, List.length_append, List.length_cons, flM_len l, mvC_len]; omega
theorem flM_app : ∀ (l m : List (Nat → Nat)), flM (l ++ m) = flM l ++ flM m
  | [], m => rfl
  | x :: l, m => by simp [flM, flM_app l m]
theorem flM_at : ∀ (l : List (Nat → Nat)) (i j : Nat), i < l.length → j < 7 → (flM l)[i * 7 + j]? = (mvC (l.getD i id))[j]?
  | x :: l, 0, j, _, hj => by
    simp only [flM]
    rw [List.getElem?_append_left (by rw [mvC_len]; omega)]
    simp
  | x :: l, i + 1, j, h, hj => by
    simp only [flM]
    rw [List.getElem?_append_right (by rw [mvC_len]; omega), mvC_len, show (i + 1) * 7 + j - 7 = i * 7 + j by omega, flM_at l i j (by simpa using h) hj]
    simp [List.getD_eq_getElem?_getD]
/-- A slice of moves that the call made. -/
def OM (B : Nat) (w : World) (v : Value) (l : List (Nat → Nat)) : Prop := w.ownsRow B 68 7 v l.length (flM l)
section
variable {B : Nat} {w w' : World} {v : Value} {l : List (Nat → Nat)}
theorem OM.nil (B : Nat) (w : World) : OM B w (.slice none 0 0) [] := World.ownsRow_nil _ _ _ _
theorem OM.lt (h : OM B w v l) : ∀ k, v.ownBlock = some k → B ≤ k ∧ k < w.heap.size := World.ownsRow.lt h
theorem OM.kept {row : Option Nat} (h : OM B w v l) (hg : w.grownBy w' row) (hne : v.ownBlock = none ∨ v.ownBlock ≠ row) : OM B w' v l := World.ownsRow.kept h hg hne
theorem OM.drew (h : OM B w v l) : OM B w.drew v l := h
theorem OM.below (h : OM B w v l) (hb : Below w.heap.size w w') : OM B w' v l := by
  obtain ⟨h1, h2⟩ := h
  refine ⟨h1, h2.imp id ?_⟩
  rintro ⟨g, cap, cur, e, hg, hh, r⟩
  exact ⟨g, cap, cur, e, hg, by rw [hb.block g (Array.getElem?_eq_some_iff.1 hh).1]; exact hh, r⟩
theorem OM.len (h : OM B w v l) : ∃ a c, v = .slice a l.length c := by
  rcases h.2 with ⟨rfl, h0⟩ | ⟨g, cap, cur, rfl, _⟩
  · exact ⟨none, 0, by rw [h0]⟩
  · exact ⟨_, _, rfl⟩
theorem OM.form (h : OM B w v l) (hn : 0 < l.length) : ∃ g c, v = .slice (some ⟨g, 0, none⟩) l.length c ∧ B ≤ g ∧ g < w.heap.size := World.ownsRow.form h hn
theorem OM.range {g n c : Nat} (h : OM B w (.slice (some ⟨g, 0, none⟩) n c) l) {i : Nat} (hi : i < l.length) : w.rangeAt g (i * 7) (mvC (l.getD i id)) := by
  intro j v hv
  have hj : j < 7 := by have := (List.getElem?_eq_some_iff.1 hv).1; rwa [mvC_len] at this
  have hc := World.ownsRow.cells h (g := g) rfl
  rw [← flM_at l i j hi hj] at hv
  have := hc _ _ hv
  rwa [Addr.add_mid, Nat.zero_add] at this
end
theorem Try.info68 : (Try.prog.info? 68).map (fun i => (i.zero, i.size, i.bytes)) = some (some (.agg #[.int .i64 0, .int .i64 0, .int .i64 0, .int .i64 0, .int .i64 0, .int .i64 0, .int .i64 0]), 7, 56) := by kernel_rfl
/-- append of one move to a slice of the call's own. -/
theorem wpList_appm {P : Program} {ops : Array Oper} {rest : List Oper} {o : Oper} {a : Act} {Q : Exit → Act → World → Prop} {w : World} {H : Nat} (x : Nat → Nat) (w0 : World) (s y : Operand) (st : TypeId)
    (hgd : o.guard = none) (ho : o.op = .call { callee := .builtin .append, args := #[s, y], argTypes := #[st, st] })
    (ht : P.underlying st = some (.slice 68)) (hi : (P.info? 68).map (fun i => (i.zero, i.size, i.bytes)) = some (some (.agg #[.int .i64 0, .int .i64 0, .int .i64 0, .int .i64 0, .int .i64 0, .int .i64 0, .int .i64 0]), 7, 56))
    (B : Nat) (v : Value) (l : List (Nat → Nat)) (hs : a.eval s = v) (hown : OM B w0 v l) (hy : a.eval y = .slice (some ⟨H, 0, none⟩) 1 1)
    (hlen : l.length ≤ 1000000000) (hB : B ≤ w0.heap.size)
    (hr : w.rangeAt H 0 (mvC x))
    (h0 : Below w0.heap.size w0 w)
    (h : ∀ g c w', OM B w' (.slice (some ⟨g, 0, none⟩) (l.length + 1) c) (l ++ [x]) → w0.grownBy w' v.ownBlock → (v.ownBlock = some g ∨ w0.heap.size ≤ g) → g < w'.heap.size → wpList P ops Q rest (a.put o.dst (.slice (some ⟨g, 0, none⟩) (l.length + 1) c)) w') :
    wpList P ops Q (o :: rest) a w := by
  obtain ⟨i0, hi1, hz0, hz1, hz2⟩ := info_parts hi
  have hsz := h0.size
  refine Go.wpList_append_lies (P := P) (w := w) hgd s y st ho B 68 i0 (.agg #[.int .i64 0, .int .i64 0, .int .i64 0, .int .i64 0, .int .i64 0, .int .i64 0, .int .i64 0]) 7 56 ht hi1 hz0 hz1 hz2 rfl (by decide) v l.length (flM l) hs (hown.below h0) ⟨H, 0, none⟩ 1 1 (mvC x) hy (by rw [mvC_len]) ?_ ?_ (by decide) ?_ ?_ (by omega) _ rfl ?_
  · intro j u hj
    have := hr j u hj
    rw [Addr.add_mid]
    exact this
  · intro u hu
    obtain ⟨i, _, rfl⟩ := List.mem_map.1 hu
    rfl
  · unfold maxLen; omega
  · omega
  · intro g cap w' h1 h2 h3 h4
    refine h g cap w' ?_ ?_ ?_ h4
    · unfold OM; rw [flM_app, List.length_append]; simpa [flM] using h1
    · exact ⟨h2.os.trans h0.os, h2.tape.trans h0.tape, h2.output.trans h0.output, Nat.le_trans hsz h2.size, fun k hk hne => (h2.block k (by omega) hne).trans (h0.block k hk)⟩
    · rcases h3 with h3 | h3
      · exact .inl h3
      · right; omega
end Go.Proofs.Ytnbgnoimanpjnaa
