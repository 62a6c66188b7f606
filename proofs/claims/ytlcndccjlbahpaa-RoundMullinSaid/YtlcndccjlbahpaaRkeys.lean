/-
  The keys of round's maps: numbers, and pairs.
-/
import Derived.Test.YtlcndccjlbahpaaKmap
import Derived.DeepKeys4
namespace Go.Proofs.Ytlcndccjlbahpaa
set_option linter.unusedVariables false
open Go.RowKit Go.Maps

theorem laidOutR : laidOutB Try.prog = true := by kernel_rfl
theorem intLaw : Keyed Try.prog 3 := int_keyed Try.underlying3
theorem pairLaw : Keyed Try.prog 48 := Keyed.of_law (deep_law_laid laidOutR (m := 2) (by omega) (of_decide_eq_true (by kernel_rfl)) (by kernel_rfl) (by rw [Try.underlying48]))
def intF (x : Int) : Value := .int .i64 x
theorem intF_inj (x y : Int) (h : intF x = intF y) : x = y := by cases h; rfl
theorem intKey {x : Int} (h : (Lit.int .i64 x).wf = true) : ∃ kl, keyOf Try.prog 3 (intF x) = some kl := ⟨_, keyOf_int_mk Try.underlying3 h⟩
def pairF (p : Nat × Nat) : Value := .agg #[.int .i64 p.1, .int .i64 p.2]
theorem pairF_inj (x y : Nat × Nat) (h : pairF x = pairF y) : x = y := by
  obtain ⟨a, b⟩ := x
  obtain ⟨c, d⟩ := y
  simp [pairF] at h
  obtain ⟨h1, h2⟩ := h
  rw [show a = c by omega, show b = d by omega]
theorem pair_kt : Try.prog.keyType 48 = true := by kernel_rfl
theorem pair_cells : Try.prog.cellsOf 48 = 2 := by kernel_rfl
theorem int_cells : Try.prog.cellsOf 3 = 1 := by kernel_rfl
theorem types_succ : ∃ m, Try.prog.types.size = m + 1 := ⟨Try.prog.types.size - 1, by
  have : 0 < Try.prog.types.size := of_decide_eq_true (by kernel_rfl)
  omega⟩
theorem pairKey {p : Nat × Nat} (h1 : p.1 < 1000) (h2 : p.2 < 1000) : ∃ kl, keyOf Try.prog 48 (pairF p) = some kl := by
  have w1 : (Lit.int .i64 (p.1 : Int)).wf = true := WalkArith.wf_i64 (by omega)
  have w2 : (Lit.int .i64 (p.2 : Int)).wf = true := WalkArith.wf_i64 (by omega)
  obtain ⟨m, hm⟩ := types_succ
  suffices h : keyOf Try.prog 48 (pairF p) = some (.string (keyBytes [.int .i64 p.1, .int .i64 p.2])) from ⟨_, h⟩
  unfold keyOf pairF
  simp only [Try.underlying48]
  rw [if_pos (by simp [pair_kt, Value.formed, Try.underlying48, pair_cells]), hm]
  unfold Program.keyLits
  simp only [Try.underlying48, Value.cells]
  rw [if_pos (by rw [pair_cells]; exact ⟨rfl, by simp⟩)]
  simp [int_cells, Program.keyLits, Try.underlying3, w1, w2]
end Go.Proofs.Ytlcndccjlbahpaa
