/-
  The keys of group's maps: arrays of seven numbers; a look-up that says whether the key is there.
-/
import Derived.Test.YtnbgnoimanpjnaaKmap
import Derived.Test.YtnbgnoimanpjnaaGrow
import Derived.DeepKeys4
namespace Go.Proofs.Ytnbgnoimanpjnaa
set_option linter.unusedVariables false
open Go.RowKit Go.Maps

theorem laidOutG : laidOutB Try.prog = true := by kernel_rfl
theorem moveLaw : Keyed Try.prog 68 := Keyed.of_law (deep_law_laid laidOutG (m := 2) (by omega) (of_decide_eq_true (by kernel_rfl)) (by kernel_rfl) (by rw [Try.underlying68]))
/-- A key: a list of numbers. -/
def kF (l : List Int) : Value := .agg (l.map (Value.int .i64)).toArray
theorem kF_inj (x y : List Int) (h : kF x = kF y) : x = y := by
  simp only [kF, Value.agg.injEq] at h
  have h2 := congrArg Array.toList h
  exact (List.map_inj_right (fun a b h => by cases h; rfl)).1 h2
def mvI (x : Nat → Nat) : List Int := (List.range 7).map fun i => ((x i : Nat) : Int)
theorem mvV_kF (x : Nat → Nat) : mvV x = kF (mvI x) := by
  unfold mvV kF mvI mvC
  rw [List.map_map]
  rfl
theorem mvI_inj {n : Nat} (hn : n ≤ 7) {x y : Nat → Nat} (P : Mv n x) (Q : Mv n y) (h : mvI x = mvI y) : x = y := by
  funext i
  by_cases hi : i < 7
  · have h1 := congrArg (fun l => l[i]?) h
    simp only [mvI, List.getElem?_map, List.getElem?_range hi, Option.map_some, Option.some.injEq] at h1
    omega
  · rw [P.st i (by omega), Q.st i (by omega)]
theorem move_kt : Try.prog.keyType 68 = true := by kernel_rfl
theorem move_cells : Try.prog.cellsOf 68 = 7 := by kernel_rfl
theorem int_cellsG : Try.prog.cellsOf 3 = 1 := by kernel_rfl
theorem types_succG : ∃ m, Try.prog.types.size = m + 1 := ⟨Try.prog.types.size - 1, by
  have : 0 < Try.prog.types.size := of_decide_eq_true (by kernel_rfl)
  omega⟩
theorem moveKey {x : Nat → Nat} (h : ∀ i, i < 7 → x i < 7) : ∃ kl, keyOf Try.prog 68 (mvV x) = some kl := by
  have wf : ∀ i, i < 7 → (Lit.int .i64 ((x i : Nat) : Int)).wf = true := fun i hi => WalkArith.wf_i64 (by have := h i hi; omega)
  have w0 := wf 0 (by omega)
  have w1 := wf 1 (by omega)
  have w2 := wf 2 (by omega)
  have w3 := wf 3 (by omega)
  have w4 := wf 4 (by omega)
  have w5 := wf 5 (by omega)
  have w6 := wf 6 (by omega)
  obtain ⟨m, hm⟩ := types_succG
  have e : mvV x = .agg #[.int .i64 (x 0 : Nat), .int .i64 (x 1 : Nat), .int .i64 (x 2 : Nat), .int .i64 (x 3 : Nat), .int .i64 (x 4 : Nat), .int .i64 (x 5 : Nat), .int .i64 (x 6 : Nat)] := rfl
  rw [e]
  suffices h : keyOf Try.prog 68 (.agg #[.int .i64 (x 0 : Nat), .int .i64 (x 1 : Nat), .int .i64 (x 2 : Nat), .int .i64 (x 3 : Nat), .int .i64 (x 4 : Nat), .int .i64 (x 5 : Nat), .int .i64 (x 6 : Nat)]) = some (.string (keyBytes [.int .i64 (x 0 : Nat), .int .i64 (x 1 : Nat), .int .i64 (x 2 : Nat), .int .i64 (x 3 : Nat), .int .i64 (x 4 : Nat), .int .i64 (x 5 : Nat), .int .i64 (x 6 : Nat)])) from ⟨_, h⟩
  unfold keyOf
  simp only [Try.underlying68]
  rw [if_pos (by simp [move_kt, Value.formed, Try.underlying68, move_cells]), hm]
  unfold Program.keyLits
  simp only [Try.underlying68, Value.cells]
  rw [if_pos (by rw [move_cells]; rfl)]
  simp [int_cellsG, Program.keyLits, Try.underlying3, w0, w1, w2, w3, w4, w5, w6, show List.range 7 = [0, 1, 2, 3, 4, 5, 6] from rfl]
/-- 'v, ok := m[k]' at the operation: is the key there? -/
theorem wpList_kmok {κ : Type} {f : κ → Value} {w : World} {b n : Nat} {S : List κ} {ops : Array Oper} {rest : List Oper} {o : Oper} {a : Act} {Q : Exit → Act → World → Prop}
    (hg : o.guard = none) (m x : Operand) (t : TypeId) (hop : o.op = Op.lookup t m x true) (K : TypeId) (L : Keyed Try.prog K) (ht : Try.prog.underlying t = some (.map K 3))
    (hm : a.eval m = .map (some b)) (hown : KM K f w b n S) (y : κ) (hx : a.eval x = f y) (hkey : ∃ kl, keyOf Try.prog K (f y) = some kl)
    (hK : ∀ (c : Int) (z : Bool), (z = true ↔ y ∈ S) → wpList Try.prog ops Q rest (a.put o.dst (.tuple #[.int .i64 c, .bool z])) w) : wpList Try.prog ops Q (o :: rest) a w := by
  obtain ⟨D, h1, h2, h3, h4⟩ := hown
  obtain ⟨kl, hkl⟩ := hkey
  exact wpList_lookup_own_ok_int w hg m x t hop K 3 .i64 L ht Try.underlying3 (Try.zeroValue3 w) b n D hm h1 _ kl hx hkl (fun c _ _ => hK c _ (h4 y kl hkl))
/-- An entry of a map's literal. -/
theorem wpList_kmins {κ : Type} [DecidableEq κ] {f : κ → Value} {w : World} {b n : Nat} {S : List κ} {ops : Array Oper} {rest : List Oper} {o : Oper} {a : Act} {Q : Exit → Act → World → Prop}
    (hg : o.guard = none) (m x v : Operand) (t : TypeId) (hop : o.op = Op.insert t m x v) (K : TypeId) (L : Keyed Try.prog K) (hf : ∀ x y, f x = f y → x = y) (ht : Try.prog.underlying t = some (.map K 3))
    (hm : a.eval m = .map (some b)) (hown : KM K f w b n S) (hn : n < maxLen) (y : κ) (c : Int) (hx : a.eval x = f y) (hv : a.eval v = .int .i64 c) (hkey : ∃ kl, keyOf Try.prog K (f y) = some kl) (hc : (Lit.int .i64 c).wf = true)
    (hK : ∀ w', KM K f w' b (n + 1) (ins y S) → w.grownBy w' (some b) → wpList Try.prog ops Q rest (a.put o.dst undef) w') : wpList Try.prog ops Q (o :: rest) a w := by
  obtain ⟨D, h1, h2, h3, h4⟩ := hown
  obtain ⟨kl, hkl⟩ := hkey
  refine wpList_plain hg fun K' hK' => ?_
  obtain ⟨w', hrun, r1, r2⟩ := h1.update L ht hn hkl (plainElem_int Try.underlying3 hc)
  unfold Oper.wp
  simp [execOp, hop, hm, hx, hv, hrun, Result.andThen]
  exact hK' _ _ (hK w' (KM.put L hf h1 h2 h3 h4 hkl r1) r2)
end Go.Proofs.Ytnbgnoimanpjnaa
