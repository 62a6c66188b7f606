/-
  The library's texts, read at a world that holds the library's own variables: Cut, CutPrefix, Split, Atoi. Condition: those variables lie.
-/
import Derived.Test.YtgfdddknajeknaaDoorSlCut
import Derived.Test.YtgfdddknajeknaaDoorSlAtoi
import Derived.Test.YtgfdddknajeknaaDoorSlJoin
import Derived.Test.YtgfdddknajeknaaDoorTpar
import Derived.Test.YtgfdddknajeknaaDoorOl
import Derived.Lib.SmallJoins
import Derived.Lib.AtoiErrMem
namespace Go.Proofs.YtgfdddknajeknaaDoor
set_option linter.unusedVariables false
open Go.RowKit

/-- The library's own variables. -/
def ErrV (v : Value) : Prop := v = .nilIface ∨ ∃ te pe, v = .iface te pe
structure LibW (w : World) : Prop where
  max : ∃ m, w.cell? ⟨1, 0, none⟩ = some (.int .i64 m)
  syn : ∃ v, w.cell? ⟨2, 0, none⟩ = some v ∧ ErrV v
  rng : ∃ v, w.cell? ⟨3, 0, none⟩ = some v ∧ ErrV v
theorem cell_lasts {w w' : World} {p : Addr} {v : Value} (hb : Below w.heap.size w w') (h : w.cell? p = some v) : w'.cell? p = some v := (hb.cell (World.block_lt_of_cell? w _ h)).trans h
theorem LibW.below {w w' : World} (h : LibW w) (hb : Below w.heap.size w w') : LibW w' := by
  obtain ⟨⟨m, h1⟩, ⟨v, h2, h3⟩, ⟨u, h4, h5⟩⟩ := h
  exact ⟨⟨m, cell_lasts hb h1⟩, ⟨v, cell_lasts hb h2, h3⟩, ⟨u, cell_lasts hb h4, h5⟩⟩

theorem cut_at_w (T : List UInt8) (w : World) (hs : T.length ≤ 1000000000) (hL : LibW w) (c : UInt8) :
    Calls Tryd.prog 27 #[.string (str T), .string ⟨#[c]⟩] w fun e w' => e = .returned (.tuple #[.string (str (Lib.cut T [c]).1), .string (str (Lib.cut T [c]).2.1), .bool (Lib.cut T [c]).2.2]) ∧ Below w.heap.size w w' := by
  obtain ⟨m, hm⟩ := hL.max
  refine (cut_laid (str T) ⟨#[c]⟩ m w (by rw [str_size]; omega) hm).mono ?_
  rintro e w' ⟨rfl, n, rfl⟩
  exact ⟨rfl, below_drewN (Below.refl _ _) n⟩
theorem cutpre_w (T : List UInt8) (w : World) (c : UInt8) :
    Calls Tryd.prog 28 #[.string (str T), .string ⟨#[c]⟩] w fun e w' => e = .returned (.tuple #[.string (str (Lib.trimPrefix T [c])), .bool (Lib.hasPrefix T [c])]) ∧ w' = w := cutpre_laid (str T) ⟨#[c]⟩ w
/-- The pieces between c. -/
def spl (c : UInt8) (T : List UInt8) : List (List UInt8) := Lib.splitK [c] 0 (Lib.count T [c]) T
theorem spl_B (c : UInt8) (T : List UInt8) : Lib.splitB ⟨#[c]⟩ 0 (Lib.countB (str T) ⟨#[c]⟩) (str T) = (spl c T).map str := by
  refine map_str ?_
  rw [Lib.splitB_data]
  rfl
theorem spl_len (c : UInt8) (T : List UInt8) : (spl c T).length = Lib.countB (str T) ⟨#[c]⟩ + 1 := by
  have h1 := Lib.splitB_all ⟨#[c]⟩ (Nat.le_refl 1) 0 _ (str T) rfl
  rw [spl_B, List.length_map] at h1
  exact h1
theorem spl_le (c : UInt8) (T : List UInt8) : (spl c T).length ≤ T.length + 1 := by
  rw [spl_len]
  have h := Lib.countB_le ⟨#[c]⟩ (Nat.le_refl 1) _ (str T) (Nat.le_refl _)
  rw [str_size] at h
  omega
theorem spl_piece (c : UInt8) (T : List UInt8) : ∀ x ∈ spl c T, x.length ≤ T.length := fun x hx => by
  have h := piece_le ⟨#[c]⟩ (Lib.countB (str T) ⟨#[c]⟩) (str T) (str x) (by rw [spl_B]; exact List.mem_map_of_mem hx)
  rwa [str_size, str_size] at h
theorem split_w (T : List UInt8) (w : World) (hs : T.length ≤ 1000000000) (hL : LibW w) (c : UInt8) :
    Calls Tryd.prog 29 #[.string (str T), .string ⟨#[c]⟩] w fun e w' => ∃ g, e = .returned (.slice (some ⟨g, 0, none⟩) (spl c T).length (spl c T).length) ∧ Ow 9 w.heap.size w' (.slice (some ⟨g, 0, none⟩) (spl c T).length (spl c T).length) ((spl c T).map fun x => .string (str x)) ∧ Below w.heap.size w w' := by
  obtain ⟨m, hm⟩ := hL.max
  refine (split_laid (str T) ⟨#[c]⟩ m w (by rw [str_size]; omega) hm (Nat.le_refl 1)).mono ?_
  rintro e w' ⟨rfl, rfl⟩
  rw [spl_B, ← spl_len, List.map_map]
  refine ⟨w.heap.size, rfl, ?_, (Below.refl _ _).alloc (Nat.le_refl _) _⟩
  exact Ow.lit 9 w.heap.size w _ _ (Nat.le_refl _) (by simp) (by have := spl_le c T; omega)
theorem atoi_w (T : List UInt8) (w : World) (hs : T.length ≤ 1000000000) (hL : LibW w) :
    Calls Tryd.prog 30 #[.string (str T)] w fun e w' => ((∃ v, Lib.atoiAll T = .ok v ∧ e = .returned (.tuple #[.int .i64 v, .nilIface])) ∨ ((∀ v, Lib.atoiAll T ≠ .ok v) ∧ ∃ v q, e = .returned (.tuple #[.int .i64 v, .iface 88 q]))) ∧ Below w.heap.size w w' := by
  have hz := str_size T
  by_cases hok : ∃ v, Lib.atoiAll T = .ok v
  · obtain ⟨v, h⟩ := hok
    refine (atoi_ok_laid (str T) (by omega) v h w).mono ?_
    rintro e w' ⟨rfl, h2⟩
    refine ⟨.inl ⟨v, h, rfl⟩, ?_⟩
    rcases h2 with rfl | ⟨t, rfl⟩
    · exact Below.refl _ _
    · exact Lib.bytesWorld_below w _ _
  · obtain ⟨ev, hv, hev⟩ := hL.syn
    obtain ⟨eu, hu, heu⟩ := hL.rng
    have hno : ∀ v, Lib.atoiAll T ≠ .ok v := fun v h => hok ⟨v, h⟩
    refine (atoi_no_laid (str T) (by omega) hno ev eu w hv hev hu heu).mono ?_
    rintro e w' ⟨⟨z, q, rfl⟩, h2⟩
    exact ⟨.inr ⟨hno, z, q, rfl⟩, h2⟩
theorem cut_lt {T : List UInt8} (hT : T ≠ []) (c : UInt8) : (Lib.cut T [c]).1.length ≤ T.length ∧ ((Lib.cut T [c]).2.2 = true → (Lib.cut T [c]).2.1.length < T.length) := by
  have h0 : 0 < T.length := List.length_pos_iff.2 hT
  unfold Lib.cut
  split
  · refine ⟨?_, fun _ => ?_⟩
    · simp only [List.length_take]; omega
    · simp only [List.length_drop, List.length_singleton]; omega
  · exact ⟨Nat.le_refl _, fun h => by cases h⟩
end Go.Proofs.YtgfdddknajeknaaDoor
