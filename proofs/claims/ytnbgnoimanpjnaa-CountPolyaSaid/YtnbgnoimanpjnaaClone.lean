/-
  The walk over slices.Clone at []int. Condition: the slice can be read, and is not nil.
-/
import Derived.Test.YtnbgnoimanpjnaaBase
import Derived.Lib.SliceRun
namespace Go.Proofs.Ytnbgnoimanpjnaa
set_option linter.unusedVariables false
open Go.RowKit

theorem clone_ints (b off n c : Nat) (l : List Int) (w : World) (hl : Sl w (.slice (some ⟨b, off, none⟩) n c) l) (hlen : l.length ≤ 1000000000) :
    Calls Try.prog 52 #[.slice (some ⟨b, off, none⟩) n c] w fun e w' => (∃ u, e = .returned u ∧ OI w.heap.size w' u l) ∧ Below w.heap.size w w' := by
  have hq := fun W => Lib.run_eql_slice_nil (P := Try.prog) W 23 3 (some ⟨b, off, none⟩) n c 0 0 Try.underlying23
  go_enter Try.func52, Try.ntmps52
  go_wp2_with (at_builtin; refine wpList_apps (w := w.alloc (.cells #[] 3)) _ _ 23 3 (.int .i64 0) 8 rfl rfl Try.underlying23 Try.info3 rfl (by decide) w.heap.size _ _ _ _ rfl (OI.lit0 w.heap.size w (Nat.le_refl _)) rfl (hl.below ((Below.refl _ _).alloc (Nat.le_refl _) _)) (ints_one _) (by simp; omega) (by simp) ?_; intro v' w1 ho1 hg1 hg2)
  go_ret
  exact ⟨⟨_, rfl, OI.ofApp (l := []) ho1⟩, ((Below.refl _ _).alloc (Nat.le_refl _) _).grown hg1 (by simp) (fun k e => by cases e; exact Nat.le_refl _)⟩
end Go.Proofs.Ytnbgnoimanpjnaa
