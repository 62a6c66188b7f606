/-
  The walks over slices.Clone and word.Next. Condition: the slice can be read.
-/
import Derived.Test.YtiohfgofoklncaaWnext
import Derived.Test.YtiohfgofoklncaaWlyndon
import Derived.Test.YtiohfgofoklncaaWbruijn
import Derived.Test.YtiohfgofoklncaaNextL
import Derived.Lib.SliceRun
namespace Go.Proofs.Ytiohfgofoklncaa
open Go.RowKit

theorem clone_any (g n c : Nat) (l : List Int) (w : World) (hl : Sl w (.slice (some ⟨g, 0, none⟩) n c) l) (hlen : l.length ≤ 1000000000) :
    Calls Try.prog 40 #[.slice (some ⟨g, 0, none⟩) n c] w fun e w' => (∃ u, e = .returned u ∧ OI w.heap.size w' u l) ∧ Below w.heap.size w w' := by
  have hq := fun W => Lib.run_eql_slice_nil (P := Try.prog) W 23 3 (some ⟨g, 0, none⟩) n c 0 0 Try.underlying23
  go_enter Try.func40, Try.ntmps40
  go_wp2_with (at_builtin; refine wpList_apps (w := w.alloc (.cells #[] 3)) _ _ 23 3 (.int .i64 0) 8 rfl rfl Try.underlying23 Try.info3 rfl (by decide) w.heap.size _ _ _ _ rfl (OI.lit0 w.heap.size w (Nat.le_refl _)) rfl (hl.below ((Below.refl _ _).alloc (Nat.le_refl _) _)) (ints_one _) (by simp; omega) (by simp) ?_; intro v' w1 ho1 hg1 hg2)
  go_ret
  exact ⟨⟨_, rfl, OI.ofApp (l := []) ho1⟩, ((Below.refl _ _).alloc (Nat.le_refl _) _).grown hg1 (by simp) (fun k e => by cases e; exact Nat.le_refl _)⟩

theorem next1_any (k x : Int) (b : Nat) (w : World) (hc : w.cell? ⟨b, 0, none⟩ = some (.int .i64 k)) :
    Calls Try.prog 39 #[.int .i64 x, .pointer (some ⟨b, 0, none⟩)] w fun e w' => e = .returned (.bool (decide (k ≤ x))) ∧ w = w' := by
  go_enter Try.func39, Try.ntmps39
  go_wp2
  go_ret
  exact ⟨rfl, rfl⟩
theorem next1_tests (k : Int) (b : Nat) (w : World) (hc : w.cell? ⟨b, 0, none⟩ = some (.int .i64 k)) : Tests 39 #[.pointer (some ⟨b, 0, none⟩)] (fun x => decide (k ≤ x)) w where
  enter := run_callFunc_own Try.func39 (by kernel_rfl) (by kernel_rfl)
  calls := fun x _ => next1_any k x b w hc
end Go.Proofs.Ytiohfgofoklncaa
