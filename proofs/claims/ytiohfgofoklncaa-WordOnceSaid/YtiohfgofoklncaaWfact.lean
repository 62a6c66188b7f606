/-
  The walk over parterrelaw4.wordFact: it returns true. No condition.
-/
import Derived.Test.YtiohfgofoklncaaWprimes2
import Derived.Test.YtiohfgofoklncaaWbruof
import Derived.Test.YtiohfgofoklncaaWints
namespace Go.Proofs.Ytiohfgofoklncaa
open Go.RowKit

theorem greed_2_3 : greed 2 3 = [0, 0, 0, 1, 0, 1, 1, 1] := by decide +kernel
theorem primes_2_6 : (sumA 2 6 6).tdiv 6 = 9 := by decide +kernel

theorem wordFact_any (w : World) :
    Calls Try.prog 27 #[] w fun e w' => e = .returned (.bool true) ∧ Below w.heap.size w w' := by
  go_enter Try.func27, Try.ntmps27
  go_wp2_with fail
  refine (Bruijn_ok 2 3 w (by decide) (by decide) (by decide) (by decide) (by decide)).mono ?_
  rintro e w1 ⟨⟨u, rfl, hu⟩, hb1⟩
  rw [greed_2_3] at hu
  go_wp2_with fail
  have hB := hb1.size
  refine (ints_any _ _ [0, 0, 0, 1, 0, 1, 1, 1] [0, 0, 0, 1, 0, 1, 1, 1] _ ((hu.alloc _).sl (by decide)) (Sl.lit _ _ _ rfl)).mono ?_
  rintro e w2 ⟨rfl, ⟨k, rfl⟩⟩
  go_wp2_with fail
  refine (Primes_ok 2 6 _ (by decide) (by decide) (by decide) (by decide)).mono ?_
  rintro e w3 ⟨rfl, rfl⟩
  have hq : (((sumA 2 6 6).tdiv ((6 : Nat) : Int)) == 9) = true := by
    have := primes_2_6
    simp at this ⊢
    exact this
  go_wp2
  go_ret
  exact ⟨rfl, below_drewN (hb1.alloc hB _) _⟩
end Go.Proofs.Ytiohfgofoklncaa
