/-
  The walks over perm.inverse, Inverse and parterreref1.Undo, Still. Conditions: the slice can be read; a permutation where it is said.
-/
import Derived.Test.YtgfdddknajeknaaDoorDPcomp
import Derived.Test.YtgfdddknajeknaaDoorDPlen
namespace Go.Proofs.YtgfdddknajeknaaDoor
set_option linter.unusedVariables false
open Go.RowKit

/-- What undoes it, so far. -/
def undF (f : Nat → Nat) (N : Nat) : Nat → List Int
  | 0 => List.replicate N 0
  | k + 1 => (undF f N k).set (f k) (k : Int)
theorem und_len (f : Nat → Nat) (N : Nat) : ∀ k, (undF f N k).length = N
  | 0 => by simp [undF]
  | k + 1 => by simp [undF, und_len f N k]
theorem und_get {f : Nat → Nat} {N : Nat} (P : Pm N f) : ∀ k, k ≤ N → ∀ i, i < k → (undF f N k)[f i]?.getD 0 = (i : Int)
  | 0, _, i, h => by omega
  | k + 1, hk, i, h => by
    simp only [undF]
    by_cases e : i = k
    · subst e
      rw [List.getElem?_set_self (by rw [und_len]; exact P.lt i (by omega))]
      rfl
    · rw [List.getElem?_set_ne (fun e2 => e (P.inj k i (by omega) (by omega) e2).symm)]
      exact und_get P k (by omega) i (by omega)

/-- 0, 1, .. -/
def stillL (n : Nat) : List Int := (List.range n).map fun i : Nat => (i : Int)
theorem still_len (n : Nat) : (stillL n).length = n := by simp [stillL]
theorem still_succ (n : Nat) : stillL (n + 1) = stillL n ++ [(n : Int)] := by simp [stillL, List.range_succ]
theorem still_ok (n : Nat) (w : World) (hn : n ≤ 1000) :
    Calls Tryd.prog 20 #[.int .i64 n] w fun e w' => (∃ u, e = .returned u ∧ OI w.heap.size w' u (stillL n)) ∧ Below w.heap.size w w' := by
  have HS := hid still_succ
  have HL := hid still_len
  have H0 : Hid (stillL 0 = []) := hid rfl
  generalize stillL = D at *
  go_enter Tryd.func20, Tryd.ntmps20
  go_wp2
  go_loopw [3, 4] (fun o i wr => ∃ k : Nat, k ≤ n ∧ i = .int .i64 k ∧ OI w.heap.size wr o (D k) ∧ Below w.heap.size w wr) (fun _ i _ => n - (intOf i).toNat)
  case atStart => exact ⟨0, Nat.zero_le _, rfl, by rw [H0.out]; exact OI.nil _ _, Below.refl _ _⟩
  case round =>
    obtain ⟨k, hk, rfl, hown, hb⟩ := hrel
    by_cases hlt : k < n
    · have hB := hb.size
      have hl2 : (D k).length ≤ 1000000000000 := by rw [HL.out]; omega
      have HSK := hid (HS.out k)
      go_wp2_with (at_builtin; refine wpList_appi wr _ _ 22 rfl rfl Tryd.underlying22 Tryd.info3 w.heap.size _ _ rfl hown rfl hl2 hB ?_; intro g c w1 hown1 hg1 hg2 hg3)
      go_roundw
      case rel => exact ⟨k + 1, by omega, by go_num, hown1.cast (by rw [HSK.out]), hown.grown hb hg1 hB⟩
      case measure => simp [intOf] <;> omega
    · obtain rfl : n = k := by omega
      go_wp2
      go_ret
      exact ⟨⟨_, rfl, hown⟩, hb⟩

end Go.Proofs.YtgfdddknajeknaaDoor
