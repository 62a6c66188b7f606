/-
  The walk over field.isPrime. Condition: the primes are laid.
-/
import Derived.Test.YthdlhfgeminoiaaDoorArr
namespace Go.Proofs.YthdlhfgeminoiaaDoor
set_option linter.unusedVariables false
open Go.RowKit

def prL : List Int := [2, 3, 5, 7, 11, 13, 17, 19, 23, 29, 31, 37, 41, 43, 47, 53, 59, 61]
def prV : List Value := prL.map (Value.int .i64)
/-- The package's list of primes lies where it was laid. -/
def Prs (w : World) : Prop := 0 < w.heap.size ∧ w.rangeAt 0 0 prV
theorem Prs.below {w w' : World} (h : Prs w) (hb : Below w.heap.size w w') : Prs w' :=
  ⟨Nat.lt_of_lt_of_le h.1 hb.size, fun j v hv => (hb.cell (p := ⟨0, 0 + j, none⟩) h.1).trans (h.2 j v hv)⟩
theorem prV_get {i : Nat} (hi : i < 18) : prV[i]? = some (.int .i64 (prL.getD i 0)) := by
  have hl : prL.length = 18 := rfl
  simp [prV, List.getD_eq_getElem?_getD, hl, hi]
theorem pr_not {p : Int} (h : ∀ i, i < 18 → prL.getD i 0 ≠ p) : decide (p ∈ prL) = false := by
  rw [decide_eq_false_iff_not]
  intro hx
  obtain ⟨i, hi, e⟩ := List.mem_iff_getElem.1 hx
  exact h i hi (by rw [List.getD_eq_getElem?_getD, List.getElem?_eq_getElem hi]; exact e)
theorem pr_yes {p : Int} {i : Nat} (hi : i < 18) (h : prL.getD i 0 = p) : decide (p ∈ prL) = true := by
  have hl : prL.length = 18 := rfl
  rw [decide_eq_true_iff, ← h, List.getD_eq_getElem?_getD, List.getElem?_eq_getElem (by omega)]
  exact List.getElem_mem _

set_option maxHeartbeats 1000000 in
set_option maxRecDepth 100000 in
theorem isPrime_any (p : Int) (w : World) (hp : Prs w) :
    Calls Tryd.prog 50 #[.int .i64 p] w fun e w' => e = .returned (.bool (decide (p ∈ prL))) ∧ w = w' := by
  have r2 := hp.2
  have i1 : (Tryd.prog.info? 69).map (·.size) = some prV.length := by kernel_rfl
  have HIX := hid (fun (t : Nat) (h : t < 18) => run_index_cell (P := Tryd.prog) 69 3 18 t prV (.int .i64 (prL.getD t 0)) w Tryd.underlying69 Tryd.isAgg3 Tryd.sizeOf3 h (prV_get h))
  have HNO := hid (fun h => pr_not (p := p) h)
  have HYE := hid (fun i hi h => pr_yes (p := p) (i := i) hi h)
  generalize decide (p ∈ prL) = D at *
  generalize prV = V at *
  clear hp
  go_enter Tryd.func50, Tryd.ntmps50
  go_wp2_with (refine wpList_load_mid rfl 69 _ rfl 0 0 rfl V _ r2 Tryd.underlying69 rfl i1 ?_)
  go_loop [4, 6] (fun _ i => ∃ k : Nat, k ≤ 18 ∧ i = .int .i64 k ∧ Hid (∀ j, j < k → prL.getD j 0 ≠ p)) (fun _ i => 18 - (intOf i).toNat)
  case atStart => exact ⟨0, Nat.zero_le _, rfl, hid (fun j hj => by omega)⟩
  case round =>
    obtain ⟨k, hk, rfl, hH⟩ := hrel
    by_cases hlt : k < 18
    · have hget := HIX.out k hlt
      have hki : (k : Int) < 18 := by omega
      have HNX : Hid (prL.getD k 0 ≠ p → ∀ j, j < k + 1 → prL.getD j 0 ≠ p) := hid (fun h j hj => by
        by_cases e : j = k
        · rw [e]; exact h
        · exact hH.out j (by omega))
      have HYK := hid (HYE.out k hlt)
      clear r2 i1 hH
      generalize prL.getD k 0 = y at *
      by_cases he : y = p
      · subst he
        have HE := hid (HYK.out rfl)
        have hq : (y == y) = true := by simp
        go_wp2
        go_ret
        exact ⟨by rw [HE.out]; rfl, rfl⟩
      · have hq : (p == y) = false := by simpa using fun h => he h.symm
        have HE := hid (HNX.out he)
        clear he HNX
        go_wp2
        go_round
        case rel => exact ⟨k + 1, by omega, by go_num, HE⟩
        case measure => simp [intOf] <;> omega
    · obtain rfl : k = 18 := by omega
      have HE := hid (HNO.out hH.out)
      clear hH r2 i1
      go_wp2
      go_ret
      exact ⟨by rw [HE.out]; rfl, rfl⟩
end Go.Proofs.YthdlhfgeminoiaaDoor
