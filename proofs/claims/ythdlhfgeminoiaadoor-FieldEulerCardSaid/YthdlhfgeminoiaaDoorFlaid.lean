/-
  From what the row lists: the primes lie where they were laid; a world that meets it. No condition.
-/
import Derived.Test.YthdlhfgeminoiaaDoorRows
import Derived.Test.YthdlhfgeminoiaaDoorFprime
import Derived.ProofKit
import Derived.LaidMore
import Derived.OpenShut
import Derived.Stop.Joined
namespace Go.Proofs.YthdlhfgeminoiaaDoor
set_option linter.unusedVariables false
open Go.ChangeShapes Go.WideShapes Go.ChangeAt Go.RowKit

theorem gPrimes : Tryd.prog.globalNamed "parterre/field.primes" = some 0 := by kernel_rfl
theorem tPrimes : (Tryd.prog.globals[0]?).map (·.type) = some 69 := by kernel_rfl
theorem door_met (os : Os) (args : Array Value) : laidMetH Tryd.prog [("parterre/field.primes", Rows.laid_parterre_field_primes)] ((World.doorLaid Tryd.prog 400 os).forCall (fun _ _ => 0) ⟨#[], args, []⟩).memory :=
  laidMetH_of_parts3 (fuel := 8) (laidMet_of_run' 8 (by kernel_rfl) (by kernel_rfl)) (by kernel_rfl) (by kernel_rfl)
theorem prs_of_laid {W : World} (h : laidMetH Tryd.prog [("parterre/field.primes", Rows.laid_parterre_field_primes)] W) : Prs W := by
  rw [MakeChecks.laidMetH_plain _ _ _ (by kernel_rfl)] at h
  obtain ⟨ps, ⟨g0, t0, cs0, f0, p0, q0, hg0, ht0, hv0, hd0, _, _⟩, _, _⟩ := h
  obtain rfl := Option.some.inj (gPrimes.symm.trans hg0)
  obtain rfl := Option.some.inj (tPrimes.symm.trans ht0)
  obtain ⟨xs, m1, rfl, hx1, hlen, hn3, hel⟩ := DataW.trod_array Tryd.underlying69 hd0
  have c3 : Tryd.prog.cellsOf 3 = 1 := by kernel_rfl
  have hD : (Rows.laid_parterre_field_primes : DataW Unit) = .agg (prL.map fun n => .lit (.int .i64 n)) := rfl
  rw [hD] at hx1
  simp only [Prod.mk.injEq, DataW.agg.injEq] at hx1
  obtain ⟨hx1, _⟩ := hx1
  have hcell : ∀ i, i < 18 → W.cell? ⟨0, i, none⟩ = some (.int .i64 (prL.getD i 0)) := by
    intro i hi
    have he := hel i hi
    rw [c3, Nat.mul_one, List.getElem?_eq_getElem (show i < xs.length by omega)] at he
    obtain ⟨n, e1, e2, _⟩ := DataW.trod_int Tryd.underlying3 he
    have hm := congrArg (fun l => l[i]?) hx1
    have hpl : prL.length = 18 := rfl
    simp only [List.getElem?_map] at hm
    rw [List.getElem?_eq_getElem (show i < xs.length by omega), List.getElem?_eq_getElem (show i < prL.length by omega), e2] at hm
    simp only [Option.map_some, Option.some.injEq, DataW.lit.injEq, Lit.int.injEq, true_and] at hm
    rw [World.var?_cell hg0 hv0 i, List.getD_eq_getElem?_getD, List.getElem?_eq_getElem (show i < prL.length by omega), Option.getD_some, hm]
    have h2 := congrArg (fun l => l[0]?) e1
    simp only [List.getElem?_take, List.getElem?_drop, Nat.add_zero, List.getElem?_cons_zero] at h2
    simpa using h2
  refine ⟨World.block_lt_of_cell? W _ (hcell 0 (by decide)), fun j v hv => ?_⟩
  have hj : j < 18 := by
    have h1 := (List.getElem?_eq_some_iff.1 hv).1
    have h2 : prV.length = 18 := rfl
    omega
  rw [prV_get hj] at hv
  rw [Nat.zero_add, hcell j hj]
  exact hv
end Go.Proofs.YthdlhfgeminoiaaDoor
