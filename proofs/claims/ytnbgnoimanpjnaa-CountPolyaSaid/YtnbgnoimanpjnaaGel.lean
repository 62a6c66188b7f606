/-
  Lists of a move's numbers: they are permutations; which move they are; the inverse's. No program in sight.
-/
import Derived.Test.YtnbgnoimanpjnaaGmem
import Derived.Test.YtnbgnoimanpjnaaGchk
import Derived.Test.YtnbgnoimanpjnaaGPinv
namespace Go.Proofs.Ytnbgnoimanpjnaa
set_option linter.unusedVariables false
open Go.RowKit

theorem elL_permE {n : Nat} {x : Nat → Nat} (hn : n ≤ 12) (P : Mv n x) : permE (elL n x) = 0 := by
  have hr : ∀ y ∈ elL n x, 0 ≤ y ∧ y < ((elL n x).length : Int) := by
    intro y hy
    simp only [elL, List.mem_map, List.mem_range] at hy
    obtain ⟨i, hi, rfl⟩ := hy
    rw [elL_len]
    have := P.pm.lt i hi
    omega
  rw [permE_in (by rw [elL_len]; omega) hr, if_pos]
  unfold elL
  unfold List.Nodup
  rw [List.pairwise_map]
  have h1 : (List.range n).Pairwise (fun a b => a < b ∧ a < n ∧ b < n) := List.Pairwise.imp_of_mem (fun {a b} ha hb h => ⟨h, List.mem_range.1 ha, List.mem_range.1 hb⟩) List.pairwise_lt_range
  refine h1.imp fun {a b} h e => ?_
  have := P.pm.inj a b h.2.1 h.2.2 (by omega)
  omega
theorem elL_memE {n : Nat} {x : Nat → Nat} (hn : n ≤ 12) (P : Mv n x) : memE (n : Int) (elL n x) = 0 := by
  unfold memE
  rw [elL_permE hn P, elL_len, if_neg (by simp), if_neg (by simp)]
theorem mvF_elL {n : Nat} {x : Nat → Nat} (P : Mv n x) : mvF n (fL (elL n x)) = x := by
  funext i
  unfold mvF
  by_cases h : i < n
  · rw [if_pos h]
    unfold fL
    rw [elL_get h]
    simp
  · rw [if_neg h, P.st i (by omega)]
theorem und_elL {n : Nat} {x y : Nat → Nat} (P : Mv n x) (Q : Mv n y) (h : compF y x = id) : undF x n n = elL n y := by
  refine List.ext_getElem? fun c => ?_
  by_cases hc : c < n
  · have h1 := und_get P.pm n (Nat.le_refl _) (y c) (Q.pm.lt c hc)
    have h2 : x (y c) = c := congrFun h c
    rw [h2] at h1
    rw [List.getElem?_eq_getElem (by rw [und_len]; exact hc)] at h1 ⊢
    rw [Option.getD_some] at h1
    rw [h1]
    simp [elL, hc]
  · rw [List.getElem?_eq_none (by rw [und_len]; omega), List.getElem?_eq_none (by rw [elL_len]; omega)]
theorem pml_el {n : Nat} {x : Nat → Nat} (hn : n ≤ 12) (P : Mv n x) : PmL (elL n x) n (fL (elL n x)) := by
  have := pm_of (elL_permE hn P)
  rwa [elL_len] at this
theorem msL_el {n : Nat} {L : List (Nat → Nat)} (h : ∀ x ∈ L, Mv n x) : msL n (L.map (elL n)) = L := by
  unfold msL
  rw [List.map_map]
  conv => rhs; rw [← List.map_id L]
  exact List.map_congr_left fun x hx => mvF_elL (h x hx)
theorem fac7 : ∀ n, n ≤ 7 → fac n ≤ 5040 := by
  intro n hn
  have : ∀ m : Fin 8, fac m.1 ≤ 5040 := by decide
  exact this ⟨n, by omega⟩
end Go.Proofs.Ytnbgnoimanpjnaa
