/-
  A closing list can be turned until player 0 stands first. No program in sight.
-/
import Derived.Test.YthbpdfkaacgpoaaTcyc
import Derived.Test.YthbpdfkaacgpoaaTbeats
namespace Go.Proofs.Ythbpdfkaacgpoaa
set_option linter.unusedVariables false
open Go.RowKit

theorem clB_map {SB : Nat → Bool} (Q : List Nat) {x y : Nat} (hl : Q.getLast? = some x) (hh : Q.head? = some y) : clB SB (Q.map fun z : Nat => (z : Int)) = (Q.length == 1 || SB (x * 9 + y)) := by
  unfold clB
  have h1 : (Q.map fun z : Nat => (z : Int)).getD ((Q.map fun z : Nat => (z : Int)).length - 1) 0 = (x : Int) := by
    rw [List.getD_eq_getElem?_getD, ← List.getLast?_eq_getElem?, List.getLast?_map, hl]; rfl
  have h2 : (Q.map fun z : Nat => (z : Int)).getD 0 0 = (y : Int) := by
    rw [List.getD_eq_getElem?_getD, ← List.head?_eq_getElem?, List.head?_map, hh]; rfl
  rw [h1, h2, List.length_map, Int.toNat_natCast, Int.toNat_natCast]
theorem cyc_rot {S : Nat} {SB : Nat → Bool} (hS : 1 ≤ S) {M : List Int} (hM : M ∈ comp S SB S []) (hc : clB SB M = true) : ∃ M', M' ∈ comp S SB (S - 1) [0] ∧ clB SB M' = true := by
  obtain ⟨Q, rfl, q2, q3, q4, q5⟩ := comp_sound (N := S) (SB := SB) S [] trivial (by simp) (fun z hz => by cases hz) M hM
  rw [List.length_nil, Nat.zero_add] at q5
  obtain ⟨A, B, rfl⟩ := List.append_of_mem (nodup_full q3 q4 q5 (k := 0) (by omega))
  -- the turned one
  have hperm : ((0 :: B) ++ A).Nodup := (List.perm_append_comm.nodup_iff).1 q3
  have hlen : ((0 :: B) ++ A).length = S := by rw [← q5]; simp; omega
  have hin : ∀ z ∈ (0 :: B) ++ A, z < S := fun z hz => q4 z (by
    rcases List.mem_append.1 hz with h | h
    · exact List.mem_append.2 (.inr h)
    · exact List.mem_append.2 (.inl h))
  have hch : chn (fun i j => SB (i * 9 + j)) ((0 :: B) ++ A) := by
    refine chn_app _ _ (chn_right A (0 :: B) q2) (chn_left A (0 :: B) q2) (fun x y hx hy => ?_)
    have hl : (A ++ 0 :: B).getLast? = some x := by rw [List.getLast?_append, hx]; rfl
    have hh : (A ++ 0 :: B).head? = some y := by rw [List.head?_append, hy]; rfl
    rw [clB_map _ hl hh, Bool.or_eq_true, beq_iff_eq] at hc
    rcases hc with h | h
    · cases A with
      | nil => cases hy
      | cons a A => simp at h
    · exact h
  have hmem := comp_mem (N := S) (SB := SB) (B ++ A) [0] (by simpa using hch) (by simpa using hperm) (fun z hz => hin z (List.mem_cons_of_mem 0 hz))
  have hl2 : (B ++ A).length = S - 1 := by simp at hlen ⊢; omega
  rw [hl2] at hmem
  refine ⟨_, hmem, ?_⟩
  cases hA : A.getLast? with
  | none =>
    have : A = [] := List.getLast?_eq_none_iff.1 hA
    subst this
    simpa using hc
  | some x =>
    have hne : A ≠ [] := fun e => by rw [e] at hA; cases hA
    have hl : ([0] ++ (B ++ A)).getLast? = some x := by rw [← List.append_assoc, List.getLast?_append, hA]; rfl
    rw [clB_map _ hl rfl]
    have hj : ∀ (C : List Nat), C.getLast? = some x → chn (fun i j => SB (i * 9 + j)) (C ++ 0 :: B) → SB (x * 9 + 0) = true := by
      intro C
      induction C with
      | nil => intro h; cases h
      | cons a C ih =>
        intro h1 h2
        cases C with
        | nil => cases h1; exact h2.1
        | cons a' C => exact ih (by rw [List.getLast?_cons_cons] at h1; exact h1) h2.2
    rw [hj A hA q2, Bool.or_true]
theorem cyc_find {S : Nat} {SB : Nat → Bool} (hS : 1 ≤ S) : (comp S SB S []).find? (clB SB) = ((comp S SB (S - 1) [0]).filter (clB SB)).head? := by
  rw [List.head?_filter]
  obtain ⟨f, rfl⟩ : ∃ f, S = f + 1 := ⟨S - 1, by omega⟩
  have e : ∃ R, comp (f + 1) SB (f + 1) [] = comp (f + 1) SB f [0] ++ R := by
    rw [comp, List.range_succ_eq_map, List.flatMap_cons]
    exact ⟨_, rfl⟩
  obtain ⟨R, hR⟩ := e
  rw [Nat.add_sub_cancel]
  cases h : (comp (f + 1) SB f [0]).find? (clB SB) with
  | some m => rw [hR, List.find?_append, h]; rfl
  | none =>
    rw [List.find?_eq_none]
    intro M hM hc
    obtain ⟨M', h1, h2⟩ := cyc_rot (S := f + 1) (by omega) hM hc
    rw [List.find?_eq_none] at h
    exact h M' h1 h2
end Go.Proofs.Ythbpdfkaacgpoaa
