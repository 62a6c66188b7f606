/-
  The walks over perm.inverse, Inverse and parterreref1.Undo, Still. Conditions: the slice can be read; a permutation where it is said.
-/
import Derived.Test.YtnbgnoimanpjnaaGPcomp
import Derived.Test.YtnbgnoimanpjnaaGPlen
namespace Go.Proofs.Ytnbgnoimanpjnaa
set_option linter.unusedVariables false
open Go.RowKit

/-- What undoes it, so far. -/
def undF (f : Nat → Nat) (N : Nat) : Nat → List Int
  | 0 => List.replicate N 0
  | k + 1 => (undF f N k).set (f k) (k : Int)
theorem und_len (f : Nat → Nat) (N : Nat) : ∀ k, (undF f N k).length = N
  | 0 => by simp [undF]
  | k + 1 => by simp [undF, und_len f N k]
theorem und_get {f : Nat → Nat} {N : Nat} (P : Pm N f) : ∀ k, k ≤ N → ∀ i, i < k → (undF f N k)[f i]?.getD 0 = (i : Int)
  | 0, _, i, h => by omega
  | k + 1, hk, i, h => by
    simp only [undF]
    by_cases e : i = k
    · subst e
      rw [List.getElem?_set_self (by rw [und_len]; exact P.lt i (by omega))]
      rfl
    · rw [List.getElem?_set_ne (fun e2 => e (P.inj k i (by omega) (by omega) e2).symm)]
      exact und_get P k (by omega) i (by omega)

theorem undo_ok (v : Value) (l : List Int) (N : Nat) (f : Nat → Nat) (w : World) (hl : Sl w v l) (P : PmL l N f) :
    Calls Try.prog 26 #[v] w fun e w' => (∃ u, e = .returned u ∧ OI w.heap.size w' u (undF f N N)) ∧ Below w.heap.size w w' := by
  obtain ⟨a, cp, N', rfl, hN, hl1, hl2⟩ := hl.open
  obtain rfl : N' = N := by rw [← hN.out, P.len]
  have h12 := P.n12
  have HAT := hid P.at'
  have HLT := hid (fun i (hi : i < N') => P.pm.lt i hi)
  have HUL := hid (und_len f N')
  have H0 : Hid (undF f N' 0 = List.replicate N' 0) := hid rfl
  have H1 : Hid (∀ k : Nat, undF f N' (k + 1) = (undF f N' k).set (f k) (k : Int)) := hid (fun k => rfl)
  clear hl P
  generalize undF f N' = D at *
  go_enter Try.func26, Try.ntmps26
  go_wp2_with (at_make; refine wpList_mk (w := w) _ _ 23 3 (.int .i64 0) 8 rfl rfl Try.underlying23 Try.info3 rfl (by decide) w.heap.size _ N' rfl rfl rfl (by omega) (Nat.le_refl _) ?_; intro w3 hs3 hgr3 hz3)
  have ho3 : OI w.heap.size w3 (.slice (some ⟨w.heap.size, 0, none⟩) N' N') (D 0) := by
    unfold OI
    rw [H0.out, List.map_replicate]
    exact hs3
  have hb3 : Below w.heap.size w w3 := (Below.refl _ _).grown hgr3 (Nat.le_refl _) (fun k h => by cases h)
  clear hs3 hgr3 hz3
  go_loopw [4] (fun i wr => ∃ k : Nat, k ≤ N' ∧ i = .int .i64 k ∧ OI w.heap.size wr (.slice (some ⟨w.heap.size, 0, none⟩) N' N') (D k) ∧ Below w.heap.size w wr) (fun i _ => N' - (intOf i).toNat)
  case atStart => exact ⟨0, Nat.zero_le _, rfl, ho3, hb3⟩
  case round =>
    obtain ⟨k, hk, rfl, ho, hb⟩ := hrel
    clear ho3 hb3
    by_cases hlt : k < N'
    · obtain ⟨b, off, rfl, hblt, hc⟩ := hl2 (by omega)
      have hca := (hb.cell (p := ⟨b, off + k, none⟩) hblt).trans (hc k hlt)
      rw [HAT.out k hlt] at hca
      have hfk := HLT.out k hlt
      have hcell := ho.cell (f k) (by rw [HUL.out]; exact hfk)
      have hfz := ho.frozen (f k)
      obtain ⟨hs1, hg1⟩ := ho.stored (f k) (k : Int)
      rw [← H1.out] at hs1
      have HX := hid (And.intro hs1 (hb.grown hg1 hb.size (fun b e => by cases e; exact Nat.le_refl _)))
      clear ho hb hs1 hg1 hc hl2
      generalize (D k).getD (f k) 0 = old at *
      generalize f k = x at *
      go_wp2
      go_roundw
      case rel => exact ⟨k + 1, by omega, by go_num, HX.out.1, HX.out.2⟩
      case measure => simp [intOf] <;> omega
    · obtain rfl : N' = k := by omega
      have HX := hid (And.intro ho hb)
      clear ho hb
      go_wp2
      go_ret
      exact ⟨⟨_, rfl, HX.out.1⟩, HX.out.2⟩

/-- 0, 1, .. -/
def stillL (n : Nat) : List Int := (List.range n).map fun i : Nat => (i : Int)
theorem still_len (n : Nat) : (stillL n).length = n := by simp [stillL]
theorem still_succ (n : Nat) : stillL (n + 1) = stillL n ++ [(n : Int)] := by simp [stillL, List.range_succ]
theorem still_ok (n : Nat) (w : World) (hn : n ≤ 1000) :
    Calls Try.prog 55 #[.int .i64 n] w fun e w' => (∃ u, e = .returned u ∧ OI w.heap.size w' u (stillL n)) ∧ Below w.heap.size w w' := by
  have HS := hid still_succ
  have HL := hid still_len
  have H0 : Hid (stillL 0 = []) := hid rfl
  generalize stillL = D at *
  go_enter Try.func55, Try.ntmps55
  go_wp2
  go_loopw [3, 4] (fun o i wr => ∃ k : Nat, k ≤ n ∧ i = .int .i64 k ∧ OI w.heap.size wr o (D k) ∧ Below w.heap.size w wr) (fun _ i _ => n - (intOf i).toNat)
  case atStart => exact ⟨0, Nat.zero_le _, rfl, by rw [H0.out]; exact OI.nil _ _, Below.refl _ _⟩
  case round =>
    obtain ⟨k, hk, rfl, hown, hb⟩ := hrel
    by_cases hlt : k < n
    · have hB := hb.size
      have hl2 : (D k).length ≤ 1000000000000 := by rw [HL.out]; omega
      have HSK := hid (HS.out k)
      go_wp2_with (at_builtin; refine wpList_appi wr _ _ 23 rfl rfl Try.underlying23 Try.info3 w.heap.size _ _ rfl hown rfl hl2 hB ?_; intro g c w1 hown1 hg1 hg2 hg3)
      go_roundw
      case rel => exact ⟨k + 1, by omega, by go_num, hown1.cast (by rw [HSK.out]), hown.grown hb hg1 hB⟩
      case measure => simp [intOf] <;> omega
    · obtain rfl : n = k := by omega
      go_wp2
      go_ret
      exact ⟨⟨_, rfl, hown⟩, hb⟩

end Go.Proofs.Ytnbgnoimanpjnaa
