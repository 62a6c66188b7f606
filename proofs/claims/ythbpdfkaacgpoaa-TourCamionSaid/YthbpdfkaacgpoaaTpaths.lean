/-
  The walks over tour.open at what is wrong, and over tour.Paths. Conditions: the slice can be read; the numbers are of 64 bits.
-/
import Derived.Test.YthbpdfkaacgpoaaTlists
namespace Go.Proofs.Ythbpdfkaacgpoaa
set_option linter.unusedVariables false
open Go.RowKit

theorem bool81_one (SB : Nat → Bool) : (boolS 81 SB).toArray.all (·.oneCell') = true := by
  rw [List.all_toArray, List.all_eq_true]
  intro v hv
  obtain ⟨x, _, rfl⟩ := List.mem_map.1 hv
  rfl

set_option maxHeartbeats 1000000 in
set_option maxRecDepth 100000 in
theorem open_bad (n : Int) (u : Value) (l : List Int) (w : World) (hu : Sl w u l) (hi64 : ∀ x ∈ l, I64 x) (h : tE n l ≠ 0) :
    Calls Try.prog 34 #[sqV n u] w fun e w' => e = .returned (.tuple #[.agg (boolS 81 fun _ => false).toArray, .int .i64 (tE n l)]) ∧ Below w.heap.size w w' := by
  have HCK := hid (fun w1 (hb : Below w.heap.size w w1) => Check_any n u l w1 (hu.below hb) hi64)
  have hne : (tE n l != 0) = true := by simpa using h
  obtain ⟨ax, cx, e1⟩ := hu.len
  subst e1
  generalize tE n l = E at *
  generalize l.length = N at *
  have HZT := zeroT
  have HW0 := hid (And.intro (Arr.new w 24 [.int .i64 n, .slice ax N cx]) ((Below.refl w.heap.size w).alloc (Nat.le_refl _) (.cells #[.int .i64 n, .slice ax N cx] 24)))
  have HW1 : Hid (Arr ((w.alloc (.cells #[.int .i64 n, .slice ax N cx] 24)).alloc (.cells (boolS 81 fun _ => false).toArray 51)) w.heap.size 24 [.int .i64 n, .slice ax N cx] ∧ Arr ((w.alloc (.cells #[.int .i64 n, .slice ax N cx] 24)).alloc (.cells (boolS 81 fun _ => false).toArray 51)) (w.heap.size + 1) 51 (boolS 81 fun _ => false) ∧ Below w.heap.size w ((w.alloc (.cells #[.int .i64 n, .slice ax N cx] 24)).alloc (.cells (boolS 81 fun _ => false).toArray 51))) := hid ⟨HW0.out.1.alloc _, by
    have := Arr.new (w.alloc (.cells #[.int .i64 n, .slice ax N cx] 24)) 51 (boolS 81 fun _ => false)
    rw [World.size_alloc] at this
    exact this, HW0.out.2.alloc HW0.out.2.size _⟩
  have r1 := HW1.out.1.range
  have i2 : (Try.prog.info? 24).map (·.size) = some 2 := by kernel_rfl
  clear HW0 hu hi64 h
  unfold sqV at HCK
  unfold sqV
  go_enter Try.func34, Try.ntmps34
  go_wp2_with fail
  refine (HCK.out _ HW1.out.2.2).mono ?_
  rintro e w2 ⟨rfl, hb2⟩
  have hT2 := HW1.out.2.1.below hb2
  have hB2 := HW1.out.2.2.trans (hb2.mono HW1.out.2.2.size)
  have i1 : (Try.prog.info? 51).map (·.size) = some (boolS 81 fun _ => false).length := by rw [boolS_len]; kernel_rfl
  have i3 : (Try.prog.info? 51).map (·.size) = some (boolS 81 fun _ => false).toArray.size := by rw [List.size_toArray, boolS_len]; kernel_rfl
  have t8 : w2.there (w.heap.size + 1) 0 (boolS 81 fun _ => false).toArray.size := by
    have := hT2.there
    rw [boolS_len] at this
    have hsz : (boolS 81 fun _ => false).toArray.size = 81 := List.size_toArray.trans (boolS_len 81 _)
    rw [hsz]
    exact this
  have hone := bool81_one fun _ => false
  have HT := hid (And.intro hT2 hB2)
  clear hT2 hB2 hb2 HW1 HCK r1
  go_wp2_with (refine wpList_store_mid rfl 51 _ _ rfl (w.heap.size + 1) 0 (boolS 81 fun _ => false).toArray rfl rfl t8 i3 hone ?_; show wpList _ _ _ _ _ (w2.setCells (w.heap.size + 1) 0 (boolS 81 fun _ => false)))
  have hF9 : Arr (w2.setCells (w.heap.size + 1) 0 (boolS 81 fun _ => false)) (w.heap.size + 1) 51 (boolS 81 fun _ => false) := Arr.setCells (boolS 81 fun _ => false) [] _ w2 HT.out.1 rfl
  have hg9 := grown_setCells (b := w.heap.size + 1) (boolS 81 fun _ => false) 0 w2
  have hb9 := HT.out.2.grown hg9 HT.out.2.size (fun k h => by cases h; omega)
  have hld := run_loadVar_mid (P := Try.prog) _ _ _ 51 _ _ hF9.range Try.underlying51 rfl i1
  refine ⟨rfl, .tuple #[.agg (boolS 81 fun _ => false).toArray, .int .i64 E], ?_, rfl, hb9⟩
  show ((results _ _).run _ _) = _
  simp [results, Try.f34, asAddr, hld]

/-- One more. -/
def stepC (n : Nat) (_ : List Int) : Nat × Bool := (n + 1, false)
theorem foldC : ∀ (L : List (List Int)) (n : Nat), foldU stepC n L = (n + L.length, false)
  | [], n => rfl
  | x :: xs, n => by
    have h := foldC xs (n + 1)
    have e : foldU stepC n (x :: xs) = foldU stepC (n + 1) xs := rfl
    rw [e, h, List.length_cons]
    congr 1
    omega
theorem comp_len {N : Nat} (SB : Nat → Bool) : ∀ (f : Nat) (l : List Int), (comp N SB f l).length ≤ N ^ f
  | 0, l => by simp [comp]
  | f + 1, l => by
    have h : ∀ t, t ≤ N → (compT N SB f l t).length ≤ t * N ^ f := fun t => by
      induction t with
      | zero => intro _; simp [compT]
      | succ t ih =>
        intro ht
        rw [compT_succ, List.length_append, Nat.succ_mul]
        have := ih (by omega)
        have h2 : (if okB SB l t then comp N SB f (l ++ [(t : Int)]) else []).length ≤ N ^ f := by
          split
          · exact comp_len SB f _
          · simp
        omega
    rw [comp_succ, Nat.pow_succ, Nat.mul_comm]
    exact h N (Nat.le_refl _)
theorem pow99 {N : Nat} (h : N ≤ 9) : N ^ N ≤ 387420489 := by
  have h1 : N ^ N ≤ 9 ^ N := Nat.pow_le_pow_left h N
  have h2 : 9 ^ N ≤ 9 ^ 9 := Nat.pow_le_pow_right (by omega) h
  have h3 : 9 ^ 9 = 387420489 := by decide
  omega
theorem paths1_ok (n : Nat) (v : Value) (bx : Nat) (w : World) (hA : Arr w bx 3 [.int .i64 n]) (hn : n < 1000000000) :
    Calls Try.prog 36 #[v, .pointer (some ⟨bx, 0, none⟩)] w fun e w' => e = .returned (.bool false) ∧ Arr w' bx 3 [.int .i64 ((n + 1 : Nat) : Int)] ∧ w.grownBy w' (some bx) := by
  have k0 := hA.cell 0
  simp only [List.getElem?_cons_zero] at k0
  have f0 := hA.frozen 0
  have HS := hid (hA.stored 0 (.int .i64 ((n + 1 : Nat) : Int)))
  have hc : (n : Int) + 1 = ((n + 1 : Nat) : Int) := by omega
  clear hA
  generalize hn1 : n + 1 = n1 at *
  have hn1b : n1 ≤ 1000000000 := by omega
  go_enter Try.func36, Try.ntmps36
  go_wp2
  go_ret
  exact ⟨rfl, HS.out.1, HS.out.2⟩
theorem contC (N bx : Nat) : Cont 36 #[.pointer (some ⟨bx, 0, none⟩)] bx (fun n w => Arr w bx 3 [.int .i64 ((n : Nat) : Int)]) stepC (fun n => n) 1000000000 N where
  enter := run_callFunc_own Try.func36 (by kernel_rfl) (by kernel_rfl)
  calls := fun s w v l hI hM _ _ _ _ => paths1_ok s v bx w hI hM
  stab := fun s w w' hI hg => hI.kept hg (by simp)
  box := fun s w hI => hI.lt
  lstep := fun s x => Nat.le_refl _
end Go.Proofs.Ythbpdfkaacgpoaa
