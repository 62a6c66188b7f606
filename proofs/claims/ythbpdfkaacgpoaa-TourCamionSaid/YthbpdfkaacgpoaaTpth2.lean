/-
  The walk over tour.Paths. Conditions: the slice can be read; the numbers are of 64 bits.
-/
import Derived.Test.YthbpdfkaacgpoaaTpaths
namespace Go.Proofs.Ythbpdfkaacgpoaa
set_option linter.unusedVariables false
open Go.RowKit

set_option maxHeartbeats 1000000 in
set_option maxRecDepth 100000 in
theorem Paths_bad (n : Int) (u : Value) (l : List Int) (w : World) (hu : Sl w u l) (hi64 : ∀ x ∈ l, I64 x) (h : tE n l ≠ 0) :
    Calls Try.prog 12 #[sqV n u] w fun e w' => e = .returned (.tuple #[.int .i64 0, .int .i64 (tE n l)]) ∧ Below w.heap.size w w' := by
  have HOP := hid (fun w1 (hb : Below w.heap.size w w1) => open_bad n u l w1 (hu.below hb) hi64 h)
  have hne : (tE n l != 0) = true := by simpa using h
  obtain ⟨ax, cx, e1⟩ := hu.len
  subst e1
  generalize tE n l = E at *
  generalize l.length = N at *
  have HZT := zeroT
  obtain ⟨Z, hZ⟩ : ∃ Z, (boolS 81 fun _ => false) = Z := ⟨_, rfl⟩
  have hZl : Z.length = 81 := by rw [← hZ]; exact boolS_len 81 _
  have hone : Z.toArray.all (·.oneCell') = true := by rw [← hZ]; exact bool81_one _
  rw [hZ] at HZT HOP
  clear hZ
  have HW0 := hid (And.intro (Arr.new w 24 [.int .i64 n, .slice ax N cx]) ((Below.refl w.heap.size w).alloc (Nat.le_refl _) (.cells #[.int .i64 n, .slice ax N cx] 24)))
  have r1 := HW0.out.1.range
  have i2 : (Try.prog.info? 24).map (·.size) = some 2 := by kernel_rfl
  clear hu hi64 h
  unfold sqV at HOP
  unfold sqV
  go_enter Try.func12, Try.ntmps12
  go_wp2_with fail
  refine (HOP.out _ HW0.out.2).mono ?_
  rintro e w2 ⟨rfl, hb2⟩
  have hB2 := HW0.out.2.trans (hb2.mono HW0.out.2.size)
  have hB3 := hB2.alloc hB2.size (.cells Z.toArray 51)
  have hA3 := Arr.new w2 51 Z
  have hs2 := hB2.size
  have i3 : (Try.prog.info? 51).map (·.size) = some Z.toArray.size := by rw [List.size_toArray, hZl]; kernel_rfl
  have t8 : (w2.alloc (.cells Z.toArray 51)).there w2.heap.size 0 Z.toArray.size := by
    have := hA3.there
    rw [hZl] at this
    have hsz : Z.toArray.size = 81 := List.size_toArray.trans hZl
    rw [hsz]
    exact this
  have hg9 := grown_setCells (b := w2.heap.size) Z 0 (w2.alloc (.cells Z.toArray 51))
  have HT := hid (hB3.grown hg9 hB3.size (fun k h => by cases h; exact hs2))
  clear hB2 hB3 hA3 hb2 HW0 HOP r1 hg9 hs2
  go_wp2_with (refine wpList_store_mid rfl 51 _ _ rfl w2.heap.size 0 Z.toArray rfl rfl t8 i3 hone ?_; show wpList _ _ _ _ _ ((w2.alloc (.cells Z.toArray 51)).setCells w2.heap.size 0 Z); generalize (w2.alloc (.cells Z.toArray 51)).setCells w2.heap.size 0 Z = w3 at *)
  go_ret2
  exact ⟨rfl, HT.out⟩

set_option maxHeartbeats 1000000 in
set_option maxRecDepth 100000 in
theorem Paths_ok (S : Nat) (u : Value) (l : List Int) (w : World) (hu : Sl w u l) (hi64 : ∀ x ∈ l, I64 x) (h : tE S l = 0) (hS1 : 1 ≤ S) (hS9 : S ≤ 9) (hlen : l.length = S * S) :
    Calls Try.prog 12 #[sqV S u] w fun e w' => e = .returned (.tuple #[.int .i64 (comp S (beB S l (S * S)) S []).length, .int .i64 0]) ∧ Below w.heap.size w w' := by
  have HOP := hid (fun w1 (hb : Below w.heap.size w w1) => open_ok S u l w1 (hu.below hb) hi64 h hS1 hS9 hlen)
  obtain ⟨ax, cx, e1⟩ := hu.len
  subst e1
  generalize l.length = N at *
  unfold tabV at HOP
  obtain ⟨SB, hSB⟩ : ∃ SB, beB S l (S * S) = SB := ⟨_, rfl⟩
  rw [hSB] at HOP ⊢
  have hcl := comp_len (N := S) SB S []
  have hp9 := pow99 hS9
  have HLS := hid (fun bx w1 (hA : Arr w1 bx 3 [.int .i64 ((0 : Nat) : Int)]) => tlists_any (contC S bx) SB hS9 S [] (.slice none 0 0) 0 w1 (by simp) (fun x hx => by cases hx) (Sl.nil' _ _) (fun a n c e => by cases e) hA (by show 0 + _ ≤ _; omega))
  rw [foldC, Nat.zero_add] at HLS
  have hK : (comp S SB S []).length ≤ 387420489 := by omega
  generalize (comp S SB S []).length = K at *
  have HZT := zeroT
  have HW0 := hid (And.intro (Arr.new w 24 [.int .i64 (S : Int), .slice ax N cx]) ((Below.refl w.heap.size w).alloc (Nat.le_refl _) (.cells #[.int .i64 (S : Int), .slice ax N cx] 24)))
  have r1 := HW0.out.1.range
  have i2 : (Try.prog.info? 24).map (·.size) = some 2 := by kernel_rfl
  clear hu hi64 h hcl hp9 hSB hlen
  unfold sqV at HOP
  unfold sqV
  go_enter Try.func12, Try.ntmps12
  go_wp2_with fail
  refine (HOP.out _ HW0.out.2).mono ?_
  rintro e w2 ⟨rfl, hb2⟩
  have hA2 := HW0.out.1.below hb2
  have hB2 := HW0.out.2.trans (hb2.mono HW0.out.2.size)
  have hs2 := hB2.size
  have hlt2 := hA2.lt
  have hB3 := hB2.alloc hB2.size (.cells (boolS 81 fun _ => false).toArray 51)
  have hA3 := Arr.new w2 51 (boolS 81 fun _ => false)
  have i3 : (Try.prog.info? 51).map (·.size) = some (boolS 81 SB).toArray.size := by rw [List.size_toArray, boolS_len]; kernel_rfl
  have i1 : (Try.prog.info? 51).map (·.size) = some (boolS 81 SB).length := by rw [boolS_len]; kernel_rfl
  have t8 : (w2.alloc (.cells (boolS 81 fun _ => false).toArray 51)).there w2.heap.size 0 (boolS 81 SB).toArray.size := by
    have := hA3.there
    rw [boolS_len] at this
    have hsz : (boolS 81 SB).toArray.size = 81 := List.size_toArray.trans (boolS_len 81 _)
    rw [hsz]
    exact this
  have hone := bool81_one SB
  have hg9 := grown_setCells (b := w2.heap.size) (boolS 81 SB) 0 (w2.alloc (.cells (boolS 81 fun _ => false).toArray 51))
  have hF9 : Arr ((w2.alloc (.cells (boolS 81 fun _ => false).toArray 51)).setCells w2.heap.size 0 (boolS 81 SB)) w2.heap.size 51 (boolS 81 SB) := Arr.setCells (boolS 81 SB) [] _ _ hA3 ((boolS_len 81 _).trans (boolS_len 81 SB).symm)
  have hQ9 := (hA2.alloc (.cells (boolS 81 fun _ => false).toArray 51)).kept hg9 (fun e => by have : w.heap.size = w2.heap.size := Option.some.inj e; omega)
  have HT := hid (And.intro hF9 (And.intro hQ9 (hB3.grown hg9 hB3.size (fun k h => by cases h; exact hs2))))
  clear hB2 hB3 hA3 hb2 HW0 HOP r1 hg9 hA2 hF9 hQ9
  go_wp2_with (first
    | (refine wpList_store_mid rfl 51 _ _ rfl w2.heap.size 0 (boolS 81 SB).toArray rfl rfl t8 i3 hone ?_; show wpList _ _ _ _ _ ((w2.alloc (.cells (boolS 81 fun _ => false).toArray 51)).setCells w2.heap.size 0 (boolS 81 SB)); generalize (w2.alloc (.cells (boolS 81 fun _ => false).toArray 51)).setCells w2.heap.size 0 (boolS 81 SB) = w3 at *; have r4 := (HT.out.1.alloc (.cells #[.int .i64 0] 3)).range; have k4 := (HT.out.2.1.alloc (.cells #[.int .i64 0] 3)).cell 0; simp only [List.getElem?_cons_zero] at k4)
    | (refine wpList_load_mid rfl 51 _ rfl w2.heap.size 0 rfl (boolS 81 SB) _ r4 Try.underlying51 rfl i1 ?_))
  refine (HLS.out w3.heap.size _ (Arr.new w3 3 [.int .i64 0])).mono ?_
  rintro e w5 ⟨rfl, hA5, hg5⟩
  have k5 := hA5.cell 0
  simp only [List.getElem?_cons_zero] at k5
  have hB4 := HT.out.2.2.alloc HT.out.2.2.size (.cells #[.int .i64 0] 3)
  have HX := hid (hB4.grown hg5 hB4.size (fun k h => by cases h; exact HT.out.2.2.size))
  clear hA5 hg5 hB4
  go_wp2
  go_ret2
  exact ⟨rfl, HX.out⟩
end Go.Proofs.Ythbpdfkaacgpoaa
