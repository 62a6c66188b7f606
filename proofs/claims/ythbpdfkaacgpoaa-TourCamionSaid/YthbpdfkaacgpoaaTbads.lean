/-
  The walks over tour.Kings, Rings and Parts where the tournament is wrong. Conditions: the slice can be read; the numbers are of 64 bits.
-/
import Derived.Test.YthbpdfkaacgpoaaTpth2
namespace Go.Proofs.Ythbpdfkaacgpoaa
set_option linter.unusedVariables false
open Go.RowKit

set_option maxHeartbeats 1000000 in
set_option maxRecDepth 100000 in
theorem Kings_bad (n : Int) (u : Value) (l : List Int) (w : World) (hu : Sl w u l) (hi64 : ∀ x ∈ l, I64 x) (h : tE n l ≠ 0) :
    Calls Try.prog 20 #[sqV n u] w fun e w' => e = .returned (.tuple #[.slice none 0 0, .int .i64 (tE n l)]) ∧ Below w.heap.size w w' := by
  have HOP := hid (fun w1 (hb : Below w.heap.size w w1) => open_bad n u l w1 (hu.below hb) hi64 h)
  have hne : (tE n l != 0) = true := by simpa using h
  obtain ⟨ax, cx, e1⟩ := hu.len
  subst e1
  generalize tE n l = E at *
  generalize l.length = N at *
  have HZT := zeroT
  obtain ⟨Z, hZ⟩ : ∃ Z, (boolS 81 fun _ => false) = Z := ⟨_, rfl⟩
  have hZl : Z.length = 81 := by rw [← hZ]; exact boolS_len 81 _
  have hone : Z.toArray.all (·.oneCell') = true := by rw [← hZ]; exact bool81_one _
  rw [hZ] at HZT HOP
  clear hZ
  have HW0 := hid (And.intro (Arr.new w 24 [.int .i64 n, .slice ax N cx]) ((Below.refl w.heap.size w).alloc (Nat.le_refl _) (.cells #[.int .i64 n, .slice ax N cx] 24)))
  have r1 := HW0.out.1.range
  have i2 : (Try.prog.info? 24).map (·.size) = some 2 := by kernel_rfl
  clear hu hi64 h
  unfold sqV at HOP
  unfold sqV
  go_enter Try.func20, Try.ntmps20
  go_wp2_with fail
  go_step3
  go_wp2_with fail
  refine (HOP.out _ HW0.out.2).mono ?_
  rintro e w2 ⟨rfl, hb2⟩
  have hB2 := HW0.out.2.trans (hb2.mono HW0.out.2.size)
  have hB3 := hB2.alloc hB2.size (.cells Z.toArray 51)
  have hA3 := Arr.new w2 51 Z
  have hs2 := hB2.size
  have i3 : (Try.prog.info? 51).map (·.size) = some Z.toArray.size := by rw [List.size_toArray, hZl]; kernel_rfl
  have t8 : (w2.alloc (.cells Z.toArray 51)).there w2.heap.size 0 Z.toArray.size := by
    have := hA3.there
    rw [hZl] at this
    have hsz : Z.toArray.size = 81 := List.size_toArray.trans hZl
    rw [hsz]
    exact this
  have hg9 := grown_setCells (b := w2.heap.size) Z 0 (w2.alloc (.cells Z.toArray 51))
  have HT := hid (hB3.grown hg9 hB3.size (fun k h => by cases h; exact hs2))
  clear hB2 hB3 hA3 hb2 HW0 HOP r1 hg9 hs2
  go_wp2_with (refine wpList_store_mid rfl 51 _ _ rfl w2.heap.size 0 Z.toArray rfl rfl t8 i3 hone ?_; show wpList _ _ _ _ _ ((w2.alloc (.cells Z.toArray 51)).setCells w2.heap.size 0 Z); generalize (w2.alloc (.cells Z.toArray 51)).setCells w2.heap.size 0 Z = w3 at *)
  try rw [Exit.noGoto_ret]
  go_ret2
  exact ⟨rfl, HT.out⟩

set_option maxHeartbeats 1000000 in
set_option maxRecDepth 100000 in
theorem Rings_bad (n : Int) (u : Value) (l : List Int) (w : World) (hu : Sl w u l) (hi64 : ∀ x ∈ l, I64 x) (h : tE n l ≠ 0) :
    Calls Try.prog 24 #[sqV n u] w fun e w' => e = .returned (.tuple #[.int .i64 0, .int .i64 (tE n l)]) ∧ Below w.heap.size w w' := by
  have HOP := hid (fun w1 (hb : Below w.heap.size w w1) => open_bad n u l w1 (hu.below hb) hi64 h)
  have hne : (tE n l != 0) = true := by simpa using h
  obtain ⟨ax, cx, e1⟩ := hu.len
  subst e1
  generalize tE n l = E at *
  generalize l.length = N at *
  have HZT := zeroT
  obtain ⟨Z, hZ⟩ : ∃ Z, (boolS 81 fun _ => false) = Z := ⟨_, rfl⟩
  have hZl : Z.length = 81 := by rw [← hZ]; exact boolS_len 81 _
  have hone : Z.toArray.all (·.oneCell') = true := by rw [← hZ]; exact bool81_one _
  rw [hZ] at HZT HOP
  clear hZ
  have HW0 := hid (And.intro (Arr.new w 24 [.int .i64 n, .slice ax N cx]) ((Below.refl w.heap.size w).alloc (Nat.le_refl _) (.cells #[.int .i64 n, .slice ax N cx] 24)))
  have r1 := HW0.out.1.range
  have i2 : (Try.prog.info? 24).map (·.size) = some 2 := by kernel_rfl
  clear hu hi64 h
  unfold sqV at HOP
  unfold sqV
  go_enter Try.func24, Try.ntmps24
  go_wp2_with fail
  refine (HOP.out _ HW0.out.2).mono ?_
  rintro e w2 ⟨rfl, hb2⟩
  have hB2 := HW0.out.2.trans (hb2.mono HW0.out.2.size)
  have hB3 := hB2.alloc hB2.size (.cells Z.toArray 51)
  have hA3 := Arr.new w2 51 Z
  have hs2 := hB2.size
  have i3 : (Try.prog.info? 51).map (·.size) = some Z.toArray.size := by rw [List.size_toArray, hZl]; kernel_rfl
  have t8 : (w2.alloc (.cells Z.toArray 51)).there w2.heap.size 0 Z.toArray.size := by
    have := hA3.there
    rw [hZl] at this
    have hsz : Z.toArray.size = 81 := List.size_toArray.trans hZl
    rw [hsz]
    exact this
  have hg9 := grown_setCells (b := w2.heap.size) Z 0 (w2.alloc (.cells Z.toArray 51))
  have HT := hid (hB3.grown hg9 hB3.size (fun k h => by cases h; exact hs2))
  clear hB2 hB3 hA3 hb2 HW0 HOP r1 hg9 hs2
  go_wp2_with (refine wpList_store_mid rfl 51 _ _ rfl w2.heap.size 0 Z.toArray rfl rfl t8 i3 hone ?_; show wpList _ _ _ _ _ ((w2.alloc (.cells Z.toArray 51)).setCells w2.heap.size 0 Z); generalize (w2.alloc (.cells Z.toArray 51)).setCells w2.heap.size 0 Z = w3 at *)
  go_ret2
  exact ⟨rfl, HT.out⟩

set_option maxHeartbeats 1000000 in
set_option maxRecDepth 100000 in
theorem Parts_bad (n : Int) (u : Value) (l : List Int) (w : World) (hu : Sl w u l) (hi64 : ∀ x ∈ l, I64 x) (h : tE n l ≠ 0) :
    Calls Try.prog 25 #[sqV n u] w fun e w' => e = .returned (.tuple #[.slice none 0 0, .int .i64 (tE n l)]) ∧ Below w.heap.size w w' := by
  have HOP := hid (fun w1 (hb : Below w.heap.size w w1) => open_bad n u l w1 (hu.below hb) hi64 h)
  have hne : (tE n l != 0) = true := by simpa using h
  obtain ⟨ax, cx, e1⟩ := hu.len
  subst e1
  generalize tE n l = E at *
  generalize l.length = N at *
  have HZT := zeroT
  obtain ⟨Z, hZ⟩ : ∃ Z, (boolS 81 fun _ => false) = Z := ⟨_, rfl⟩
  have hZl : Z.length = 81 := by rw [← hZ]; exact boolS_len 81 _
  have hone : Z.toArray.all (·.oneCell') = true := by rw [← hZ]; exact bool81_one _
  rw [hZ] at HZT HOP
  clear hZ
  have HW0 := hid (And.intro (Arr.new w 24 [.int .i64 n, .slice ax N cx]) ((Below.refl w.heap.size w).alloc (Nat.le_refl _) (.cells #[.int .i64 n, .slice ax N cx] 24)))
  have r1 := HW0.out.1.range
  have i2 : (Try.prog.info? 24).map (·.size) = some 2 := by kernel_rfl
  clear hu hi64 h
  unfold sqV at HOP
  unfold sqV
  go_enter Try.func25, Try.ntmps25
  go_wp2_with fail
  refine (HOP.out _ HW0.out.2).mono ?_
  rintro e w2 ⟨rfl, hb2⟩
  have hB2 := HW0.out.2.trans (hb2.mono HW0.out.2.size)
  have hB3 := hB2.alloc hB2.size (.cells Z.toArray 51)
  have hA3 := Arr.new w2 51 Z
  have hs2 := hB2.size
  have i3 : (Try.prog.info? 51).map (·.size) = some Z.toArray.size := by rw [List.size_toArray, hZl]; kernel_rfl
  have t8 : (w2.alloc (.cells Z.toArray 51)).there w2.heap.size 0 Z.toArray.size := by
    have := hA3.there
    rw [hZl] at this
    have hsz : Z.toArray.size = 81 := List.size_toArray.trans hZl
    rw [hsz]
    exact this
  have hg9 := grown_setCells (b := w2.heap.size) Z 0 (w2.alloc (.cells Z.toArray 51))
  have HT := hid (hB3.grown hg9 hB3.size (fun k h => by cases h; exact hs2))
  clear hB2 hB3 hA3 hb2 HW0 HOP r1 hg9 hs2
  go_wp2_with (refine wpList_store_mid rfl 51 _ _ rfl w2.heap.size 0 Z.toArray rfl rfl t8 i3 hone ?_; show wpList _ _ _ _ _ ((w2.alloc (.cells Z.toArray 51)).setCells w2.heap.size 0 Z); generalize (w2.alloc (.cells Z.toArray 51)).setCells w2.heap.size 0 Z = w3 at *)
  go_ret2
  exact ⟨rfl, HT.out⟩
end Go.Proofs.Ythbpdfkaacgpoaa
