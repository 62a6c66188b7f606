/-
  The walk over tour.first, the tournament being right. Conditions: the slice can be read; the numbers are of 64 bits.
-/
import Derived.Test.YthbpdfkaacgpoaaTfirst
namespace Go.Proofs.Ythbpdfkaacgpoaa
set_option linter.unusedVariables false
open Go.RowKit

set_option maxHeartbeats 1000000 in
set_option maxRecDepth 100000 in
theorem first_yes {g : FuncId} {wt : List Int → Bool} (S : Nat) (u : Value) (l : List Int) (w : World) (Wn : Want g (beB S l (S * S)) S wt) (hu : Sl w u l) (hi64 : ∀ x ∈ l, I64 x) (h : tE S l = 0) (hS1 : 1 ≤ S) (hS9 : S ≤ 9) (hlen : l.length = S * S) {r : List Int} (hf : (comp S (beB S l (S * S)) S []).find? wt = some r) :
    Calls Try.prog 32 #[sqV S u, .func (.func g) #[] #[]] w fun e w' => (∃ v, e = .returned (.tuple #[v, .int .i64 0]) ∧ Sl w' v r) ∧ Below w.heap.size w w' := by
  have HOP := hid (fun w1 (hb : Below w.heap.size w w1) => open_ok S u l w1 (hu.below hb) hi64 h hS1 hS9 hlen)
  obtain ⟨ax, cx, e1⟩ := hu.len
  subst e1
  generalize l.length = N at *
  unfold tabV at HOP
  obtain ⟨SB, hSB⟩ : ∃ SB, beB S l (S * S) = SB := ⟨_, rfl⟩
  rw [hSB] at HOP hf Wn
  have hcl := comp_len (N := S) SB S []
  have hp9 := pow99 hS9
  have HLS := hid (fun bx bw bt w1 (hI : InvF bx bw bt g SB none w1) => tlists_any (contF Wn bx bw bt) SB hS9 S [] (.slice none 0 0) none w1 (by simp) (fun x hx => by cases hx) (Sl.nil' _ _) (fun a n c e => by cases e) hI (by show 0 + _ ≤ _; omega))
  rw [foldF_yes _ none hf] at HLS
  have HZT := zeroT
  have hA0 := (Arr.new w 24 [.int .i64 (S : Int), .slice ax N cx]).alloc (.cells #[.func (.func g) #[] #[]] 52)
  have hW0 : Arr ((w.alloc (.cells #[.int .i64 (S : Int), .slice ax N cx] 24)).alloc (.cells #[.func (.func g) #[] #[]] 52)) (w.heap.size + 1) 52 [.func (.func g) #[] #[]] := by
    have := Arr.new (w.alloc (.cells #[.int .i64 (S : Int), .slice ax N cx] 24)) 52 [.func (.func g) #[] #[]]
    rw [World.size_alloc] at this
    exact this
  have hb0 := ((Below.refl w.heap.size w).alloc (Nat.le_refl _) (.cells #[.int .i64 (S : Int), .slice ax N cx] 24)).alloc (by simp) (.cells #[.func (.func g) #[] #[]] 52)
  have HW0 := hid (And.intro hA0 (And.intro hW0 hb0))
  have r1 := hA0.range
  have i2 : (Try.prog.info? 24).map (·.size) = some 2 := by kernel_rfl
  clear hu hi64 h hcl hp9 hSB hlen hA0 hW0 hb0 hf Wn
  unfold sqV at HOP
  unfold sqV
  go_enter Try.func32, Try.ntmps32
  go_wp2_with fail
  refine (HOP.out _ HW0.out.2.2).mono ?_
  rintro e w2 ⟨rfl, hb2⟩
  have hA2 := HW0.out.1.below hb2
  have hW2 := HW0.out.2.1.below hb2
  have hB2 := HW0.out.2.2.trans (hb2.mono HW0.out.2.2.size)
  have hs2 := hB2.size
  have hlt2 := hW2.lt
  have hB3 := hB2.alloc hB2.size (.cells (boolS 81 fun _ => false).toArray 51)
  have hA3 := Arr.new w2 51 (boolS 81 fun _ => false)
  have i3 : (Try.prog.info? 51).map (·.size) = some (boolS 81 SB).toArray.size := by rw [List.size_toArray, boolS_len]; kernel_rfl
  have i1 : (Try.prog.info? 51).map (·.size) = some (boolS 81 SB).length := by rw [boolS_len]; kernel_rfl
  have t8 : (w2.alloc (.cells (boolS 81 fun _ => false).toArray 51)).there w2.heap.size 0 (boolS 81 SB).toArray.size := by
    have := hA3.there
    rw [boolS_len] at this
    have hsz : (boolS 81 SB).toArray.size = 81 := List.size_toArray.trans (boolS_len 81 _)
    rw [hsz]
    exact this
  have hone := bool81_one SB
  have hg9 := grown_setCells (b := w2.heap.size) (boolS 81 SB) 0 (w2.alloc (.cells (boolS 81 fun _ => false).toArray 51))
  have hF9 : Arr ((w2.alloc (.cells (boolS 81 fun _ => false).toArray 51)).setCells w2.heap.size 0 (boolS 81 SB)) w2.heap.size 51 (boolS 81 SB) := Arr.setCells (boolS 81 SB) [] _ _ hA3 ((boolS_len 81 _).trans (boolS_len 81 SB).symm)
  have hQ9 := (hA2.alloc (.cells (boolS 81 fun _ => false).toArray 51)).kept hg9 (fun e => by have : w.heap.size = w2.heap.size := Option.some.inj e; omega)
  have hW9 := (hW2.alloc (.cells (boolS 81 fun _ => false).toArray 51)).kept hg9 (fun e => by have : w.heap.size + 1 = w2.heap.size := Option.some.inj e; omega)
  have HT := hid (And.intro hF9 (And.intro hQ9 (And.intro hW9 (hB3.grown hg9 hB3.size (fun k h => by cases h; exact hs2)))))
  clear hB2 hB3 hA3 hb2 HW0 HOP r1 hg9 hA2 hF9 hQ9 hW2 hW9
  go_wp2_with (first
    | (refine wpList_store_mid rfl 51 _ _ rfl w2.heap.size 0 (boolS 81 SB).toArray rfl rfl t8 i3 hone ?_; show wpList _ _ _ _ _ ((w2.alloc (.cells (boolS 81 fun _ => false).toArray 51)).setCells w2.heap.size 0 (boolS 81 SB)); generalize (w2.alloc (.cells (boolS 81 fun _ => false).toArray 51)).setCells w2.heap.size 0 (boolS 81 SB) = w3 at *; have r4 := (HT.out.1.alloc (.cells #[.slice none 0 0] 22)).range; have k4 := (HT.out.2.1.alloc (.cells #[.slice none 0 0] 22)).cell 0; simp only [List.getElem?_cons_zero] at k4)
    | (refine wpList_load_mid rfl 51 _ rfl w2.heap.size 0 rfl (boolS 81 SB) _ r4 Try.underlying51 rfl i1 ?_))
  have hl3 := HT.out.1.lt
  refine (HLS.out w3.heap.size (w.heap.size + 1) w2.heap.size _ ⟨.slice none 0 0, Arr.new w3 22 [.slice none 0 0], (fun l e => by cases e), HT.out.2.2.1.alloc _, HT.out.1.alloc _, by omega, by omega⟩).mono ?_
  rintro e w5 ⟨rfl, hI5, hg5⟩
  have hB4 := HT.out.2.2.2.alloc HT.out.2.2.2.size (.cells #[.slice none 0 0] 22)
  have HX := hid (hB4.grown hg5 hB4.size (fun k h => by cases h; exact HT.out.2.2.2.size))
  obtain ⟨v, h1, h2, _⟩ := hI5
  have k5 := h1.cell 0
  simp only [List.getElem?_cons_zero] at k5
  have HV := hid (h2 r rfl).1
  clear h1 h2 hg5 hB4
  go_wp2
  go_ret2
  exact ⟨⟨_, rfl, HV.out⟩, HX.out⟩

set_option maxHeartbeats 1000000 in
set_option maxRecDepth 100000 in
theorem first_no {g : FuncId} {wt : List Int → Bool} (S : Nat) (u : Value) (l : List Int) (w : World) (Wn : Want g (beB S l (S * S)) S wt) (hu : Sl w u l) (hi64 : ∀ x ∈ l, I64 x) (h : tE S l = 0) (hS1 : 1 ≤ S) (hS9 : S ≤ 9) (hlen : l.length = S * S) (hf : (comp S (beB S l (S * S)) S []).find? wt = none) :
    Calls Try.prog 32 #[sqV S u, .func (.func g) #[] #[]] w fun e w' => e = .returned (.tuple #[.slice none 0 0, .int .i64 4]) ∧ Below w.heap.size w w' := by
  have HOP := hid (fun w1 (hb : Below w.heap.size w w1) => open_ok S u l w1 (hu.below hb) hi64 h hS1 hS9 hlen)
  obtain ⟨ax, cx, e1⟩ := hu.len
  subst e1
  generalize l.length = N at *
  unfold tabV at HOP
  obtain ⟨SB, hSB⟩ : ∃ SB, beB S l (S * S) = SB := ⟨_, rfl⟩
  rw [hSB] at HOP hf Wn
  have hcl := comp_len (N := S) SB S []
  have hp9 := pow99 hS9
  have HLS := hid (fun bx bw bt w1 (hI : InvF bx bw bt g SB none w1) => tlists_any (contF Wn bx bw bt) SB hS9 S [] (.slice none 0 0) none w1 (by simp) (fun x hx => by cases hx) (Sl.nil' _ _) (fun a n c e => by cases e) hI (by show 0 + _ ≤ _; omega))
  have hfn := foldF_no _ none hf
  obtain ⟨o5, h5⟩ : ∃ o, foldU (stepF wt) none (comp S SB S []) = (o, false) := ⟨_, Prod.ext rfl hfn⟩
  rw [h5] at HLS
  clear h5 hfn
  have HZT := zeroT
  have hA0 := (Arr.new w 24 [.int .i64 (S : Int), .slice ax N cx]).alloc (.cells #[.func (.func g) #[] #[]] 52)
  have hW0 : Arr ((w.alloc (.cells #[.int .i64 (S : Int), .slice ax N cx] 24)).alloc (.cells #[.func (.func g) #[] #[]] 52)) (w.heap.size + 1) 52 [.func (.func g) #[] #[]] := by
    have := Arr.new (w.alloc (.cells #[.int .i64 (S : Int), .slice ax N cx] 24)) 52 [.func (.func g) #[] #[]]
    rw [World.size_alloc] at this
    exact this
  have hb0 := ((Below.refl w.heap.size w).alloc (Nat.le_refl _) (.cells #[.int .i64 (S : Int), .slice ax N cx] 24)).alloc (by simp) (.cells #[.func (.func g) #[] #[]] 52)
  have HW0 := hid (And.intro hA0 (And.intro hW0 hb0))
  have r1 := hA0.range
  have i2 : (Try.prog.info? 24).map (·.size) = some 2 := by kernel_rfl
  clear hu hi64 h hcl hp9 hSB hlen hA0 hW0 hb0 hf Wn
  unfold sqV at HOP
  unfold sqV
  go_enter Try.func32, Try.ntmps32
  go_wp2_with fail
  refine (HOP.out _ HW0.out.2.2).mono ?_
  rintro e w2 ⟨rfl, hb2⟩
  have hA2 := HW0.out.1.below hb2
  have hW2 := HW0.out.2.1.below hb2
  have hB2 := HW0.out.2.2.trans (hb2.mono HW0.out.2.2.size)
  have hs2 := hB2.size
  have hlt2 := hW2.lt
  have hB3 := hB2.alloc hB2.size (.cells (boolS 81 fun _ => false).toArray 51)
  have hA3 := Arr.new w2 51 (boolS 81 fun _ => false)
  have i3 : (Try.prog.info? 51).map (·.size) = some (boolS 81 SB).toArray.size := by rw [List.size_toArray, boolS_len]; kernel_rfl
  have i1 : (Try.prog.info? 51).map (·.size) = some (boolS 81 SB).length := by rw [boolS_len]; kernel_rfl
  have t8 : (w2.alloc (.cells (boolS 81 fun _ => false).toArray 51)).there w2.heap.size 0 (boolS 81 SB).toArray.size := by
    have := hA3.there
    rw [boolS_len] at this
    have hsz : (boolS 81 SB).toArray.size = 81 := List.size_toArray.trans (boolS_len 81 _)
    rw [hsz]
    exact this
  have hone := bool81_one SB
  have hg9 := grown_setCells (b := w2.heap.size) (boolS 81 SB) 0 (w2.alloc (.cells (boolS 81 fun _ => false).toArray 51))
  have hF9 : Arr ((w2.alloc (.cells (boolS 81 fun _ => false).toArray 51)).setCells w2.heap.size 0 (boolS 81 SB)) w2.heap.size 51 (boolS 81 SB) := Arr.setCells (boolS 81 SB) [] _ _ hA3 ((boolS_len 81 _).trans (boolS_len 81 SB).symm)
  have hQ9 := (hA2.alloc (.cells (boolS 81 fun _ => false).toArray 51)).kept hg9 (fun e => by have : w.heap.size = w2.heap.size := Option.some.inj e; omega)
  have hW9 := (hW2.alloc (.cells (boolS 81 fun _ => false).toArray 51)).kept hg9 (fun e => by have : w.heap.size + 1 = w2.heap.size := Option.some.inj e; omega)
  have HT := hid (And.intro hF9 (And.intro hQ9 (And.intro hW9 (hB3.grown hg9 hB3.size (fun k h => by cases h; exact hs2)))))
  clear hB2 hB3 hA3 hb2 HW0 HOP r1 hg9 hA2 hF9 hQ9 hW2 hW9
  go_wp2_with (first
    | (refine wpList_store_mid rfl 51 _ _ rfl w2.heap.size 0 (boolS 81 SB).toArray rfl rfl t8 i3 hone ?_; show wpList _ _ _ _ _ ((w2.alloc (.cells (boolS 81 fun _ => false).toArray 51)).setCells w2.heap.size 0 (boolS 81 SB)); generalize (w2.alloc (.cells (boolS 81 fun _ => false).toArray 51)).setCells w2.heap.size 0 (boolS 81 SB) = w3 at *; have r4 := (HT.out.1.alloc (.cells #[.slice none 0 0] 22)).range; have k4 := (HT.out.2.1.alloc (.cells #[.slice none 0 0] 22)).cell 0; simp only [List.getElem?_cons_zero] at k4)
    | (refine wpList_load_mid rfl 51 _ rfl w2.heap.size 0 rfl (boolS 81 SB) _ r4 Try.underlying51 rfl i1 ?_))
  have hl3 := HT.out.1.lt
  refine (HLS.out w3.heap.size (w.heap.size + 1) w2.heap.size _ ⟨.slice none 0 0, Arr.new w3 22 [.slice none 0 0], (fun l e => by cases e), HT.out.2.2.1.alloc _, HT.out.1.alloc _, by omega, by omega⟩).mono ?_
  rintro e w5 ⟨rfl, hI5, hg5⟩
  have hB4 := HT.out.2.2.2.alloc HT.out.2.2.2.size (.cells #[.slice none 0 0] 22)
  have HX := hid (hB4.grown hg5 hB4.size (fun k h => by cases h; exact HT.out.2.2.2.size))
  clear hI5 hg5 hB4
  go_wp2
  go_ret2
  exact ⟨rfl, HX.out⟩

end Go.Proofs.Ythbpdfkaacgpoaa
