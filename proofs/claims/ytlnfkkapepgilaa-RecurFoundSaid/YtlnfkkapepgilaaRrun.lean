/-
  The walk over recur.Run. Conditions: the slices can be read.
-/
import Derived.Test.YtlnfkkapepgilaaRgen
import Derived.Maps.OwnIn
namespace Go.Proofs.Ytlnfkkapepgilaa
set_option linter.unusedVariables false
open Go.RowKit

attribute [local go_sem] Oper.semAt_some

theorem Run_fault (p : Int) (v u : Value) (taps seed : List Int) (n : Int) (w : World) (hv : Sl w v taps) (hu : Sl w u seed) (hb : ∀ x ∈ taps, I64 x) (hb2 : ∀ x ∈ seed, I64 x) (h : runE p taps seed ≠ 0) :
    Calls Try.prog 27 #[.int .i64 p, v, u, .int .i64 n] w fun e w' => e = .returned (.tuple #[.slice none 0 0, .int .i64 (runE p taps seed)]) ∧ Below w.heap.size w w' := by
  have hq : (runE p taps seed != 0) = true := by simpa using h
  have hb0 : Below w.heap.size w (w.alloc (.cells #[.int .i64 n] 3)) := (Below.refl _ _).alloc (Nat.le_refl _) _
  have HC := hid (rcheck2_any p v u taps seed _ (hv.below hb0) (hu.below hb0) hb hb2)
  generalize runE p taps seed = z at *
  have HB0 := hid hb0
  clear hb0 h hb hb2
  go_enter Try.func27, Try.ntmps27
  go_wp2_with fail
  refine HC.out.mono ?_
  rintro e w1 ⟨rfl, hb1⟩
  go_wp2
  go_ret2
  exact ⟨rfl, HB0.out.trans (hb1.mono HB0.out.size)⟩

theorem Run_range (p : Int) (v u : Value) (taps seed : List Int) (n : Int) (w : World) (hv : Sl w v taps) (hu : Sl w u seed) (hb : ∀ x ∈ taps, I64 x) (hb2 : ∀ x ∈ seed, I64 x) (h : runE p taps seed = 0) (hn : n < 0 ∨ 5000 < n) :
    Calls Try.prog 27 #[.int .i64 p, v, u, .int .i64 n] w fun e w' => e = .returned (.tuple #[.slice none 0 0, .int .i64 1]) ∧ Below w.heap.size w w' := by
  have hb0 : Below w.heap.size w (w.alloc (.cells #[.int .i64 n] 3)) := (Below.refl _ _).alloc (Nat.le_refl _) _
  have HC := hid (rcheck2_any p v u taps seed _ (hv.below hb0) (hu.below hb0) hb hb2)
  rw [h] at HC
  have HB0 := hid hb0
  clear hb0 h hb hb2
  rcases hn with hn | hn
  all_goals
    go_enter Try.func27, Try.ntmps27
    go_wp2_with fail
    refine HC.out.mono ?_
    rintro e w1 ⟨rfl, hb1⟩
    have c1 : w1.cell? ⟨w.heap.size, 0, none⟩ = some (.int .i64 n) := (hb1.cell (p := ⟨w.heap.size, 0, none⟩) (by simp)).trans (lit_cell _ _ _)
    go_wp2
    go_ret2
    exact ⟨rfl, HB0.out.trans (hb1.mono HB0.out.size)⟩

theorem Run_zero (p : Int) (v u : Value) (taps seed : List Int) (w : World) (hv : Sl w v taps) (hu : Sl w u seed) (hb : ∀ x ∈ taps, I64 x) (hb2 : ∀ x ∈ seed, I64 x) (h : runE p taps seed = 0) :
    Calls Try.prog 27 #[.int .i64 p, v, u, .int .i64 0] w fun e w' => e = .returned (.tuple #[.slice none 0 0, .int .i64 0]) ∧ Below w.heap.size w w' := by
  have hb0 : Below w.heap.size w (w.alloc (.cells #[.int .i64 0] 3)) := (Below.refl _ _).alloc (Nat.le_refl _) _
  have HC := hid (rcheck2_any p v u taps seed _ (hv.below hb0) (hu.below hb0) hb hb2)
  rw [h] at HC
  have HB0 := hid hb0
  clear hb0 h hb hb2
  go_enter Try.func27, Try.ntmps27
  go_wp2_with fail
  refine HC.out.mono ?_
  rintro e w1 ⟨rfl, hb1⟩
  have c1 : w1.cell? ⟨w.heap.size, 0, none⟩ = some (.int .i64 0) := (hb1.cell (p := ⟨w.heap.size, 0, none⟩) (by simp)).trans (lit_cell _ _ _)
  go_wp2
  go_ret2
  exact ⟨rfl, HB0.out.trans (hb1.mono HB0.out.size)⟩

theorem Boxed.in_grown {W W' : World} {B : Nat} {t : TypeId} {v : Value} {row : Option Nat} (h : Boxed W B t v) (hg : W.grownBy W' row) (hne : row ≠ some B) : Boxed W' B t v := h.kept hg (fun e => hne e.symm)
theorem grown_trans {A B C : World} {r row : Option Nat} (h : A.grownBy B r) (g : B.grownBy C row) (hr : ∀ q, row = some q → q < A.heap.size → r = some q) : A.grownBy C r :=
  ⟨g.os.trans h.os, g.tape.trans h.tape, g.output.trans h.output, Nat.le_trans h.size g.size, fun k hk hne => by
    have hs := h.size
    rw [g.block k (by omega) (fun e => hne (hr k e.symm hk).symm)]
    exact h.block k hk hne⟩

theorem OI.cells_at {B : Nat} {w : World} {v : Value} {l : List Int} (h : OI B w v l) : ∀ g, v.ownBlock = some g → ∃ o : Obj, w.heap[g]? = some o ∧ o.isCells = true := by
  intro g hg
  rcases h.2 with ⟨rfl, _⟩ | ⟨g', cap, cur, rfl, _, hgb, _⟩
  · simp [Value.ownBlock] at hg
  · simp [Value.ownBlock] at hg
    subst hg
    exact ⟨_, hgb, rfl⟩

/-- 'out = append(out, x)', out in a box. -/
theorem box_append {A C : World} {n0 o L : Nat} {q v' : Value} {xs : List Int} {x : Int} {tmp : Obj} (hq : OI n0 A q xs) (hbx : Boxed A o 30 q) (ho : o < n0) (hn0 : n0 ≤ A.heap.size)
    (hown : C.ownsRow n0 3 1 v' L (xs.map (Value.int .i64) ++ [.int .i64 x])) (hL : L = xs.length + 1) (hg : (A.alloc tmp).grownBy C q.ownBlock) (hat : v'.ownBlock = q.ownBlock ∨ v'.ownBlock = some (A.alloc tmp).heap.size) :
    Boxed C o 30 q ∧ Boxed (C.setCell ⟨o, 0, none⟩ v') o 30 v' ∧ OI n0 (C.setCell ⟨o, 0, none⟩ v') v' (xs ++ [x]) ∧ (∀ V : World, V.heap.size = n0 → V.grownBy A (some o) → V.grownBy (C.setCell ⟨o, 0, none⟩ v') (some o)) ∧
      KeepsOthers A (C.setCell ⟨o, 0, none⟩ v') ∧ (∀ B, n0 ≤ B → Rest B A (C.setCell ⟨o, 0, none⟩ v') q) ∧ OwnStep A q v' := by
  have hqo : q.ownBlock ≠ some o := fun e => by have := (hq.lt o e).1; omega
  have hb1 : Boxed C o 30 q := (hbx.alloc tmp).kept hg (fun e => hqo e.symm)
  have hC : OI n0 C v' (xs ++ [x]) := by
    unfold OI Ow
    rw [List.map_append, List.map_cons, List.map_nil, List.length_append, List.length_map, List.length_cons, List.length_nil, ← hL]
    exact hown
  have hvo : v'.ownBlock ≠ some o := fun e => by have := (hC.lt o e).1; omega
  have hsz : A.heap.size + 1 ≤ C.heap.size := by have := hg.size; simpa using this
  have hss : (C.setCell ⟨o, 0, none⟩ v').heap.size = C.heap.size := by show (C.heap.modify o _).size = _; rw [Array.size_modify]
  refine ⟨hb1, hb1.set v', hC.kept (grownBy_setCell' C o v') (.inr hvo), ?_, ?_, ?_, ?_⟩
  · intro V hV hgA
    refine grown_trans (grown_trans (grown_trans hgA (World.grownBy_alloc A tmp none) (fun _ e => by cases e)) hg (fun r e hr => ?_)) (grownBy_setCell' C o v') (fun r e _ => by cases e; rfl)
    have := (hq.lt r e).1
    omega
  · refine ((KeepsOthers.alloc A tmp).trans (KeepsOthers.of_grownBy hg fun j ob ej hj => ?_)).trans (KeepsOthers.setCell _ _ _)
    obtain ⟨o2, h2, h3⟩ := (hq.alloc tmp).cells_at j ej
    rw [hj] at h2
    cases h2
    exact h3
  · intro B hB
    refine ⟨by omega, fun r h1 h2 h3 => ?_⟩
    rw [Below.heap_setCell C ⟨o, 0, none⟩ v' r (by simp; omega), hg.block r (by simp; omega) (fun e => h3 e.symm)]
    exact Below.heap_alloc A tmp r h2
  · intro g e
    rcases hat with h | h
    · left; rw [← h]; exact e
    · right
      rw [h] at e
      simp at e
      omega

set_option maxRecDepth 100000 in
set_option maxHeartbeats 2000000 in
theorem Run_ok (p : Int) (v u : Value) (taps seed : List Int) (n : Nat) (w : World) (hv : Sl w v taps) (hu : Sl w u seed) (hb : ∀ x ∈ taps, I64 x) (hb2 : ∀ x ∈ seed, I64 x) (h : runE p taps seed = 0) (hn1 : 1 ≤ n) (hn2 : n ≤ 5000) :
    Calls Try.prog 27 #[.int .i64 p, v, u, .int .i64 n] w fun e w' => (∃ r, e = .returned (.tuple #[r, .int .i64 0]) ∧ OI w.heap.size w' r (rowL p taps seed n)) ∧ Below w.heap.size w w' := by
  have R := runE_ok h
  have hb0 : Below w.heap.size w (w.alloc (.cells #[.int .i64 n] 3)) := (Below.refl _ _).alloc (Nat.le_refl _) _
  have HC := hid (rcheck2_any p v u taps seed _ (hv.below hb0) (hu.below hb0) hb hb2)
  rw [h] at HC
  have HV := hid hv
  have HU := hid hu
  obtain ⟨a1, c1, N1, rfl, hN1, hl1, _⟩ := hv.open
  obtain ⟨a2, c2, N2, rfl, hN2, hl2, _⟩ := hu.open
  have HR := hid R
  have HB0 := hid hb0
  clear hb0 h hb hb2 hv hu R
  obtain ⟨i0, hi, hz0, hz1, hz2⟩ := info_parts Try.info3
  refine callsIn_wide.1 (callsIn_of_wp_marks (F := Fence.wide) (n := 0) Try.func27 rfl trivial ?_)
  refine wpIn_wide.2 ?_
  simp only [Try.ntmps27, List.size_toArray, List.length_cons, List.length_nil, Nat.reduceAdd, Nat.reduceSub, Array.replicate_succ, Array.replicate_zero, List.push_toArray, List.append_toArray, List.nil_append, List.cons_append]
  have hn0 : ((n : Int) == 0) = false := by simp; omega
  go_wp2_with fail
  refine HC.out.mono ?_
  rintro e w1 ⟨rfl, hb1⟩
  have c1' : w1.cell? ⟨w.heap.size, 0, none⟩ = some (.int .i64 n) := (hb1.cell (p := ⟨w.heap.size, 0, none⟩) (by simp)).trans (lit_cell _ _ _)
  have hz1' : w.heap.size + 1 ≤ w1.heap.size := by have := hb1.size; simpa using this
  have HB1 := hid (HB0.out.trans (hb1.mono HB0.out.size))
  go_wp2_with fail
  refine (row_make p a1 a2 N1 c1 N2 c2 _).mono ?_
  rintro e w2 ⟨rfl, hw2⟩
  have hs2 : w2.heap.size = w1.heap.size + 4 := by rw [hw2]; simp
  have hbo : Boxed w2 w1.heap.size 30 (.slice none 0 0) := by
    rw [hw2]
    exact (((Boxed.new w1 30 (.slice none 0 0)).alloc _).alloc _).alloc _
  have hb2 : Below w.heap.size w w2 := by
    rw [hw2]
    exact ((((HB1.out.alloc HB1.out.size _).alloc (by simp; omega) _).alloc (by simp; omega) _).alloc (by simp; omega) _)
  have hcn : w2.cell? ⟨w.heap.size, 0, none⟩ = some (.int .i64 n) := by
    rw [hw2]
    have h1 : Below w1.heap.size w1 ((((w1.alloc (.cells #[.slice none 0 0] 30)).alloc (.cells #[.int .i64 p] 3)).alloc (.cells #[.slice a1 N1 c1] 30)).alloc (.cells #[.slice a2 N2 c2] 30)) :=
      ((((Below.refl _ _).alloc (Nat.le_refl _) _).alloc (by simp) _).alloc (by simp; omega) _).alloc (by simp; omega) _
    exact (h1.cell (p := ⟨w.heap.size, 0, none⟩) hz1').trans c1'
  have hbp : Boxed w2 (w1.heap.size + 1) 3 (.int .i64 p) := by
    rw [hw2]
    have := ((Boxed.new (w1.alloc (.cells #[.slice none 0 0] 30)) 3 (.int .i64 p)).alloc (.cells #[.slice a1 N1 c1] 30)).alloc (.cells #[.slice a2 N2 c2] 30)
    rwa [World.size_alloc] at this
  have hbt : Boxed w2 (w1.heap.size + 1 + 1) 30 (.slice a1 N1 c1) := by
    rw [hw2]
    have := (Boxed.new ((w1.alloc (.cells #[.slice none 0 0] 30)).alloc (.cells #[.int .i64 p] 3)) 30 (.slice a1 N1 c1)).alloc (.cells #[.slice a2 N2 c2] 30)
    rwa [World.size_alloc, World.size_alloc] at this
  have hbs : Boxed w2 (w1.heap.size + 1 + 1 + 1) 30 (.slice a2 N2 c2) := by
    rw [hw2]
    have := Boxed.new (((w1.alloc (.cells #[.slice none 0 0] 30)).alloc (.cells #[.int .i64 p] 3)).alloc (.cells #[.slice a1 N1 c1] 30)) 30 (.slice a2 N2 c2)
    rwa [World.size_alloc, World.size_alloc, World.size_alloc] at this
  have HBO := hid hbo
  have HB2 := hid hb2
  have HCN := hid hcn
  have HBP := hid hbp
  have HBT := hid hbt
  have HBS := hid hbs
  clear hw2 hbo hb2 hcn hbp hbt hbs hb1 c1'
  simp only [World.size_alloc]
  go_wp2_with fail
  have grown : ∀ (A : World), w2.grownBy A (some w1.heap.size) → RowSrc p taps seed (w1.heap.size + 1 + 1 + 1) (w1.heap.size + 1 + 1) (w1.heap.size + 1) (.slice a2 N2 c2) (.slice a1 N1 c1) A ∧ Below w.heap.size w A ∧ A.cell? ⟨w.heap.size, 0, none⟩ = some (.int .i64 n) := by
    intro A hg
    have hbA : Below w.heap.size w A := HB2.out.grown hg HB2.out.size (fun k e => by cases e; omega)
    refine ⟨⟨(HBP.out.kept hg (by simp)).cell, (HBT.out.kept hg (by simp; omega)).cell, (HBS.out.kept hg (by simp; omega)).cell, HV.out.below hbA, HU.out.below hbA⟩, hbA, ?_⟩
    refine (World.cell?_of_block (hg.block w.heap.size (by omega) ?_)).trans HCN.out
    intro e
    simp at e
    omega
  have GR := hid grown
  clear grown
  refine range_ever (gf := 53) (lb := #[.pointer (some ⟨w1.heap.size + 1 + 1 + 1, 0, none⟩), .pointer (some ⟨w1.heap.size + 1 + 1, 0, none⟩), .pointer (some ⟨w1.heap.size + 1, 0, none⟩)]) rfl
    (run_callFunc_own Try.func53 (by kernel_rfl) (by kernel_rfl)) rfl (row_ever p taps seed HR.out _ _ _ (.slice a2 N2 c2) (.slice a1 N1 c1) n)
    (fun k q A => k < n ∧ OI w2.heap.size A q (rowL p taps seed k) ∧ Boxed A w1.heap.size 30 q ∧ w2.grownBy A (some w1.heap.size))
    (fun c k q A => c = .exit 1 ∧ OI w2.heap.size A q (rowL p taps seed n) ∧ Boxed A w1.heap.size 30 q ∧ w2.grownBy A (some w1.heap.size))
    ?_ ?_ ?_ ?_ ?_ ?a1 ?assign ?body ?stop
  case assign =>
    intro l x W K hK
    gi_wp2
    exact hK
  · rintro k q A C row ⟨h1, h2, h3, h4⟩ hg hr
    refine ⟨h1, h2.kept hg ?_, h3.kept hg (fun e => ?_), grown_trans h4 hg (fun r e hlt => ?_)⟩
    · cases hqo : q.ownBlock with
      | none => exact .inl rfl
      | some g => exact .inr fun e => (hr g e.symm).2 hqo
    · have := (hr _ e.symm).1; omega
    · have := (hr r e).1; omega
  · rintro c k q A C row ⟨h1, h2, h3, h4⟩ hg hr
    refine ⟨h1, h2.kept hg ?_, h3.kept hg (fun e => ?_), grown_trans h4 hg (fun r e hlt => ?_)⟩
    · cases hqo : q.ownBlock with
      | none => exact .inl rfl
      | some g => exact .inr fun e => (hr g e.symm).2 hqo
    · have := (hr _ e.symm).1; omega
    · have := (hr r e).1; omega
  · rintro k q A ⟨h1, h2, h3, h4⟩
    exact ⟨(GR.out A h4).1, h1, h2.cells_at⟩
  · rintro c k q A ⟨h1, h2, h3, h4⟩
    exact h2.cells_at
  · exact ⟨by omega, OI.nil _ _, HBO.out, ⟨rfl, rfl, rfl, Nat.le_refl _, fun _ _ _ => rfl⟩⟩
  case body =>
    rintro l k q W ⟨h1, h2, h3, h4⟩
    have hc := h3.cell
    obtain ⟨_, g2, g3⟩ := GR.out W h4
    have hW := h4.size
    have hrl := rowL_len p taps seed k
    have hrow : W.ownsRow w2.heap.size 3 1 q ((rowL p taps seed k).map (Value.int .i64)).length ((rowL p taps seed k).map (Value.int .i64)) := h2
    have HX := hid (And.intro h1 (And.intro h2 (And.intro h3 h4)))
    have HRL : Hid (rowL p taps seed (k + 1) = rowL p taps seed k ++ [rowF p taps seed k]) := hid (by rw [row_list, row_list, List.range_succ, List.map_append]; rfl)
    rw [List.length_map, hrl] at hrow
    have HL := hid hrl
    clear h2 h3 h4 hrl
    generalize rowL p taps seed k = xs at *
    generalize rowF p taps seed k = x at *
    have hne1 : ¬ w.heap.size = w1.heap.size := by omega
    have hne2 : ¬ w1.heap.size = w.heap.size := by omega
    by_cases hkn : k + 1 = n
    · have hbt : ((k : Int) + 1 == (n : Int)) = true := by rw [beq_iff_eq]; omega
      have HKN := hid hkn
      clear hkn
      gi_wp2_with (gi_at_builtin; (refine wpListIn_append_own_at _ rfl _ _ 30 rfl w2.heap.size 3 i0 (.int .i64 0) 1 8 Try.underlying30 hi hz0 hz1 hz2 rfl (by decide) _ _ _ rfl (hrow.alloc _) ⟨W.heap.size, 0, none⟩ 1 1 [.int .i64 x] rfl rfl (cell_one_new _ _ _) (by simp [Value.oneCell']) (by unfold maxLen; omega) (by omega) (by simp; omega) ?_; intro v' w3 hown3 hg3 _ hat3; obtain ⟨g', cap', rfl⟩ := ownsRow_succ hown3; obtain ⟨b1, b2, b3, b4, b5, b6, b7⟩ := box_append HX.out.2.1 HX.out.2.2.1 (by omega) hW hown3 (by rw [HL.out]) hg3 hat3; have e1 := b1.cell; have e2 := b1.frozen; have e3 : w3.cell? ⟨w.heap.size, 0, none⟩ = some (.int .i64 n) := (World.cell?_of_block (hg3.block w.heap.size (by simp; omega) (fun e => by have := (HX.out.2.1.lt _ e.symm).1; omega))).trans (((Below.refl _ W).alloc (Nat.le_refl _) _).cell (p := ⟨w.heap.size, 0, none⟩) (by simp; omega) |>.trans g3)))
      exact ⟨b5, _, rfl, b3.cast (by rw [← HKN.out, HRL.out]), b2, b4 w2 rfl HX.out.2.2.2⟩
    · have hbt : ((k : Int) + 1 == (n : Int)) = false := by rw [beq_eq_false_iff_ne]; omega
      gi_wp2_with (gi_at_builtin; (refine wpListIn_append_own_at _ rfl _ _ 30 rfl w2.heap.size 3 i0 (.int .i64 0) 1 8 Try.underlying30 hi hz0 hz1 hz2 rfl (by decide) _ _ _ rfl (hrow.alloc _) ⟨W.heap.size, 0, none⟩ 1 1 [.int .i64 x] rfl rfl (cell_one_new _ _ _) (by simp [Value.oneCell']) (by unfold maxLen; omega) (by omega) (by simp; omega) ?_; intro v' w3 hown3 hg3 _ hat3; obtain ⟨g', cap', rfl⟩ := ownsRow_succ hown3; obtain ⟨b1, b2, b3, b4, b5, b6, b7⟩ := box_append HX.out.2.1 HX.out.2.2.1 (by omega) hW hown3 (by rw [HL.out]) hg3 hat3; have e1 := b1.cell; have e2 := b1.frozen; have e3 : w3.cell? ⟨w.heap.size, 0, none⟩ = some (.int .i64 n) := (World.cell?_of_block (hg3.block w.heap.size (by simp; omega) (fun e => by have := (HX.out.2.1.lt _ e.symm).1; omega))).trans (((Below.refl _ W).alloc (Nat.le_refl _) _).cell (p := ⟨w.heap.size, 0, none⟩) (by simp; omega) |>.trans g3)))
      exact ⟨b5, _, ⟨by omega, b3.cast (by rw [HRL.out]), b2, b4 w2 rfl HX.out.2.2.2⟩, b6 _ (by omega), b7⟩
  case stop =>
    rintro D c k q W hD ⟨rfl, h2, h3, h4⟩ hK
    have hc := h3.cell
    obtain ⟨_, g2, g3⟩ := GR.out W h4
    have HX := hid (And.intro h2 g2)
    have HKD := hid hK
    have HD := hid hD
    clear h2 h3 h4 g2 hK
    go_wp2
    refine ⟨by simp, .inl ⟨_, _, rfl, run_takeDeferred HKD.out, ?_⟩⟩
    refine ⟨.tuple #[q, .int .i64 0], ?_, ⟨q, rfl, ?_⟩, ?_⟩
    · simp [results, Try.f27, go_sem]
    · refine (OI.kept HX.out.1 (grownBy_putObj' W D (.deferred none)) (.inr fun e => ?_)).mono (by omega)
      obtain ⟨o2, h2, h3⟩ := HX.out.1.cells_at D e
      rw [HKD.out] at h2
      cases h2
      cases h3
    · exact HX.out.2.grown (grownBy_putObj' W D (.deferred none)) HX.out.2.size (fun k e => by cases e; have := HD.out; omega)
end Go.Proofs.Ytlnfkkapepgilaa
