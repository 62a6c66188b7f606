/-
  The walks over recur.period and recur.Period. Conditions: the slices can be read; ranges as each theorem states.
-/
import Derived.Test.YtlnfkkapepgilaaRpof
import Derived.Test.YtlnfkkapepgilaaRrun
import Derived.Test.YtlnfkkapepgilaaStillIn
import Derived.Test.YtlnfkkapepgilaaReg14
import Derived.Deep.RegionHeld
namespace Go.Proofs.Ytlnfkkapepgilaa
set_option linter.unusedVariables false
open Go.RowKit

attribute [local go_sem] Oper.semAt_some

/-- The boxes of recur.period, apart. -/
structure PerD (b4 b7 b8 b9 b10 b13 b14 g : Nat) : Prop where
  h1 : b4 < b7
  h2 : b7 < b8
  h3 : b8 < b9
  h4 : b9 < g
  h5 : g < b10
  h6 : b10 < b13
  h7 : b13 < b14
structure PerSt (A : World) (b4 b7 b8 b9 b10 b13 b14 g : Nat) (p : Int) (S : Nat) (at' win : Int) (F : List Int) : Prop where
  c4 : Boxed A b4 3 (.int .i64 p)
  c7 : Boxed A b7 3 (.int .i64 S)
  c8 : Boxed A b8 3 (.int .i64 0)
  c9 : Boxed A b9 3 (.int .i64 0)
  c10 : Boxed A b10 30 (.slice (some ⟨g, 0, none⟩) S S)
  c13 : Boxed A b13 3 (.int .i64 at')
  c14 : Boxed A b14 3 (.int .i64 win)
  own : OI g A (.slice (some ⟨g, 0, none⟩) S S) F
section
variable {A C : World} {b4 b7 b8 b9 b10 b13 b14 g S : Nat} {p at' win : Int} {F : List Int}
theorem PerSt.kept {row : Option Nat} {B : Nat} (h : PerSt A b4 b7 b8 b9 b10 b13 b14 g p S at' win F) (d : PerD b4 b7 b8 b9 b10 b13 b14 g) (hB : b14 < B) (hg : A.grownBy C row) (hr : ∀ r, row = some r → B ≤ r) : PerSt C b4 b7 b8 b9 b10 b13 b14 g p S at' win F := by
  have := d.h1; have := d.h2; have := d.h3; have := d.h4; have := d.h5; have := d.h6; have := d.h7
  refine ⟨h.c4.kept hg fun e => ?_, h.c7.kept hg fun e => ?_, h.c8.kept hg fun e => ?_, h.c9.kept hg fun e => ?_, h.c10.kept hg fun e => ?_, h.c13.kept hg fun e => ?_, h.c14.kept hg fun e => ?_, h.own.kept hg (.inr fun e => by have := hr g (by rw [← e]; rfl); omega)⟩
  all_goals (have := hr _ e.symm; omega)
theorem PerSt.drew (h : PerSt A b4 b7 b8 b9 b10 b13 b14 g p S at' win F) (n : Nat) : PerSt { A with drawn := n } b4 b7 b8 b9 b10 b13 b14 g p S at' win F := ⟨h.c4, h.c7, h.c8, h.c9, h.c10, h.c13, h.c14, h.own⟩
theorem PerSt.cells {c : Nat} {a : Int} (h : PerSt A b4 b7 b8 b9 b10 b13 b14 g p S at' (c : Int) F) (hc : A.cell? ⟨g, c, none⟩ = some (.int .i64 a)) : Cells14 b8 b9 b10 b13 b14 g c S a at' A :=
  ⟨h.c10.cell, h.c13.cell, h.c14.cell, hc, ⟨_, h.c8.cell⟩, h.c8.frozen, ⟨_, h.c9.cell⟩, h.c9.frozen⟩
theorem PerSt.cells' {c : Nat} {a : Int} (h : PerSt A b4 b7 b8 b9 b10 b13 b14 g p S at' (c : Int) F) (d : PerD b4 b7 b8 b9 b10 b13 b14 g) (hc : A.cell? ⟨g, c, none⟩ = some (.int .i64 a)) : Cells14 b8 b9 b10 b13 b14 g c S a at' (A.setCell ⟨b8, 0, none⟩ (.int .i64 a)) := by
  have := d.h1; have := d.h2; have := d.h3; have := d.h4; have := d.h5; have := d.h6; have := d.h7
  have hg := grownBy_setCell' A b8 (.int .i64 a)
  refine ⟨(h.c10.kept hg ?_).cell, (h.c13.kept hg ?_).cell, (h.c14.kept hg ?_).cell, ?_, ⟨_, (h.c8.set _).cell⟩, (h.c8.set _).frozen, ⟨_, (h.c9.kept hg ?_).cell⟩, (h.c9.kept hg ?_).frozen⟩
  · simp; omega
  · simp; omega
  · simp; omega
  · rw [← hc]
    exact World.cell?_setCell_far _ _ _ _ (by simp; omega)
  · simp; omega
  · simp; omega
theorem PerSt.setWin (h : PerSt A b4 b7 b8 b9 b10 b13 b14 g p S at' win F) (d : PerD b4 b7 b8 b9 b10 b13 b14 g) (x : Int) : PerSt (A.setCell ⟨b14, 0, none⟩ (.int .i64 x)) b4 b7 b8 b9 b10 b13 b14 g p S at' x F := by
  have := d.h1; have := d.h2; have := d.h3; have := d.h4; have := d.h5; have := d.h6; have := d.h7
  have hg := grownBy_setCell' A b14 (.int .i64 x)
  refine ⟨h.c4.kept hg ?_, h.c7.kept hg ?_, h.c8.kept hg ?_, h.c9.kept hg ?_, h.c10.kept hg ?_, h.c13.kept hg ?_, h.c14.set _, h.own.kept hg (.inr ?_)⟩
  all_goals (simp [Value.ownBlock]; omega)
theorem PerSt.setAt (h : PerSt A b4 b7 b8 b9 b10 b13 b14 g p S at' win F) (d : PerD b4 b7 b8 b9 b10 b13 b14 g) (x : Int) : PerSt (A.setCell ⟨b13, 0, none⟩ (.int .i64 x)) b4 b7 b8 b9 b10 b13 b14 g p S x win F := by
  have := d.h1; have := d.h2; have := d.h3; have := d.h4; have := d.h5; have := d.h6; have := d.h7
  have hg := grownBy_setCell' A b13 (.int .i64 x)
  refine ⟨h.c4.kept hg ?_, h.c7.kept hg ?_, h.c8.kept hg ?_, h.c9.kept hg ?_, h.c10.kept hg ?_, h.c13.set _, h.c14.kept hg ?_, h.own.kept hg (.inr ?_)⟩
  all_goals (simp [Value.ownBlock]; omega)
theorem PerSt.setFirst (h : PerSt A b4 b7 b8 b9 b10 b13 b14 g p S at' win F) (d : PerD b4 b7 b8 b9 b10 b13 b14 g) (i : Nat) (x : Int) : PerSt (A.setCell ⟨g, i, none⟩ (.int .i64 x)) b4 b7 b8 b9 b10 b13 b14 g p S at' win (F.set i x) := by
  have := d.h1; have := d.h2; have := d.h3; have := d.h4; have := d.h5; have := d.h6; have := d.h7
  obtain ⟨ho, hg⟩ := h.own.stored i x
  refine ⟨h.c4.kept hg ?_, h.c7.kept hg ?_, h.c8.kept hg ?_, h.c9.kept hg ?_, h.c10.kept hg ?_, h.c13.kept hg ?_, h.c14.kept hg ?_, ho⟩
  all_goals (simp; omega)
end

/-- What a round of recur.period leaves alone. -/
theorem rest_set {B : Nat} {A C : World} {u : Value} (h : Rest B A C u) (b i : Nat) (v : Value) (hb : b < B) : Rest B A (C.setCell ⟨b, i, none⟩ v) u :=
  ⟨by show A.heap.size ≤ (C.heap.modify b _).size; rw [Array.size_modify]; exact h.size, fun r h1 h2 h3 => (Below.heap_setCell C ⟨b, i, none⟩ v r (by simp; omega)).trans (h.same r h1 h2 h3)⟩
theorem rest_refl (B : Nat) (A : World) (u : Value) : Rest B A A u := ⟨Nat.le_refl _, fun _ _ _ _ => rfl⟩

/-- The codes of a row's windows, as the program keeps them. -/
def hcode (p : Int) (taps seed : List Int) (i : Nat) : Int := codeH p (winL p taps seed i)
/-- What is known of the windows up to the first that comes again. -/
structure PerK (p : Int) (taps seed : List Int) (K S a b : Nat) : Prop where
  kcode : ∀ i, 0 ≤ hcode p taps seed i ∧ hcode p taps seed i < S
  kroll : ∀ m, roll p S (rowF p taps seed) (m + K) = hcode p taps seed m
  krb : ∀ t, 0 ≤ roll p S (rowF p taps seed) t ∧ roll p S (rowF p taps seed) t < S
  kxb : ∀ t, 0 ≤ rowF p taps seed t ∧ rowF p taps seed t < p
  knone : ∀ m, m < a + b → (tab (-1) 0 (hcode p taps seed) S m).getD (hcode p taps seed m).toNat 0 = -1
  ksome : (tab (-1) 0 (hcode p taps seed) S (a + b)).getD (hcode p taps seed (a + b)).toNat 0 = a
  klen : ∀ m, (tab (-1) 0 (hcode p taps seed) S m).length = S
  kpos : 1 ≤ b
theorem perK {p : Int} {taps seed : List Int} {a b S : Nat} (R : Recur p taps seed) (P : PerOf p taps seed a b) (hS : p ^ seed.length = (S : Int)) : PerK p taps seed seed.length S a b := by
  have hp2 := R.p2
  have hb1 := P.pos
  have hk1 := R.k1
  have hlen := R.len
  have hcode : ∀ i, 0 ≤ hcode p taps seed i ∧ hcode p taps seed i < S := fun i => by
    have := codeH_bd (p := p) (by omega) _ (win_mem (taps := taps) (by omega) R.fs i)
    rw [win_len, hS] at this
    exact this
  have hpos := pow_pos' (p := p) (by omega) seed.length
  have hinj : ∀ i j, i < j → j < a + b → (Go.Proofs.Ytlnfkkapepgilaa.hcode p taps seed i).toNat ≠ (Go.Proofs.Ytlnfkkapepgilaa.hcode p taps seed j).toNat := fun i j h1 h2 e => by
    have e1 := hcode i
    have e2 := hcode j
    exact P.alone i j h1 h2 (codeH_inj (p := p) (by omega) _ _ (by rw [win_len, win_len]) (win_mem (by omega) R.fs i) (win_mem (by omega) R.fs j) (by unfold Go.Proofs.Ytlnfkkapepgilaa.hcode at *; omega))
  have hS' : ∀ i, (Go.Proofs.Ytlnfkkapepgilaa.hcode p taps seed i).toNat < S := fun i => by have := hcode i; omega
  refine ⟨hcode, fun m => ?_, fun t => ?_, fun t => rowF_bd (by omega) R.fs t, fun m hm => ?_, ?_, fun m => tab_len _ _ _ _ m, hb1⟩
  · rw [← hS]; exact roll_win (by omega) R.fs (by omega) m
  · cases t with
    | zero => simp only [roll]; omega
    | succ t => simp only [roll]; exact ⟨Int.emod_nonneg _ (by omega), Int.emod_lt_of_pos _ (by omega)⟩
  · exact tab_none (hS' m) m fun j hj => hinj j m hj hm
  · have h := tab_some (z := -1) (d := 0) (code := Go.Proofs.Ytlnfkkapepgilaa.hcode p taps seed) (S := S) (j := a) (a + b) (fun i _ => hS' i) hinj (by omega)
    have e : Go.Proofs.Ytlnfkkapepgilaa.hcode p taps seed (a + b) = Go.Proofs.Ytlnfkkapepgilaa.hcode p taps seed a := by unfold Go.Proofs.Ytlnfkkapepgilaa.hcode; rw [P.same]
    rw [e, h, Int.add_zero]

/-- Filled with -1 up to k. -/
def fillL (S k : Nat) : List Int := List.replicate k (-1) ++ List.replicate (S - k) 0
theorem fill_len {S k : Nat} (h : k ≤ S) : (fillL S k).length = S := by simp [fillL]; omega
theorem fill_set {S k : Nat} (h : k < S) : (fillL S k).set k (-1) = fillL S (k + 1) := by
  unfold fillL
  rw [List.set_append_right _ _ (by simp), List.length_replicate, Nat.sub_self, show S - k = (S - (k + 1)) + 1 by omega, List.replicate_succ, List.set_cons_zero, List.replicate_succ', List.append_assoc]
  rfl
theorem fill_all (S : Nat) (code : Nat → Int) : fillL S S = tab (-1) 0 code S 0 := by simp [fillL, tab]
theorem fill_none (S : Nat) : fillL S 0 = List.replicate S 0 := by simp [fillL]
/-- The boxes while the table is filled. -/
structure FillSt (A w : World) (b4 b7 b8 b9 b10 g : Nat) (p : Int) (S : Nat) (F : List Int) : Prop where
  c4 : Boxed A b4 3 (.int .i64 p)
  c7 : Boxed A b7 3 (.int .i64 S)
  c8 : Boxed A b8 3 (.int .i64 0)
  c9 : Boxed A b9 3 (.int .i64 0)
  c10 : Boxed A b10 30 (.slice (some ⟨g, 0, none⟩) S S)
  own : OI g A (.slice (some ⟨g, 0, none⟩) S S) F
  below : Below w.heap.size w A
theorem FillSt.set {A w : World} {b4 b7 b8 b9 b10 g S : Nat} {p : Int} {F : List Int} (h : FillSt A w b4 b7 b8 b9 b10 g p S F) (h1 : b4 < b7) (h2 : b7 < b8) (h3 : b8 < b9) (h4 : b9 < g) (h5 : g < b10) (hg : w.heap.size ≤ g) (i : Nat) (x : Int) : FillSt (A.setCell ⟨g, i, none⟩ (.int .i64 x)) w b4 b7 b8 b9 b10 g p S (F.set i x) := by
  obtain ⟨ho, hgr⟩ := h.own.stored i x
  refine ⟨h.c4.kept hgr ?_, h.c7.kept hgr ?_, h.c8.kept hgr ?_, h.c9.kept hgr ?_, h.c10.kept hgr ?_, ho, h.below.grown hgr h.below.size (fun k e => by cases e; exact hg)⟩
  all_goals (simp; omega)

set_option maxRecDepth 100000 in
set_option maxHeartbeats 4000000 in
theorem period_ok (p : Int) (v u : Value) (taps seed : List Int) (a b S : Nat) (w : World) (hv : Sl w v taps) (hu : Sl w u seed) (R : Recur p taps seed) (hS : p ^ seed.length = (S : Int)) (hz : S ≤ 20000) (P : PerOf p taps seed a b) (hab : a + b ≤ S) :
    Calls Try.prog 47 #[.int .i64 p, v, u, .int .i64 S] w fun e w' => e = .returned (.tuple #[.int .i64 a, .int .i64 b]) ∧ Below w.heap.size w w' := by
  have HK := hid (perK R P hS)
  have hp2 := R.p2
  have hp7 := R.p7
  have hk1 := R.k1
  have hk8 := R.k8
  have hlen := R.len
  have hpos := pow_pos' (p := p) (by omega) seed.length
  have hS1 : 1 ≤ S := by omega
  have HR := hid R
  have HV := hid hv
  have HU := hid hu
  obtain ⟨a1, c1, N1, rfl, hN1, hl1, _⟩ := hv.open
  obtain ⟨a2, c2, K, rfl, hK, hl2, _⟩ := hu.open
  rw [hK.out] at HK hlen
  have HL := hid hlen
  have hK1 : 1 ≤ K := by omega
  have hK8 : K ≤ 8 := by omega
  clear hlen P hS hv hu R hpos hk1 hk8
  refine callsIn_wide.1 (callsIn_of_wp_marks (F := Fence.wide) (n := 0) Try.func47 rfl trivial ?_)
  refine wpIn_wide.2 ?_
  simp only [Try.ntmps47, List.size_toArray, List.length_cons, List.length_nil, Nat.reduceAdd, Nat.reduceSub, Array.replicate_succ, Array.replicate_zero, List.push_toArray, List.append_toArray, List.nil_append, List.cons_append]
  go_wp2_with (at_make; refine wpList_mk (w := ((((w.alloc (.cells #[.int .i64 p] 3)).alloc (.cells #[.int .i64 S] 3)).alloc (.cells #[.int .i64 0] 3)).alloc (.cells #[.int .i64 0] 3))) _ _ 30 3 (.int .i64 0) 8 rfl rfl Try.underlying30 Try.info3 rfl (by decide) (w.heap.size + 4) _ S rfl rfl rfl (by omega) (by simp) ?_; intro w3 hs3 hgr3 hz3)
  obtain ⟨W5, hW5⟩ : ∃ W, w3.alloc (.cells #[.slice (some ⟨w.heap.size + 1 + 1 + 1 + 1, 0, none⟩) S S] 30) = W := ⟨_, rfl⟩
  have hz3' : w.heap.size + 4 < w3.heap.size := by simpa using hz3
  have hF0 : FillSt W5 w w.heap.size (w.heap.size + 1) (w.heap.size + 1 + 1) (w.heap.size + 1 + 1 + 1) w3.heap.size (w.heap.size + 1 + 1 + 1 + 1) p S (fillL S 0) := by
    have b4 := ((((Boxed.new w 3 (.int .i64 p)).alloc (.cells #[.int .i64 S] 3)).alloc (.cells #[.int .i64 0] 3)).alloc (.cells #[.int .i64 0] 3)).kept hgr3 (by simp)
    have b7 := (((Boxed.new (w.alloc (.cells #[.int .i64 p] 3)) 3 (.int .i64 S)).alloc (.cells #[.int .i64 0] 3)).alloc (.cells #[.int .i64 0] 3)).kept hgr3 (by simp)
    have b8 := ((Boxed.new ((w.alloc (.cells #[.int .i64 p] 3)).alloc (.cells #[.int .i64 S] 3)) 3 (.int .i64 0)).alloc (.cells #[.int .i64 0] 3)).kept hgr3 (by simp)
    have b9 := (Boxed.new (((w.alloc (.cells #[.int .i64 p] 3)).alloc (.cells #[.int .i64 S] 3)).alloc (.cells #[.int .i64 0] 3)) 3 (.int .i64 0)).kept hgr3 (by simp)
    have b10 := Boxed.new w3 30 (.slice (some ⟨w.heap.size + 1 + 1 + 1 + 1, 0, none⟩) S S)
    simp only [World.size_alloc] at b7 b8 b9 hs3
    have hb0 : Below w.heap.size w ((((w.alloc (.cells #[.int .i64 p] 3)).alloc (.cells #[.int .i64 S] 3)).alloc (.cells #[.int .i64 0] 3)).alloc (.cells #[.int .i64 0] 3)) :=
      ((((Below.refl _ _).alloc (Nat.le_refl _) _).alloc (by simp) _).alloc (by simp; omega) _).alloc (by simp; omega) _
    rw [← hW5]
    refine ⟨b4.alloc _, b7.alloc _, b8.alloc _, b9.alloc _, b10, ?_, (hb0.grown hgr3 hb0.size (fun k e => by cases e)).alloc (by omega) _⟩
    have : OI (w.heap.size + 4) w3 (.slice (some ⟨w.heap.size + 1 + 1 + 1 + 1, 0, none⟩) S S) (fillL S 0) := by
      unfold OI
      rw [fill_none, List.map_replicate]
      exact hs3
    exact this.alloc _
  rw [hW5]
  clear hs3 hgr3 hz3 hW5
  generalize hb10 : w3.heap.size = b10 at *
  clear hb10
  go_loopw [11, 20] (fun _ i wr => ∃ k : Nat, k ≤ S ∧ i = .int .i64 k ∧ FillSt wr w w.heap.size (w.heap.size + 1) (w.heap.size + 1 + 1) (w.heap.size + 1 + 1 + 1) b10 (w.heap.size + 1 + 1 + 1 + 1) p S (fillL S k)) (fun _ i _ => S - (intOf i).toNat)
  case atStart => exact ⟨0, Nat.zero_le _, rfl, hF0⟩
  case round =>
    obtain ⟨k, hk, rfl, hf⟩ := hrel
    clear hF0
    by_cases hlt : k < S
    · have e1 := hf.c10.cell
      have e2 := hf.own.cell k (by rw [fill_len hk]; exact hlt)
      have e3 := hf.own.frozen k
      have HN := hid (hf.set (by omega) (by omega) (by omega) (by omega) (by omega) (by omega) k (-1))
      rw [fill_set hlt] at HN
      clear hf
      go_wp2
      go_roundw
      case rel => exact ⟨k + 1, by omega, by go_num, HN.out⟩
      case measure => simp [intOf] <;> omega
    · obtain rfl : S = k := by omega
      have e4 := hf.c4.cell
      have e7 := hf.c7.cell
      have hbl10 := hf.c10.lt
      have hl4 : w.heap.size < wr.heap.size := by omega
      have hl7 : w.heap.size + 1 < wr.heap.size := by omega
      rw [fill_all S (hcode p taps seed)] at hf
      have HF := hid hf
      clear hf
      go_wp2_with fail
      refine (row_make p a1 a2 N1 c1 K c2 _).mono ?_
      rintro e w7 ⟨rfl, hw7⟩
      have hs7 : w7.heap.size = wr.heap.size + 5 := by rw [hw7]; simp
      have D : PerD w.heap.size (w.heap.size + 1) (w.heap.size + 1 + 1) (w.heap.size + 1 + 1 + 1) b10 wr.heap.size (wr.heap.size + 1) (w.heap.size + 1 + 1 + 1 + 1) := ⟨by omega, by omega, by omega, by omega, by omega, by omega, by omega⟩
      have g7 : wr.grownBy w7 none := by
        rw [hw7]
        exact below_grown (((((Below.refl _ _).alloc (Nat.le_refl _) _).alloc (by simp) _).alloc (by simp; omega) _).alloc (by simp; omega) _ |>.alloc (by simp; omega) _) _
      have hP7 : PerSt w7 w.heap.size (w.heap.size + 1) (w.heap.size + 1 + 1) (w.heap.size + 1 + 1 + 1) b10 wr.heap.size (wr.heap.size + 1) (w.heap.size + 1 + 1 + 1 + 1) p S (-(K : Int)) 0 (tab (-1) 0 (hcode p taps seed) S 0) := by
        have b13 := ((((Boxed.new wr 3 (.int .i64 (-(K : Int)))).alloc (.cells #[.int .i64 0] 3)).alloc (.cells #[.int .i64 p] 3)).alloc (.cells #[.slice a1 N1 c1] 30)).alloc (.cells #[.slice a2 K c2] 30)
        have b14 := (((Boxed.new (wr.alloc (.cells #[.int .i64 (-(K : Int))] 3)) 3 (.int .i64 0)).alloc (.cells #[.int .i64 p] 3)).alloc (.cells #[.slice a1 N1 c1] 30)).alloc (.cells #[.slice a2 K c2] 30)
        rw [World.size_alloc] at b14
        rw [← hw7] at b13 b14
        exact ⟨HF.out.c4.kept g7 (by simp), HF.out.c7.kept g7 (by simp), HF.out.c8.kept g7 (by simp), HF.out.c9.kept g7 (by simp), HF.out.c10.kept g7 (by simp), b13, b14, HF.out.own.kept g7 (.inr (by simp [Value.ownBlock]))⟩
      have hRS : Boxed w7 (wr.heap.size + 1 + 1) 3 (.int .i64 p) ∧ Boxed w7 (wr.heap.size + 1 + 1 + 1) 30 (.slice a1 N1 c1) ∧ Boxed w7 (wr.heap.size + 1 + 1 + 1 + 1) 30 (.slice a2 K c2) := by
        have r1 := ((Boxed.new ((wr.alloc (.cells #[.int .i64 (-(K : Int))] 3)).alloc (.cells #[.int .i64 0] 3)) 3 (.int .i64 p)).alloc (.cells #[.slice a1 N1 c1] 30)).alloc (.cells #[.slice a2 K c2] 30)
        have r2 := (Boxed.new (((wr.alloc (.cells #[.int .i64 (-(K : Int))] 3)).alloc (.cells #[.int .i64 0] 3)).alloc (.cells #[.int .i64 p] 3)) 30 (.slice a1 N1 c1)).alloc (.cells #[.slice a2 K c2] 30)
        have r3 := Boxed.new ((((wr.alloc (.cells #[.int .i64 (-(K : Int))] 3)).alloc (.cells #[.int .i64 0] 3)).alloc (.cells #[.int .i64 p] 3)).alloc (.cells #[.slice a1 N1 c1] 30)) 30 (.slice a2 K c2)
        simp only [World.size_alloc] at r1 r2 r3
        rw [← hw7] at r1 r2 r3
        exact ⟨r1, r2, r3⟩
      have hB7 : Below w.heap.size w w7 := HF.out.below.grown g7 HF.out.below.size (fun k e => by cases e)
      have HP7 := hid hP7
      have HRS := hid hRS
      have HB7 := hid hB7
      have HD := hid D
      have HS7 := hid hs7
      clear hw7 g7 hP7 hRS hB7 D hs7 HF e4 e7
      simp only [World.size_alloc]
      generalize hb13 : wr.heap.size = b13 at *
      clear hb13
      go_wp2_with fail
      refine range_ever (gf := 53) (lb := #[.pointer (some ⟨b13 + 1 + 1 + 1 + 1, 0, none⟩), .pointer (some ⟨b13 + 1 + 1 + 1, 0, none⟩), .pointer (some ⟨b13 + 1 + 1, 0, none⟩)]) rfl
        (run_callFunc_own Try.func53 (by kernel_rfl) (by kernel_rfl)) rfl (row_ever p taps seed HR.out _ _ _ (.slice a2 K c2) (.slice a1 N1 c1) (K + (a + b)))
        (fun k q A => q = .slice none 0 0 ∧ k + 1 - K ≤ a + b ∧ PerSt A w.heap.size (w.heap.size + 1) (w.heap.size + 1 + 1) (w.heap.size + 1 + 1 + 1) b10 b13 (b13 + 1) (w.heap.size + 1 + 1 + 1 + 1) p S ((k : Int) - (K : Int)) (roll p S (rowF p taps seed) k) (tab (-1) 0 (hcode p taps seed) S (k + 1 - K)) ∧ w7.heap.size ≤ A.heap.size ∧
          (Boxed A (b13 + 1 + 1) 3 (.int .i64 p) ∧ Boxed A (b13 + 1 + 1 + 1) 30 (.slice a1 N1 c1) ∧ Boxed A (b13 + 1 + 1 + 1 + 1) 30 (.slice a2 K c2)) ∧ Below w.heap.size w A)
        (fun c k q A => c = .ret ∧ q = .slice none 0 0 ∧ Boxed A (w.heap.size + 1 + 1) 3 (.int .i64 a) ∧ Boxed A (w.heap.size + 1 + 1 + 1) 3 (.int .i64 b) ∧ Below w.heap.size w A)
        ?_ ?_ ?_ ?_ ?_ ?a1 ?assign ?body ?stop
      case assign =>
        intro l x W K hK
        gi_wp2
        exact hK
      · rintro k q A C row ⟨h1, h2, h3, h4, ⟨h5, h6, h7⟩, h8⟩ hg hr
        have hs := HS7.out
        have hsz := hg.size
        refine ⟨h1, h2, h3.kept (B := w7.heap.size) HD.out (by omega) hg (fun r e => (hr r e).1), by omega, ⟨h5.kept hg fun e => ?_, h6.kept hg fun e => ?_, h7.kept hg fun e => ?_⟩, h8.grown hg h8.size (fun r e => by have := (hr r e).1; omega)⟩
        all_goals (have := (hr _ e.symm).1; omega)
      · rintro c k q A C row ⟨h1, h2, h3, h4, h8⟩ hg hr
        have hs := HS7.out
        refine ⟨h1, h2, h3.kept hg fun e => ?_, h4.kept hg fun e => ?_, h8.grown hg h8.size (fun r e => by have := (hr r e).1; omega)⟩
        all_goals (have := (hr _ e.symm).1; omega)
      · rintro k q A ⟨rfl, h2, h3, h4, ⟨h5, h6, h7⟩, h8⟩
        have hpos := HK.out.kpos
        exact ⟨⟨h5.cell, h6.cell, h7.cell, HV.out.below h8, HU.out.below h8⟩, by omega, fun g e => by simp [Value.ownBlock] at e⟩
      · rintro c k q A ⟨h1, rfl, h3, h4, h8⟩ g e
        simp [Value.ownBlock] at e
      · refine ⟨rfl, by omega, ?_, Nat.le_refl _, HRS.out, HB7.out⟩
        have := HP7.out
        rw [show 0 + 1 - K = 0 by omega]
        have e : (((0 : Nat) : Int) - (K : Int)) = -(K : Int) := by omega
        rw [e]
        exact this
      case body =>
        rintro l k q A ⟨rfl, h2, h3, h4, h5, h8⟩
        have hs := HS7.out
        have hdd := HD.out.h6
        have d4 := h3.c4.cell
        have d7 := h3.c7.cell
        have d10 := h3.c10.cell
        have d13 := h3.c13.cell
        have f13 := h3.c13.frozen
        have d14 := h3.c14.cell
        have f14 := h3.c14.frozen
        obtain ⟨v1, v2⟩ := HK.out.krb k
        obtain ⟨x1, x2⟩ := HK.out.kxb k
        have HVN : Hid (roll p S (rowF p taps seed) (k + 1) = (roll p S (rowF p taps seed) k * p + rowF p taps seed k) % (S : Int)) := hid rfl
        have HKR := hid (fun m (h : k + 1 = m + K) => HK.out.kroll m)
        generalize roll p S (rowF p taps seed) k = vw at *
        generalize rowF p taps seed k = x at *
        have m1 : 0 ≤ vw * p := Int.mul_nonneg v1 (by omega)
        have m2 : vw * p ≤ 20000 * 7 := Int.mul_le_mul (by omega) hp7 (by omega) (by omega)
        have m3 : 0 ≤ (vw * p + x) % (S : Int) := Int.emod_nonneg _ (by omega)
        have m4 : (vw * p + x) % (S : Int) < (S : Int) := Int.emod_lt_of_pos _ (by omega)
        obtain ⟨c, hc⟩ : ∃ c : Nat, (vw * p + x) % (S : Int) = (c : Int) := ⟨((vw * p + x) % (S : Int)).toNat, by omega⟩
        have htm : (vw * p + x).tmod (S : Int) = (c : Int) := by rw [Int.tmod_eq_emod_of_nonneg (by omega), hc]
        rw [hc] at m3 m4 HVN
        have hcS : c < S := by omega
        have n1 : ¬ b13 = b10 := by omega
        have n2 : ¬ b13 + 1 = b10 := by omega
        have n3 : ¬ b13 = w.heap.size + 1 + 1 + 1 + 1 := by omega
        have n4 : ¬ b13 + 1 = w.heap.size + 1 + 1 + 1 + 1 := by omega
        have n5 : ¬ b10 = b13 := by omega
        have n6 : ¬ b10 = b13 + 1 := by omega
        have n7 : ¬ w.heap.size + 1 + 1 + 1 + 1 = b13 := by omega
        have n8 : ¬ w.heap.size + 1 + 1 + 1 + 1 = b13 + 1 := by omega
        have S1 := hid (h3.setWin HD.out (c : Int))
        have hR0 : Rest (w7.heap.size + 2) A ((A.setCell ⟨b13 + 1, 0, none⟩ (.int .i64 c)).setCell ⟨b13, 0, none⟩ (.int .i64 ((k : Int) - (K : Int) + 1))) (.slice none 0 0) :=
          rest_set (rest_set (rest_refl _ _ _) _ _ _ (by omega)) _ _ _ (by omega)
        have hK0 : KeepsOthers A ((A.setCell ⟨b13 + 1, 0, none⟩ (.int .i64 c)).setCell ⟨b13, 0, none⟩ (.int .i64 ((k : Int) - (K : Int) + 1))) := (KeepsOthers.setCell _ _ _).trans (KeepsOthers.setCell _ _ _)
        have hg0 : ∀ r, r ≠ b13 → r ≠ b13 + 1 → ((A.setCell ⟨b13 + 1, 0, none⟩ (.int .i64 c)).setCell ⟨b13, 0, none⟩ (.int .i64 ((k : Int) - (K : Int) + 1))).heap[r]? = A.heap[r]? := fun r h1 h2 => (Below.heap_setCell _ _ _ r h1).trans (Below.heap_setCell _ _ _ r h2)
        have hb0' : Below w.heap.size w ((A.setCell ⟨b13 + 1, 0, none⟩ (.int .i64 c)).setCell ⟨b13, 0, none⟩ (.int .i64 ((k : Int) - (K : Int) + 1))) := (h8.setCell (p := ⟨b13 + 1, 0, none⟩) (by simp; omega) _).setCell (p := ⟨b13, 0, none⟩) (by simp; omega) _
        have S2 := hid (S1.out.setAt HD.out ((k : Int) - (K : Int) + 1))
        have R0 := hid hR0
        have K0 := hid hK0
        have G0 := hid hg0
        have BL0 := hid hb0'
        have H5 := hid h5
        have hkb : (k : Int) ≤ 30000 := by omega
        have hkK : (K : Int) ≤ 8 := by omega
        have CELL := hid (fun (hc2 : c < S) => h3.own.cell c (by rw [HK.out.klen]; exact hc2))
        have FRO := hid (h3.own.frozen c)
        clear hR0 hK0 hg0 hb0' h3 h5 h8
        by_cases c1 : k + 1 < K
        · have hat : (k : Int) - (K : Int) + 1 < 0 := by omega
          gi_wp2
          refine ⟨K0.out, .slice none 0 0, ⟨rfl, by omega, ?_, by have := R0.out.size; omega, ?_, BL0.out⟩, R0.out, fun g e => by simp [Value.ownBlock] at e⟩
          · rw [show k + 1 + 1 - K = 0 by omega, HVN.out]
            have := S2.out
            rw [show k + 1 - K = 0 by omega] at this
            rw [show ((k + 1 : Nat) : Int) - (K : Int) = (k : Int) - (K : Int) + 1 by omega]
            exact this
          · refine ⟨(G0.out _ (by omega) (by omega)).trans H5.out.1, (G0.out _ (by omega) (by omega)).trans H5.out.2.1, (G0.out _ (by omega) (by omega)).trans H5.out.2.2⟩
        · obtain ⟨m, hm⟩ : ∃ m, k + 1 = m + K := ⟨k + 1 - K, by omega⟩
          have hmm : k + 1 - K = m := by omega
          rw [hmm] at h2
          have hat : (k : Int) - (K : Int) + 1 = (m : Int) := by omega
          have hcode : (c : Int) = hcode p taps seed m := by rw [← HVN.out, hm]; exact HKR.out m hm
          by_cases hmab : m = a + b
          · have hval := HK.out.ksome
            rw [← hmab, ← hcode, Int.toNat_natCast] at hval
            have dcell := CELL.out hcS
            rw [hmm, hval] at dcell
            have HMAB := hid hmab
            have o8 := S2.out.c8.cell
            have o9 := S2.out.c9.cell
            have q8 := S2.out.c8.frozen
            have q9 := S2.out.c9.frozen
            have X8 := hid S2.out.c8
            have X9 := hid S2.out.c9
            rw [hat] at R0 K0 G0 BL0 o8 o9 q8 q9 X8 X9
            have hmix : Try.prog.follows .mixedOrders = true := by kernel_rfl
            have hpab : (m : Int) - (a : Int) = (b : Int) := by omega
            have hwab : IntKind.i64.wrap ((m : Int) - (a : Int)) = (b : Int) := by rw [IntWalk.i64_in _ (by omega)]; exact hpab
            clear hcode hm hmm hval hmab hpab
            gi_wp2
            refine wpIn_region_any hmix ?_
            have S2' := S2.out
            rw [hat] at S2'
            have SD := S2'.drew (((A.setCell ⟨b13 + 1, 0, none⟩ (.int .i64 (c : Int))).setCell ⟨b13, 0, none⟩ (.int .i64 (m : Int))).drawn + 1)
            have dc : ({ ((A.setCell ⟨b13 + 1, 0, none⟩ (.int .i64 (c : Int))).setCell ⟨b13, 0, none⟩ (.int .i64 (m : Int))) with drawn := ((A.setCell ⟨b13 + 1, 0, none⟩ (.int .i64 (c : Int))).setCell ⟨b13, 0, none⟩ (.int .i64 (m : Int))).drawn + 1 } : World).cell? ⟨w.heap.size + 1 + 1 + 1 + 1, c, none⟩ = some (.int .i64 (a : Int)) := by
              rw [← dcell]
              show ((A.setCell ⟨b13 + 1, 0, none⟩ (.int .i64 (c : Int))).setCell ⟨b13, 0, none⟩ (.int .i64 (m : Int))).cell? ⟨w.heap.size + 1 + 1 + 1 + 1, c, none⟩ = _
              rw [World.cell?_setCell_far _ _ _ _ (by simpa using Ne.symm n7), World.cell?_setCell_far _ _ _ _ (by simpa using Ne.symm n8)]
            refine period_region (b8 := w.heap.size + 1 + 1) (b9 := w.heap.size + 1 + 1 + 1) (b10 := b10) (b13 := b13) (b14 := b13 + 1) (g := w.heap.size + 1 + 1 + 1 + 1) (c := c) (S := S) (a := a) (b := b) (m := m) rfl ⟨_, rfl, rfl, rfl, rfl⟩ ⟨_, rfl, rfl, rfl, rfl⟩ ⟨_, rfl, rfl, rfl, rfl⟩ ⟨_, rfl, rfl, rfl, rfl⟩ ⟨_, rfl, rfl, rfl, rfl⟩ ⟨_, rfl, rfl, rfl, rfl⟩ ⟨_, rfl, rfl, rfl, rfl⟩ ⟨_, rfl, rfl, rfl, rfl⟩ ⟨_, rfl, rfl, rfl, rfl⟩ ⟨_, rfl, rfl, rfl, rfl⟩ ⟨_, rfl, rfl, rfl, rfl⟩ ⟨_, rfl, rfl, rfl, rfl⟩ (by kernel_rfl) (by kernel_rfl) hcS hwab (SD.cells dc) (SD.cells' HD.out dc) (by simp) rfl rfl rfl rfl rfl ?_
            intro y
            have KD : KeepsOthers A ({ ((A.setCell ⟨b13 + 1, 0, none⟩ (.int .i64 (c : Int))).setCell ⟨b13, 0, none⟩ (.int .i64 (m : Int))) with drawn := ((A.setCell ⟨b13 + 1, 0, none⟩ (.int .i64 (c : Int))).setCell ⟨b13, 0, none⟩ (.int .i64 (m : Int))).drawn + 1 } : World) := ⟨K0.out.size, K0.out.same⟩
            have BD : Below w.heap.size w ({ ((A.setCell ⟨b13 + 1, 0, none⟩ (.int .i64 (c : Int))).setCell ⟨b13, 0, none⟩ (.int .i64 (m : Int))) with drawn := ((A.setCell ⟨b13 + 1, 0, none⟩ (.int .i64 (c : Int))).setCell ⟨b13, 0, none⟩ (.int .i64 (m : Int))).drawn + 1 } : World) := ⟨BL0.out.1, BL0.out.2, BL0.out.3, BL0.out.4, BL0.out.5⟩
            obtain ⟨WD, hWD⟩ : ∃ W, ({ ((A.setCell ⟨b13 + 1, 0, none⟩ (.int .i64 (c : Int))).setCell ⟨b13, 0, none⟩ (.int .i64 (m : Int))) with drawn := ((A.setCell ⟨b13 + 1, 0, none⟩ (.int .i64 (c : Int))).setCell ⟨b13, 0, none⟩ (.int .i64 (m : Int))).drawn + 1 } : World) = W := ⟨_, rfl⟩
            rw [hWD] at SD KD BD ⊢
            have F1 := hid (KD.trans (KeepsOthers.setCell _ ⟨w.heap.size + 1 + 1, 0, none⟩ (.int .i64 (a : Int))) |>.trans (KeepsOthers.setCell _ ⟨w.heap.size + 1 + 1 + 1, 0, none⟩ (.int .i64 (b : Int))))
            have F2 := hid ((BD.setCell (p := ⟨w.heap.size + 1 + 1, 0, none⟩) (by simp; omega) (.int .i64 (a : Int))).setCell (p := ⟨w.heap.size + 1 + 1 + 1, 0, none⟩) (by simp; omega) (.int .i64 (b : Int)))
            have F3 := hid ((SD.c8.set (.int .i64 (a : Int))).kept (grownBy_setCell' (WD.setCell ⟨w.heap.size + 1 + 1, 0, none⟩ (.int .i64 (a : Int))) (w.heap.size + 1 + 1 + 1) (.int .i64 (b : Int))) (by simp))
            have F4 := hid ((SD.c9.kept (grownBy_setCell' WD (w.heap.size + 1 + 1) (.int .i64 (a : Int))) (by simp)).set (.int .i64 (b : Int)))
            clear hWD dc SD KD BD S2' d4 d7 d10 d13 d14 dcell o8 o9 q8 q9
            gi_wp2
            exact ⟨F1.out, .slice none 0 0, rfl, rfl, F3.out, F4.out, F2.out⟩
          · have hnone := HK.out.knone m (by omega)
            rw [← hcode, Int.toNat_natCast] at hnone
            have dcell := CELL.out hcS
            rw [hmm, hnone] at dcell
            have dfro := FRO.out
            have S3 := hid (S2.out.setFirst HD.out c ((k : Int) - (K : Int) + 1))
            rw [hmm, hat] at S3
            have HCODE := hid hcode
            have HM := hid hm
            rw [hat] at R0 K0 G0 BL0
            clear hcode hm hnone hmm
            gi_wp2
            have hg : w.heap.size + 1 + 1 + 1 + 1 < w7.heap.size + 2 := by omega
            refine ⟨K0.out.trans (KeepsOthers.setCell _ _ _), .slice none 0 0, ⟨rfl, by have := HM.out; omega, ?_, ?_, ?_, BL0.out.setCell (p := ⟨w.heap.size + 1 + 1 + 1 + 1, c, none⟩) (by simp; omega) _⟩, rest_set R0.out _ _ _ hg, fun g e => by simp [Value.ownBlock] at e⟩
            · have := S3.out
              have e1 := HM.out
              rw [show k + 1 + 1 - K = m + 1 by omega, HVN.out]
              rw [show ((k + 1 : Nat) : Int) - (K : Int) = (m : Int) by omega]
              have e2 : tab (-1) 0 (hcode p taps seed) S (m + 1) = (tab (-1) 0 (hcode p taps seed) S m).set c (m : Int) := by
                simp only [tab]
                rw [← HCODE.out, Int.toNat_natCast, Int.add_zero]
              rw [e2]
              exact this
            · have := (rest_set R0.out (w.heap.size + 1 + 1 + 1 + 1) c (.int .i64 (m : Int)) hg).size
              omega
            · have hx : ∀ r, r ≠ w.heap.size + 1 + 1 + 1 + 1 → r ≠ b13 → r ≠ b13 + 1 → _ := fun r h0 h1 h2 => (Below.heap_setCell _ ⟨w.heap.size + 1 + 1 + 1 + 1, c, none⟩ (.int .i64 (m : Int)) r h0).trans (G0.out r h1 h2)
              exact ⟨(hx _ (by omega) (by omega) (by omega)).trans H5.out.1, (hx _ (by omega) (by omega) (by omega)).trans H5.out.2.1, (hx _ (by omega) (by omega) (by omega)).trans H5.out.2.2⟩
      case stop =>
        rintro D' c k q A hD ⟨rfl, h2, h3, h4, h8⟩ hKD
        have e8 := h3.cell
        have e9 := h4.cell
        have HX := hid (And.intro h8 hKD)
        have HDD := hid hD
        have hs := HS7.out
        have hdd := HD.out.h6
        have HX3 := hid h3
        have HX4 := hid h4
        clear h3 h4 h8 hKD e8 e9
        go_wp2
        refine ⟨by simp, .inl ⟨_, _, rfl, run_takeDeferred HX.out.2, ?_⟩⟩
        have hD2 := HDD.out
        have e8 := (HX3.out.kept (grownBy_putObj' A D' (.deferred none)) (by simp; omega)).cell
        have e9 := (HX4.out.kept (grownBy_putObj' A D' (.deferred none)) (by simp; omega)).cell
        refine ⟨.tuple #[.int .i64 a, .int .i64 b], ?_, rfl, ?_⟩
        · simp [results, Try.f47, go_sem, e8, e9]
        · exact HX.out.1.grown (grownBy_putObj' A D' (.deferred none)) HX.out.1.size (fun k e => by cases e; omega)
end Go.Proofs.Ytlnfkkapepgilaa
