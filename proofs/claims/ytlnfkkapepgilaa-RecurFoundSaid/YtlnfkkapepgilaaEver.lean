/-
  A law of our own for 'for x := range f' over a function that never ends by itself: the body of a round must leave it. No condition on the program.
-/
import Derived.Test.YtlnfkkapepgilaaBase
import Derived.RangeFuncBox
import Derived.RangeFuncLeaves
import Derived.RangeFuncFrom
namespace Go.Proofs.Ytlnfkkapepgilaa
set_option linter.unusedVariables false
open Go.RowKit

/-- What a round leaves alone: the blocks from B on that are not the caller's own. -/
structure Rest (B : Nat) (A C : World) (u : Value) : Prop where
  size : A.heap.size ≤ C.heap.size
  same : ∀ r, B ≤ r → r < A.heap.size → u.ownBlock ≠ some r → C.heap[r]? = A.heap[r]?
/-- The caller's slice lies where it lay, or anew. -/
def OwnStep (A : World) (u u' : Value) : Prop := ∀ g, u'.ownBlock = some g → u.ownBlock = some g ∨ A.heap.size ≤ g

/-- The contract of a function that hands val 0, val 1, .. to yield till that says no. Src: what it reads. -/
def Ever (P : Program) (gf : Nat) (lb : Array Value) (val : Nat → Int) (Src : World → Prop) (N : Nat) : Prop :=
  ∀ (l : Nat) (J Jx : Nat → Value → World → Prop) (W : World),
    (∀ k u A, J k u A → Src A ∧ k < N ∧ ∀ g, u.ownBlock = some g → g < A.heap.size) →
    (∀ k u A C row, J k u A → A.grownBy C row → (∀ r, row = some r → W.heap.size ≤ r ∧ u.ownBlock ≠ some r) → J k u C) →
    (∀ k u A, J k u A → YieldAt Fence.wide 0 P l #[.int .i64 (val k)] A fun e C =>
      (e = .returned (.bool true) ∧ ∃ u', J (k + 1) u' C ∧ Rest W.heap.size A C u ∧ OwnStep A u u') ∨ (e = .returned (.bool false) ∧ ∃ u', Jx (k + 1) u' C)) →
    J 0 (.slice none 0 0) W →
    CallsIn Fence.wide 0 P gf (#[.func (.yield l) #[] #[]] ++ lb) W fun e C => (∃ v, e = .returned v) ∧ ∃ k u, Jx k u C

/-- How a round's body may be left. -/
def everPost (B : Nat) (I : Nat → Value → World → Prop) (Ix : Code → Nat → Value → World → Prop) (k : Nat) (u : Value) (W : World) : Exit → Act → World → Prop
  | .normal, _, W' => KeepsOthers W W' ∧ ∃ u', I (k + 1) u' W' ∧ Rest B W W' u ∧ OwnStep W u u'
  | .ret, _, W' => KeepsOthers W W' ∧ ∃ u', Ix .ret (k + 1) u' W'
  | .exit id, _, W' => KeepsOthers W W' ∧ ∃ u', Ix (.exit id) (k + 1) u' W'
  | .goto t, _, W' => KeepsOthers W W' ∧ ∃ u', Ix (.goto t) (k + 1) u' W'
  | .panic _, _, _ => False
  | .outgrown, _, _ => False

theorem range_ever {P : Program} {g : Operand} {ps : Array Tmp} {assign body : Code} {Q : Exit → Act → World → Prop} {a : Act} {w : World} {gf : Nat} {lb : Array Value}
    (hg : a.eval g = .func (.func gf) #[] lb) (eg : ∀ args w, (callFunc gf args).run P w = .ok (.enter gf args) w) (hps : ps.size = 1)
    {val : Nat → Int} {Src : World → Prop} {N : Nat} (hE : Ever P gf lb val Src N)
    (I : Nat → Value → World → Prop) (Ix : Code → Nat → Value → World → Prop)
    (hI : ∀ k u A C row, I k u A → A.grownBy C row → (∀ r, row = some r → w.heap.size ≤ r ∧ u.ownBlock ≠ some r) → I k u C)
    (hIx : ∀ c k u A C row, Ix c k u A → A.grownBy C row → (∀ r, row = some r → w.heap.size ≤ r ∧ u.ownBlock ≠ some r) → Ix c k u C)
    (hJ : ∀ k u A, I k u A → Src A ∧ k < N ∧ ∀ g, u.ownBlock = some g → ∃ o : Obj, A.heap[g]? = some o ∧ o.isCells = true)
    (hJx : ∀ c k u A, Ix c k u A → ∀ g, u.ownBlock = some g → ∃ o : Obj, A.heap[g]? = some o ∧ o.isCells = true)
    (h0 : I 0 (.slice none 0 0) w) (a₁ : Int → Act)
    (hassign : ∀ (l : Nat) (x : Int) (W : World) (K : Act → World → Prop), K (a₁ x) W →
      assign.wpIn (Fence.wide.inRound l) 0 P (Exit.then K (fun _ _ _ => False)) { tmps := (ps.zip #[.int .i64 x]).foldl (fun t (p, v) => t.setIfInBounds p v) a.tmps, defers := [] } W)
    (hbody : ∀ (l k : Nat) (u : Value) (W : World), I k u W → body.wpIn (Fence.wide.inRound l) 0 P (everPost (w.heap.size + 2) I Ix k u W) (a₁ (val k)) W)
    (hstop : ∀ (D : Nat) (c : Code) (k : Nat) (u : Value) (W : World), w.heap.size ≤ D → Ix c k u W → W.heap[D]? = some (.deferred (some [])) → c.wp P Q { a with defers := { target := .collected D, args := #[] } :: a.defers } W) :
    (Code.rangeFunc g ps assign body).wp P Q a w := by
  refine (wpIn_wide (n := 0)).1 (wpIn_rangeFunc fun fn _ => ?_)
  obtain ⟨rc, hrc⟩ : ∃ rc : LoopState → Option Code → Loop, rc = fun st pe => { state := st, pending := pe, fn, tmps := a.tmps, params := ps, assign, body, defers := w.heap.size } := ⟨_, rfl⟩
  obtain ⟨V, hV⟩ : ∃ V, (w.alloc (.deferred (some []))).alloc (.loop (rc .ready none)) = V := ⟨_, rfl⟩
  have hVs : V.heap.size = w.heap.size + 2 := by rw [← hV]; simp
  have hVl : V.heap[w.heap.size + 1]? = some (.loop (rc .ready none)) := by
    rw [← hV]
    have := World.alloc_heap_new (w.alloc (.deferred (some []))) (.loop (rc .ready none))
    rwa [World.size_alloc] at this
  have hVd : V.heap[w.heap.size]? = some (.deferred (some [])) := by
    rw [← hV]
    exact (Below.heap_alloc _ _ _ (by simp)).trans (World.alloc_heap_new w _)
  have hVi : I 0 (.slice none 0 0) V := by
    rw [← hV]
    exact hI _ _ _ _ none (hI _ _ _ _ none h0 (World.grownBy_alloc _ _ none) (fun r e => by cases e)) (World.grownBy_alloc _ _ none) (fun r e => by cases e)
  -- turns of the record's block
  have turn : ∀ {k : Nat} {u : Value} {A : World} {o : Obj} (o' : Obj), I k u A → A.heap[w.heap.size + 1]? = some o → o.isCells = false → I k u (A.putObj (w.heap.size + 1) o') := by
    intro k u A o o' hi ho hc
    refine hI _ _ _ _ _ hi (grownBy_putObj' A _ o') fun r e => ?_
    cases e
    refine ⟨by omega, fun e2 => ?_⟩
    obtain ⟨o2, h2, h3⟩ := (hJ _ _ _ hi).2.2 _ e2
    rw [ho] at h2
    cases h2
    rw [hc] at h3
    cases h3
  have turnx : ∀ {c : Code} {k : Nat} {u : Value} {A : World} {o : Obj} (o' : Obj), Ix c k u A → A.heap[w.heap.size + 1]? = some o → o.isCells = false → Ix c k u (A.putObj (w.heap.size + 1) o') := by
    intro c k u A o o' hi ho hc
    refine hIx _ _ _ _ _ _ hi (grownBy_putObj' A _ o') fun r e => ?_
    cases e
    refine ⟨by omega, fun e2 => ?_⟩
    obtain ⟨o2, h2, h3⟩ := hJx _ _ _ _ hi _ e2
    rw [ho] at h2
    cases h2
    rw [hc] at h3
    cases h3
  refine ⟨w.heap.size + 1, [{ target := .collected w.heap.size, args := #[] }], V, { target := .fn (.func gf) lb, args := #[.func (.yield (w.heap.size + 1)) #[] #[]] }, V, gf,
    #[.func (.yield (w.heap.size + 1)) #[] #[]] ++ lb, V, ?_, ?_, fun _ _ => trivial, ?_, fun h => by simp [Fence.wide] at h, ?_⟩
  · show (Instr.enterLoop fn a.tmps ps assign body none).run P w = _
    rw [← hV, hrc]
    exact run_enterLoop_outer _ _ _ _ _
  · simp only [resolve, hg]
    simp [go_sem]
  · simp [invoke, go_sem, eg]
  refine (hE (w.heap.size + 1) (fun k u A => I k u A ∧ A.heap[w.heap.size + 1]? = some (.loop (rc .ready none)) ∧ A.heap[w.heap.size]? = some (.deferred (some [])))
    (fun k u A => ∃ c, Ix c k u A ∧ A.heap[w.heap.size + 1]? = some (.loop (rc .done (some c))) ∧ A.heap[w.heap.size]? = some (.deferred (some []))) V ?_ ?_ ?_ ⟨hVi, hVl, hVd⟩).mono ?_
  · rintro k u A ⟨hi, _, _⟩
    obtain ⟨a1, a2, a3⟩ := hJ _ _ _ hi
    refine ⟨a1, a2, fun q hq => ?_⟩
    obtain ⟨o, ho, _⟩ := a3 q hq
    exact (Array.getElem?_eq_some_iff.1 ho).1
  · rintro k u A C row ⟨hi, hl, hd⟩ hgr hr
    refine ⟨hI _ _ _ _ _ hi hgr fun r e => ⟨by have := (hr r e).1; omega, (hr r e).2⟩, ?_, ?_⟩
    · rw [hgr.block _ (Array.getElem?_eq_some_iff.1 hl).1 (fun e => by have := (hr _ e.symm).1; omega)]; exact hl
    · rw [hgr.block _ (Array.getElem?_eq_some_iff.1 hd).1 (fun e => by have := (hr _ e.symm).1; omega)]; exact hd
  · -- one round
    rintro k u A ⟨hi, hl, hd⟩
    have hlt := (Array.getElem?_eq_some_iff.1 hl).1
    have hy := run_yield (P := P) (args := #[.int .i64 (val k)]) hl (by rw [hrc]; simp [hps])
    rw [hrc] at hy
    refine ⟨fn, _, assign, body, hy, roundIn_of_wpIn trivial (hassign _ _ A _ ⟨_, run_beginRound hl (by rw [hrc]), ?_⟩)⟩
    obtain ⟨B, hB⟩ : ∃ B, A.putObj (w.heap.size + 1) (.loop { rc .ready none with state := .busy }) = B := ⟨_, rfl⟩
    have hBl : B.heap[w.heap.size + 1]? = some (.loop { rc .ready none with state := .busy }) := by rw [← hB]; exact World.putObj_heap_same hlt
    have hBd : B.heap[w.heap.size]? = some (.deferred (some [])) := by rw [← hB]; exact (World.putObj_heap_other (by omega)).trans hd
    have hBs : B.heap.size = A.heap.size := by rw [← hB]; simp
    have hBr : ∀ r, w.heap.size + 2 ≤ r → B.heap[r]? = A.heap[r]? := fun r h => by rw [← hB]; exact World.putObj_heap_other (by omega)
    have hBi : I k u B := by rw [← hB]; exact turn _ hi hl rfl
    rw [hB]
    refine wpIn_mono (hbody _ k u B hBi) ?_
    have fin : ∀ (jump : Option Code) (C : World), KeepsOthers B C →
        (Instr.endRound (w.heap.size + 1) jump).run P C = .ok (.bool jump.isNone) (C.putObj (w.heap.size + 1) (.loop (rc (if jump.isNone then .ready else .done) jump))) ∧
        C.heap[w.heap.size + 1]? = some (.loop { rc .ready none with state := .busy }) ∧
        (C.putObj (w.heap.size + 1) (.loop (rc (if jump.isNone then .ready else .done) jump))).heap[w.heap.size + 1]? = some (.loop (rc (if jump.isNone then .ready else .done) jump)) ∧
        (C.putObj (w.heap.size + 1) (.loop (rc (if jump.isNone then .ready else .done) jump))).heap[w.heap.size]? = some (.deferred (some [])) := by
      intro jump C hk
      have hC := hk.same _ _ hBl rfl
      have hr := run_endRound (P := P) jump hC
      rw [hrc] at hr hC ⊢
      exact ⟨hr, hC, World.putObj_heap_same (Array.getElem?_eq_some_iff.1 hC).1, (World.putObj_heap_other (by omega)).trans (hk.same _ _ hBd rfl)⟩
    have stop : ∀ (c : Code) (C : World), KeepsOthers B C → (∃ u', Ix c (k + 1) u' C) → ∃ v w', (Instr.endRound (w.heap.size + 1) (some c)).run P C = .ok v w' ∧
        ((Ending.returned v = .returned (.bool true) ∧ ∃ u', (I (k + 1) u' w' ∧ w'.heap[w.heap.size + 1]? = some (.loop (rc .ready none)) ∧ w'.heap[w.heap.size]? = some (.deferred (some []))) ∧ Rest V.heap.size A w' u ∧ OwnStep A u u') ∨
         (Ending.returned v = .returned (.bool false) ∧ ∃ u' c, Ix c (k + 1) u' w' ∧ w'.heap[w.heap.size + 1]? = some (.loop (rc .done (some c))) ∧ w'.heap[w.heap.size]? = some (.deferred (some [])))) := by
      rintro c C hk ⟨u', hx⟩
      obtain ⟨hr, hC, h1, h2⟩ := fin (some c) C hk
      exact ⟨_, _, hr, .inr ⟨rfl, u', c, turnx _ hx hC rfl, h1, h2⟩⟩
    rintro e a3 C hp
    cases e with
    | normal =>
      obtain ⟨hk, u', hi2, hrest, hown⟩ := hp
      obtain ⟨hr, hC, h1, h2⟩ := fin none C hk
      refine ⟨_, _, hr, .inl ⟨rfl, u', ⟨turn _ hi2 hC rfl, h1, h2⟩, ⟨?_, fun r hr1 hr2 hr3 => ?_⟩, fun q hq => ?_⟩⟩
      · have := hrest.size
        simp
        omega
      · rw [World.putObj_heap_other (by omega), hrest.same r (by omega) (by omega) hr3, hBr r (by omega)]
      · have := hown q hq
        rw [hBs] at this
        exact this
    | ret => exact stop .ret C hp.1 hp.2
    | exit id => exact stop (.exit id) C hp.1 hp.2
    | goto t => exact stop (.goto t) C hp.1 hp.2
    | panic ch => exact hp.elim
    | outgrown => exact hp.elim
  · -- behind it
    rintro e C ⟨⟨v, rfl⟩, k, u, c, hx, hl, hd⟩
    have hr := run_endLoop (P := P) hl (by rw [hrc]; simp)
    rw [hrc] at hr
    exact ⟨some c, _, hr, wpIn_wide.2 (hstop _ c k u _ (Nat.le_refl _) (turnx _ hx hl rfl) ((World.putObj_heap_other (by omega)).trans hd))⟩
end Go.Proofs.Ytlnfkkapepgilaa
