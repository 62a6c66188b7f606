/-
  A region that draws its order inside a round: ten reads and two stores, of which the first may come before some of the reads. Every order ends alike. Conditions: what the cells hold; the two stores hit none of the cells that are read.
-/
import Derived.Test.YtlnfkkapepgilaaStillIn
namespace Go.Proofs.Ytlnfkkapepgilaa
set_option linter.unusedVariables false
open Go.RowKit

/-- The i-th operation of a region. -/
def OpAt (ops : Array Oper) (i : Nat) (op : Op) (dst : Option Tmp) : Prop := ∃ o, ops[i]? = some o ∧ o.op = op ∧ o.dst = dst ∧ o.guard = none
theorem wpOpIn_at {ops : Array Oper} {i : Nat} {op : Op} {dst : Option Tmp} {P : Program} {Q : Exit → Act → World → Prop} {K : Act → World → Prop} {a : Act} {w w' : World} {l n : Nat} {r : Value} (h : OpAt ops i op dst) (hnd : ∀ c, op ≠ .defer c)
    (hr : ∀ o : Oper, o.op = op → (execOp a.eval o).run P w = .ok (.value r) w') (hK : K (a.put dst r) w') : wpOpIn (Fence.wide.inRound l) n P ops Q i K a w := by
  obtain ⟨o, h1, h2, h3, h4⟩ := h
  unfold wpOpIn
  simp only [h1]
  rw [if_pos (by simp [Region.wanted, h4])]
  refine ⟨fun _ _ => trivial, ?_⟩
  show o.uponIn (Fence.wide.inRound l) n P a K Q ((o.semAt (some l) a.eval).run P w)
  rw [Oper.semAt_some l _ _ (by rw [h2]; exact hnd), hr o h2]
  show K (a.put o.dst r) w'
  rw [h3]
  exact hK
theorem wpOpIn_at_skip {ops : Array Oper} {i : Nat} {op : Op} {P : Program} {Q : Exit → Act → World → Prop} {K : Act → World → Prop} {a : Act} {w w' : World} {l n : Nat} (h : OpAt ops i op none) (hnd : ∀ c, op ≠ .defer c)
    (hr : ∀ o : Oper, o.op = op → (execOp a.eval o).run P w = .ok .skip w' ∨ ∃ r, (execOp a.eval o).run P w = .ok (.value r) w') (hK : K a w') : wpOpIn (Fence.wide.inRound l) n P ops Q i K a w := by
  obtain ⟨o, h1, h2, h3, h4⟩ := h
  unfold wpOpIn
  simp only [h1]
  rw [if_pos (by simp [Region.wanted, h4])]
  refine ⟨fun _ _ => trivial, ?_⟩
  show o.uponIn (Fence.wide.inRound l) n P a K Q ((o.semAt (some l) a.eval).run P w)
  rw [Oper.semAt_some l _ _ (by rw [h2]; exact hnd)]
  rcases hr o h2 with h5 | ⟨r, h5⟩
  · rw [h5]
    show K (a.put o.dst undef) w'
    rw [h3]
    exact hK
  · rw [h5]
    show K (a.put o.dst r) w'
    rw [h3]
    exact hK

theorem wpAnyIn_inv {F : Fence} {n : Nat} {P : Program} {md : Region.Mode} {ops : Array Oper} {Q : Exit → Act → World → Prop} (Inv : Array Bool → Act → World → Prop)
    (hstep : ∀ listed a w, Inv listed a w → ∀ i ∈ Region.ready md ops listed, wpOpIn F n P ops Q i (fun a' w' => Inv (listed.setIfInBounds i true) a' w') a w)
    (hend : ∀ listed a w, Inv listed a w → Region.ready md ops listed = [] → Q .normal a w) :
    ∀ (f : Nat) (listed : Array Bool) (a : Act) (w : World), listed.size = ops.size → (listed.toList.filter (· == false)).length ≤ f → Inv listed a w → wpAnyIn F n P md ops Q f listed a w
  | 0, listed, a, w, hs, hf, h => by
    have h0 : Region.ready md ops listed = [] := by
      rw [List.eq_nil_iff_forall_not_mem]
      intro j hj
      obtain ⟨h1, o, h2, _⟩ := mem_ready.1 hj
      have hlt : j < listed.size := by rw [hs]; exact (Array.getElem?_eq_some_iff.1 h2).1
      have h3 : listed[j] = false := by simpa [hlt] using h1
      have h4 : (listed.toList.filter (· == false)) = [] := List.eq_nil_of_length_eq_zero (by omega)
      rw [List.filter_eq_nil_iff] at h4
      exact h4 listed[j] (by simp) (by rw [h3]; rfl)
    exact ⟨h0, hend _ _ _ h h0⟩
  | f + 1, listed, a, w, hs, hf, h => by
    refine ⟨fun h0 => hend _ _ _ h h0, fun i hi => ?_⟩
    refine wpOpIn_mono (fun a' w' h' => wpAnyIn_inv Inv hstep hend f _ a' w' (by simpa using hs) ?_ h') (hstep _ _ _ h i hi)
    obtain ⟨h1, o, h2, _⟩ := mem_ready.1 hi
    have hlt : i < listed.size := by rw [hs]; exact (Array.getElem?_eq_some_iff.1 h2).1
    have h3 : listed[i] = false := by simpa [hlt] using h1
    have key : ∀ (l : List Bool) (i : Nat) (hi : i < l.length), l[i] = false → ((l.set i true).filter (· == false)).length + 1 = (l.filter (· == false)).length := by
      intro l
      induction l with
      | nil => intro i hi; simp at hi
      | cons x l ih =>
        intro i hi hx
        cases i with
        | zero => simp at hx; subst hx; simp
        | succ i =>
          simp only [List.set_cons_succ, List.filter_cons]
          have := ih i (by simpa using hi) (by simpa using hx)
          cases x <;> simp at this ⊢ <;> omega
    have := key listed.toList i (by simpa using hlt) (by simpa using h3)
    rw [Array.toList_setIfInBounds]
    omega

theorem listed_set {listed : Array Bool} {i j : Nat} (h : i < listed.size) : (listed.setIfInBounds i true).getD j false = if i = j then true else listed.getD j false := by
  by_cases e : i = j
  · subst e; simp [h]
  · simp [e]

theorem put_get {a : Act} {d j : Nat} {v : Value} (h : d < a.tmps.size) : (a.put (some d) v).tmps.getD j undef = if d = j then v else a.tmps.getD j undef := by
  show (a.tmps.setIfInBounds d v).getD j undef = _
  by_cases e : d = j
  · subst e; simp [h]
  · simp [e]
theorem put_size {a : Act} {d : Nat} {v : Value} : (a.put (some d) v).tmps.size = a.tmps.size := by
  show (a.tmps.setIfInBounds d v).size = _
  simp

/-- The reads' values. -/
def val14 (g c S : Nat) (a b m : Int) : Nat → Value
  | 0 => .slice (some ⟨g, 0, none⟩) S S
  | 1 => .int .i64 c
  | 2 => .pointer (some ⟨g, c, none⟩)
  | 3 => .int .i64 a
  | 4 => .int .i64 m
  | 5 => .slice (some ⟨g, 0, none⟩) S S
  | 6 => .int .i64 c
  | 7 => .pointer (some ⟨g, c, none⟩)
  | 8 => .int .i64 a
  | _ => .int .i64 b

structure Inv14 (b8 b9 b10 b13 b14 g c S : Nat) (a b m : Int) (W : World) (listed : Array Bool) (x : Act) (w : World) : Prop where
  ls : listed.size = 12
  ts : 62 < x.tmps.size
  t8 : x.tmps.getD 8 undef = .pointer (some ⟨b8, 0, none⟩)
  t9 : x.tmps.getD 9 undef = .pointer (some ⟨b9, 0, none⟩)
  t10 : x.tmps.getD 10 undef = .pointer (some ⟨b10, 0, none⟩)
  t13 : x.tmps.getD 13 undef = .pointer (some ⟨b13, 0, none⟩)
  t14 : x.tmps.getD 14 undef = .pointer (some ⟨b14, 0, none⟩)
  rd : ∀ i, i < 10 → listed.getD i false = true → x.tmps.getD (53 + i) undef = val14 g c S a b m i
  w0 : listed.getD 10 false = false → w = W
  w1 : listed.getD 10 false = true → listed.getD 11 false = false → w = W.setCell ⟨b8, 0, none⟩ (.int .i64 a)
  w2 : listed.getD 11 false = true → w = (W.setCell ⟨b8, 0, none⟩ (.int .i64 a)).setCell ⟨b9, 0, none⟩ (.int .i64 b)
  c11 : listed.getD 11 false = true → ∀ j, j < 12 → listed.getD j false = true

/-- What the cells hold in a world. -/
structure Cells14 (b8 b9 b10 b13 b14 g c S : Nat) (a m : Int) (w : World) : Prop where
  k10 : w.cell? ⟨b10, 0, none⟩ = some (.slice (some ⟨g, 0, none⟩) S S)
  k13 : w.cell? ⟨b13, 0, none⟩ = some (.int .i64 m)
  k14 : w.cell? ⟨b14, 0, none⟩ = some (.int .i64 c)
  kg : w.cell? ⟨g, c, none⟩ = some (.int .i64 a)
  k8 : ∃ v, w.cell? ⟨b8, 0, none⟩ = some v
  f8 : w.frozen? ⟨b8, 0, none⟩ = false
  k9 : ∃ v, w.cell? ⟨b9, 0, none⟩ = some v
  f9 : w.frozen? ⟨b9, 0, none⟩ = false

theorem waits_listed {ops : Array Oper} {listed : Array Bool} {i d : Nat} (hi : i ∈ Region.ready .any ops listed) (hd : Region.waitsFor .any ops i d = true) : listed.getD d false = true := by
  obtain ⟨o, h1, e, h2, h3, h4⟩ := Region.waitsFor_spec hd
  obtain ⟨_, o', h5, h6⟩ := mem_ready.1 hi
  rw [h1] at h5
  cases h5
  rw [← h4]
  exact h6 e h2 h3

section
variable {b8 b9 b10 b13 b14 g c S : Nat} {a b m : Int} {W : World} {listed : Array Bool} {x : Act} {w : World}
theorem Inv14.read (h : Inv14 b8 b9 b10 b13 b14 g c S a b m W listed x w) {i : Nat} (hi : i < 10) (hn : listed.getD 11 false = false) : Inv14 b8 b9 b10 b13 b14 g c S a b m W (listed.setIfInBounds i true) (x.put (some (53 + i)) (val14 g c S a b m i)) w := by
  have hts := h.ts
  have hls := h.ls
  have hp : ∀ j, (x.put (some (53 + i)) (val14 g c S a b m i)).tmps.getD j undef = if 53 + i = j then val14 g c S a b m i else x.tmps.getD j undef := fun j => put_get (by omega)
  have hl : ∀ j, (listed.setIfInBounds i true).getD j false = if i = j then true else listed.getD j false := fun j => listed_set (by omega)
  refine ⟨by simp [h.ls], by rw [put_size]; exact h.ts, ?_, ?_, ?_, ?_, ?_, ?_, ?_, ?_, ?_, ?_⟩
  · rw [hp, if_neg (by omega)]; exact h.t8
  · rw [hp, if_neg (by omega)]; exact h.t9
  · rw [hp, if_neg (by omega)]; exact h.t10
  · rw [hp, if_neg (by omega)]; exact h.t13
  · rw [hp, if_neg (by omega)]; exact h.t14
  · intro j hj hlj
    rw [hp]
    by_cases e : i = j
    · subst e; rw [if_pos rfl]
    · rw [if_neg (by omega)]
      rw [hl, if_neg e] at hlj
      exact h.rd j hj hlj
  · rw [hl, if_neg (by omega)]; exact h.w0
  · rw [hl, hl, if_neg (by omega), if_neg (by omega)]; exact h.w1
  · rw [hl, if_neg (by omega)]; exact h.w2
  · rw [hl, if_neg (by omega), hn]; intro e; cases e
end

/-- Each operation waits for earlier ones alone. -/
def backB (ops : Array Oper) : Bool := (List.range ops.size).all fun j => ((ops[j]?).map fun o => o.after.all fun e => decide (e.on < j)).getD true
theorem all_listed {ops : Array Oper} {listed : Array Bool} {n : Nat} (hb : backB ops = true) (hl : listed.size = n) (hs : ops.size = n) (h0 : Region.ready .any ops listed = []) : ∀ j, j < n → listed.getD j false = true := by
  intro j
  induction j using Nat.strongRecOn with
  | _ j ih =>
    intro hj
    cases e : listed.getD j false with
    | true => rfl
    | false =>
      exfalso
      have hlt : j < ops.size := by omega
      have h1 : j ∈ Region.ready .any ops listed := by
        refine mem_ready.2 ⟨getD_in (by omega) e, ops[j], by simp [hlt], fun a ha _ => ?_⟩
        have h2 := List.all_eq_true.1 hb j (List.mem_range.2 hlt)
        rw [Array.getElem?_eq_getElem hlt] at h2
        simp only [Option.map_some, Option.getD_some] at h2
        have h3 := Array.all_eq_true_iff_forall_mem.1 h2 a ha
        have h4 : a.on < j := by simpa using h3
        exact ih a.on h4 (by omega)
      rw [h0] at h1
      cases h1

set_option maxHeartbeats 1000000 in
theorem period_region {ops : Array Oper} {Q : Exit → Act → World → Prop} {l n : Nat} {b8 b9 b10 b13 b14 g c S : Nat} {a b m : Int} {W : World} {x : Act}
    (hsz : ops.size = 12) (q0 : OpAt ops 0 (.load 30 (.tmp 10)) (some 53)) (q1 : OpAt ops 1 (.load 3 (.tmp 14)) (some 54)) (q2 : OpAt ops 2 (.indexAddr 30 (.tmp 53) (.tmp 54)) (some 55)) (q3 : OpAt ops 3 (.load 3 (.tmp 55)) (some 56))
    (q4 : OpAt ops 4 (.load 3 (.tmp 13)) (some 57)) (q5 : OpAt ops 5 (.load 30 (.tmp 10)) (some 58)) (q6 : OpAt ops 6 (.load 3 (.tmp 14)) (some 59)) (q7 : OpAt ops 7 (.indexAddr 30 (.tmp 58) (.tmp 59)) (some 60)) (q8 : OpAt ops 8 (.load 3 (.tmp 60)) (some 61))
    (q9 : OpAt ops 9 (.binOp .sub 3 (.tmp 57) (.tmp 61) 3) (some 62)) (q10 : OpAt ops 10 (.store 3 (.tmp 8) (.tmp 56)) none) (q11 : OpAt ops 11 (.store 3 (.tmp 9) (.tmp 62)) none)
    (hdB : ([(2, 0), (2, 1), (3, 2), (7, 5), (7, 6), (8, 7), (9, 4), (9, 8), (10, 3), (11, 0), (11, 1), (11, 2), (11, 3), (11, 4), (11, 5), (11, 6), (11, 7), (11, 8), (11, 9), (11, 10)] : List (Nat × Nat)).all (fun p => Region.waitsFor .any ops p.1 p.2) = true)
    (hback : backB ops = true) (hcS : c < S) (hab : IntKind.i64.wrap (m - a) = b) (C0 : Cells14 b8 b9 b10 b13 b14 g c S a m W) (C1 : Cells14 b8 b9 b10 b13 b14 g c S a m (W.setCell ⟨b8, 0, none⟩ (.int .i64 a)))
    (hts : 62 < x.tmps.size) (t8 : x.tmps.getD 8 undef = .pointer (some ⟨b8, 0, none⟩)) (t9 : x.tmps.getD 9 undef = .pointer (some ⟨b9, 0, none⟩)) (t10 : x.tmps.getD 10 undef = .pointer (some ⟨b10, 0, none⟩)) (t13 : x.tmps.getD 13 undef = .pointer (some ⟨b13, 0, none⟩)) (t14 : x.tmps.getD 14 undef = .pointer (some ⟨b14, 0, none⟩))
    (hQ : ∀ y, Q .normal y ((W.setCell ⟨b8, 0, none⟩ (.int .i64 a)).setCell ⟨b9, 0, none⟩ (.int .i64 b))) :
    wpAnyIn (Fence.wide.inRound l) n Try.prog .any ops Q ops.size (Array.replicate ops.size false) x W := by
  have hd := List.all_eq_true.1 hdB
  have hrep : ∀ j, (Array.replicate ops.size false).getD j false = false := fun j => getD_replicate_false _ _
  refine wpAnyIn_inv (Inv14 b8 b9 b10 b13 b14 g c S a b m W) ?_ ?_ _ _ _ _ (by simp) ?_ ?_
  · intro listed y w h i hi
    have hni : listed.getD i true = false := (mem_ready.1 hi).1
    have hi12 : i < 12 := by
      obtain ⟨_, o, h2, _⟩ := mem_ready.1 hi
      have := (Array.getElem?_eq_some_iff.1 h2).1
      omega
    have hni' : listed.getD i false = false := getD_both hni
    have dep : ∀ d, Region.waitsFor .any ops i d = true → listed.getD d false = true := fun d hd => waits_listed hi hd
    have rd : ∀ j, j < 10 → Region.waitsFor .any ops i j = true → y.tmps.getD (53 + j) undef = val14 g c S a b m j := fun j hj hw => h.rd j hj (dep j hw)
    have y8 := h.t8
    have y9 := h.t9
    have y10 := h.t10
    have y13 := h.t13
    have y14 := h.t14
    by_cases h11 : i = 11
    · subst h11
      have e10 := dep 10 (hd (11, 10) (by simp))
      have hw := h.w1 e10 hni'
      have r9 := rd 9 (by omega) (hd (11, 9) (by simp))
      obtain ⟨v9, k9⟩ := C1.k9
      have f9 := C1.f9
      refine wpOpIn_at_skip q11 (by simp) (w' := (W.setCell ⟨b8, 0, none⟩ (.int .i64 a)).setCell ⟨b9, 0, none⟩ (.int .i64 b)) (fun o ho => ?_) ?_
      · left
        have r9' : y.tmps.getD 62 undef = .int .i64 b := r9
        subst hw
        unfold execOp
        simp only [ho, Act.eval, y9, r9']
        go_simp
      · have hl : ∀ j, (listed.setIfInBounds 11 true).getD j false = if 11 = j then true else listed.getD j false := fun j => listed_set (by rw [h.ls]; omega)
        refine ⟨by simp [h.ls], h.ts, y8, y9, y10, y13, y14, fun j hj hlj => ?_, fun e => ?_, fun _ e => ?_, fun _ => rfl, fun _ j hj => ?_⟩
        · rw [hl, if_neg (by omega)] at hlj; exact h.rd j hj hlj
        · rw [hl, if_neg (by omega), e10] at e; cases e
        · rw [hl, if_pos rfl] at e; cases e
        · rw [hl]
          split
          · rfl
          · have hj' : j = 0 ∨ j = 1 ∨ j = 2 ∨ j = 3 ∨ j = 4 ∨ j = 5 ∨ j = 6 ∨ j = 7 ∨ j = 8 ∨ j = 9 ∨ j = 10 := by omega
            rcases hj' with rfl | rfl | rfl | rfl | rfl | rfl | rfl | rfl | rfl | rfl | rfl <;> exact dep _ (hd (11, _) (by simp))
    · have hn11 : listed.getD 11 false = false := by
        cases e : listed.getD 11 false with
        | false => rfl
        | true => rw [h.c11 e i hi12] at hni'; cases hni'
      have hC : Cells14 b8 b9 b10 b13 b14 g c S a m w := by
        cases e : listed.getD 10 false with
        | false => rw [h.w0 e]; exact C0
        | true => rw [h.w1 e hn11]; exact C1
      have k10 := hC.k10
      have k13 := hC.k13
      have k14 := hC.k14
      have kg := hC.kg
      by_cases h10 : i = 10
      · subst h10
        have hw := h.w0 hni'
        have r3 := rd 3 (by omega) (hd (10, 3) (by simp))
        obtain ⟨v8, k8⟩ := C0.k8
        have f8 := C0.f8
        refine wpOpIn_at_skip q10 (by simp) (w' := W.setCell ⟨b8, 0, none⟩ (.int .i64 a)) (fun o ho => ?_) ?_
        · left
          have r3' : y.tmps.getD 56 undef = .int .i64 a := r3
          subst hw
          unfold execOp
          simp only [ho, Act.eval, y8, r3']
          go_simp
        · have hl : ∀ j, (listed.setIfInBounds 10 true).getD j false = if 10 = j then true else listed.getD j false := fun j => listed_set (by rw [h.ls]; omega)
          refine ⟨by simp [h.ls], h.ts, y8, y9, y10, y13, y14, fun j hj hlj => ?_, fun e => ?_, fun _ _ => rfl, fun e => ?_, fun e => ?_⟩
          · rw [hl, if_neg (by omega)] at hlj; exact h.rd j hj hlj
          · rw [hl, if_pos rfl] at e; cases e
          · rw [hl, if_neg (by omega), hn11] at e; cases e
          · rw [hl, if_neg (by omega), hn11] at e; cases e
      · have hi' : i = 0 ∨ i = 1 ∨ i = 2 ∨ i = 3 ∨ i = 4 ∨ i = 5 ∨ i = 6 ∨ i = 7 ∨ i = 8 ∨ i = 9 := by omega
        rcases hi' with rfl | rfl | rfl | rfl | rfl | rfl | rfl | rfl | rfl | rfl
        · refine wpOpIn_at q0 (by simp) (fun o ho => ?_) (h.read (i := 0) (by omega) hn11)
          unfold execOp
          simp only [ho, Act.eval, y10]
          go_simp
          all_goals (try rfl)
        · refine wpOpIn_at q1 (by simp) (fun o ho => ?_) (h.read (i := 1) (by omega) hn11)
          unfold execOp
          simp only [ho, Act.eval, y14]
          go_simp
          all_goals (try rfl)
        · have r0 : y.tmps.getD 53 undef = .slice (some ⟨g, 0, none⟩) S S := rd 0 (by omega) (hd (2, 0) (by simp))
          have r1 : y.tmps.getD 54 undef = .int .i64 c := rd 1 (by omega) (hd (2, 1) (by simp))
          refine wpOpIn_at q2 (by simp) (fun o ho => ?_) (h.read (i := 2) (by omega) hn11)
          unfold execOp
          simp only [ho, Act.eval, r0, r1]
          go_simp
          all_goals (try rfl)
        · have r2 : y.tmps.getD 55 undef = .pointer (some ⟨g, c, none⟩) := rd 2 (by omega) (hd (3, 2) (by simp))
          refine wpOpIn_at q3 (by simp) (fun o ho => ?_) (h.read (i := 3) (by omega) hn11)
          unfold execOp
          simp only [ho, Act.eval, r2]
          go_simp
          all_goals (try rfl)
        · refine wpOpIn_at q4 (by simp) (fun o ho => ?_) (h.read (i := 4) (by omega) hn11)
          unfold execOp
          simp only [ho, Act.eval, y13]
          go_simp
          all_goals (try rfl)
        · refine wpOpIn_at q5 (by simp) (fun o ho => ?_) (h.read (i := 5) (by omega) hn11)
          unfold execOp
          simp only [ho, Act.eval, y10]
          go_simp
          all_goals (try rfl)
        · refine wpOpIn_at q6 (by simp) (fun o ho => ?_) (h.read (i := 6) (by omega) hn11)
          unfold execOp
          simp only [ho, Act.eval, y14]
          go_simp
          all_goals (try rfl)
        · have r5 : y.tmps.getD 58 undef = .slice (some ⟨g, 0, none⟩) S S := rd 5 (by omega) (hd (7, 5) (by simp))
          have r6 : y.tmps.getD 59 undef = .int .i64 c := rd 6 (by omega) (hd (7, 6) (by simp))
          refine wpOpIn_at q7 (by simp) (fun o ho => ?_) (h.read (i := 7) (by omega) hn11)
          unfold execOp
          simp only [ho, Act.eval, r5, r6]
          go_simp
          all_goals (try rfl)
        · have r7 : y.tmps.getD 60 undef = .pointer (some ⟨g, c, none⟩) := rd 7 (by omega) (hd (8, 7) (by simp))
          refine wpOpIn_at q8 (by simp) (fun o ho => ?_) (h.read (i := 8) (by omega) hn11)
          unfold execOp
          simp only [ho, Act.eval, r7]
          go_simp
          all_goals (try rfl)
        · have r4 : y.tmps.getD 57 undef = .int .i64 m := rd 4 (by omega) (hd (9, 4) (by simp))
          have r8 : y.tmps.getD 61 undef = .int .i64 a := rd 8 (by omega) (hd (9, 8) (by simp))
          refine wpOpIn_at q9 (by simp) (fun o ho => ?_) (h.read (i := 9) (by omega) hn11)
          unfold execOp
          simp only [ho, Act.eval, r4, r8]
          go_simp
          all_goals (try (simp only [val14]))
  · intro listed y w h h0
    have hall : listed.getD 11 false = true := by
      exact all_listed hback h.ls hsz h0 11 (by omega)
    rw [h.w2 hall]
    exact hQ y
  · exact Nat.le_trans (List.length_filter_le _ _) (by simp)
  · refine ⟨by simp [hsz], hts, t8, t9, t10, t13, t14, fun i _ e => ?_, fun _ => rfl, fun e => ?_, fun e => ?_, fun e => ?_⟩
    all_goals (rw [hrep] at e; cases e)
end Go.Proofs.Ytlnfkkapepgilaa
