/-
  A law of our own: append of one number to a slice that lies anywhere in a block of the call's own ('Win'), where there is room and where there is none. No condition on the program but the numbers of two types.
-/
import Derived.Test.YtlnfkkapepgilaaBase
import Derived.Deep.RegionLawGrows
namespace Go.Proofs.Ytlnfkkapepgilaa
set_option linter.unusedVariables false
open Go.RowKit

/-- A slice of integers that lies anywhere in a block from B on. -/
def Win (B : Nat) (w : World) (v : Value) (xs : List Int) : Prop :=
  ∃ b off c cs, v = .slice (some ⟨b, off, none⟩) xs.length c ∧ B ≤ b ∧ w.heap[b]? = some (.cells cs 3 (0, 0)) ∧ xs.length ≤ c ∧ c ≤ maxLen ∧ off + c ≤ cs.size ∧ ∀ i, i < xs.length → cs[off + i]? = some (.int .i64 (xs.getD i 0))

theorem Win.of_ow {B : Nat} {w : World} {v : Value} {xs : List Int} (h : OI B w v xs) (hn : 1 ≤ xs.length) : Win B w v xs := by
  rcases h.2 with ⟨_, h0⟩ | ⟨g, cap, cur, rfl, hb, hg, hnc, hcm, hcs, htake⟩
  · rw [List.length_map] at h0; omega
  · rw [List.length_map] at *
    rw [Nat.mul_one] at *
    refine ⟨g, 0, cap, cur, rfl, hb, hg, hnc, hcm, by omega, fun i hi => ?_⟩
    have h1 : (cur.toList.take xs.length)[i]? = (xs.map (Value.int .i64))[i]? := by rw [htake]
    rw [List.getElem?_take, if_pos hi] at h1
    rw [Nat.zero_add, ← Array.getElem?_toList, h1]
    simp [hi]
theorem Win.lt {B b off n c : Nat} {w : World} {xs : List Int} (h : Win B w (.slice (some ⟨b, off, none⟩) n c) xs) : B ≤ b ∧ b < w.heap.size ∧ n = xs.length ∧ n ≤ c := by
  obtain ⟨b', off', c', cs, e, hb, hg, hl, hm, hs, hc⟩ := h
  simp only [Value.slice.injEq, Option.some.injEq, Addr.mk.injEq, and_true] at e
  obtain ⟨⟨rfl, rfl⟩, rfl, rfl⟩ := e
  exact ⟨hb, (Array.getElem?_eq_some_iff.1 hg).1, rfl, hl⟩
theorem Win.form {B : Nat} {w : World} {v : Value} {xs : List Int} (h : Win B w v xs) : ∃ b off c, v = .slice (some ⟨b, off, none⟩) xs.length c := by
  obtain ⟨b, off, c, cs, e, _⟩ := h
  exact ⟨b, off, c, e⟩
theorem Win.cell {B b off n c : Nat} {w : World} {xs : List Int} (h : Win B w (.slice (some ⟨b, off, none⟩) n c) xs) (i : Nat) (hi : i < xs.length) : w.cell? ⟨b, off + i, none⟩ = some (.int .i64 (xs.getD i 0)) := by
  obtain ⟨b', off', c', cs, e, hb, hg, hl, hm, hs, hc⟩ := h
  simp only [Value.slice.injEq, Option.some.injEq, Addr.mk.injEq, and_true] at e
  obtain ⟨⟨rfl, rfl⟩, rfl, rfl⟩ := e
  simp [World.cell?, hg, hc i hi]
theorem Win.same {B b off n c : Nat} {w w' : World} {xs : List Int} (h : Win B w (.slice (some ⟨b, off, none⟩) n c) xs) (e : w'.heap[b]? = w.heap[b]?) : Win B w' (.slice (some ⟨b, off, none⟩) n c) xs := by
  obtain ⟨b', off', c', cs, e1, hb, hg, hr⟩ := h
  have e2 := e1
  simp only [Value.slice.injEq, Option.some.injEq, Addr.mk.injEq, and_true] at e2
  obtain ⟨⟨rfl, rfl⟩, rfl, rfl⟩ := e2
  exact ⟨_, _, _, cs, e1, hb, e.trans hg, hr⟩
theorem Win.slice1 {B b off n c : Nat} {w : World} {xs : List Int} (h : Win B w (.slice (some ⟨b, off, none⟩) n c) xs) (h1 : 1 ≤ n) (off' : Nat) (ho : off' = if c = 1 then off else off + 1) : Win B w (.slice (some ⟨b, off', none⟩) (n - 1) (c - 1)) (xs.drop 1) := by
  obtain ⟨b', o', c', cs, e1, hb, hg, hl, hm, hs, hc⟩ := h
  simp only [Value.slice.injEq, Option.some.injEq, Addr.mk.injEq, and_true] at e1
  obtain ⟨⟨rfl, rfl⟩, rfl, rfl⟩ := e1
  have hlen : (xs.drop 1).length = xs.length - 1 := by simp
  refine ⟨b, off', c - 1, cs, by rw [hlen], hb, hg, by omega, by omega, ?_, fun i hi => ?_⟩
  · split at ho <;> omega
  · rw [hlen] at hi
    rw [if_neg (by omega)] at ho
    subst ho
    have := hc (1 + i) (by omega)
    rw [← Nat.add_assoc] at this
    rw [this, List.getD_eq_getElem?_getD, List.getD_eq_getElem?_getD, List.getElem?_drop]

theorem step_win {P : Program} {ops : Array Oper} {o : Oper} {a : Act} {K : Act → World → Prop} {Q : Exit → Act → World → Prop} {R : Prop} {w : World} {x : Int} {H : Nat} (w0 : World) (s y : Operand) (st : TypeId)
    (hgd : o.guard = none) (ho : o.op = .call { callee := .builtin .append, args := #[s, y], argTypes := #[st, st] })
    (ht : P.underlying st = some (.slice 3)) (hi : (P.info? 3).map (fun i => (i.zero, i.size, i.bytes)) = some (some (.int .i64 0), 1, 8))
    (B b off n c : Nat) (xs : List Int) (hs : a.eval s = .slice (some ⟨b, off, none⟩) n c) (hwin : Win B w0 (.slice (some ⟨b, off, none⟩) n c) xs) (hy : a.eval y = .slice (some ⟨H, 0, none⟩) 1 1)
    (hlen : xs.length ≤ 1000000000000) (hB : B ≤ w0.heap.size)
    (h : ∀ v' w', Win B w' v' (xs ++ [x]) → w0.grownBy w' (some b) → (∀ g, v'.ownBlock = some g → g = b ∨ w0.heap.size ≤ g) → K (a.put o.dst v') w')
    (h0 : Below w0.heap.size w0 w := by first | exact (Below.refl _ _).alloc (Nat.le_refl _) _ | exact ((Below.refl _ _).alloc (Nat.le_refl _) _).drew | exact ((Below.refl _ _).drew).alloc (Nat.le_refl _) _)
    (hcell : w.cell? ⟨H, 0, none⟩ = some (.int .i64 x) := by first | exact lit_cell _ _ _ | exact lit_cell_drew _ _ _ | exact lit_cell_at _ _ _ _ (by simp [World.setCell]) | go_simp) :
    if Region.wanted o (yielded ops a.tmps) = true then Oper.wp P o a w K Q else R := by
  obtain ⟨i0, hi1, hz0, hz1, hz2⟩ := info_parts hi
  have hwin2 := hwin
  obtain ⟨b', o', c', cs, e1, hb, hg, hl, hm, hsz, hc⟩ := hwin2
  simp only [Value.slice.injEq, Option.some.injEq, Addr.mk.injEq, and_true] at e1
  obtain ⟨⟨rfl, rfl⟩, rfl, rfl⟩ := e1
  have hblt := (Array.getElem?_eq_some_iff.1 hg).1
  have hgw : w.heap[b]? = some (.cells cs 3 (0, 0)) := (h0.block b hblt).trans hg
  have hnew : ∀ (j : Nat) (u : Value), [Value.int .i64 x][j]? = some u → w.cell? ((⟨H, 0, none⟩ : Addr).add j) = some u := by
    intro j u hj
    match j, hj with
    | 0, hj => simp at hj; subst hj; simpa [Addr.add] using hcell
  have hone : ∀ u ∈ [Value.int .i64 x], u.oneCell' = true := by intro u hu; simp at hu; subst hu; rfl
  by_cases hroom : xs.length + 1 ≤ c
  · refine step_append_room hgd s y st ho 3 i0 1 ht hi1 hz1 b off xs.length c hs ⟨H, 0, none⟩ 1 1 [.int .i64 x] hy rfl hnew hone hroom ?_ ?_
    · intro j hj
      simp at hj
      subst hj
      constructor
      · simp [World.cell?, hgw]; omega
      · simp [World.frozen?, hgw]
    · have hset : (w.setCells b (off + xs.length * 1) [.int .i64 x]).heap[b]? = some (.cells (cs.setIfInBounds (off + xs.length) (.int .i64 x)) 3 (0, 0)) := by
        show (w.heap.modify b _)[b]? = _
        have hlt : b < w.heap.size := (Array.getElem?_eq_some_iff.1 hgw).1
        rw [Array.getElem?_eq_getElem (by rw [Array.size_modify]; exact hlt), Array.getElem_modify_self, (Array.getElem?_eq_some_iff.1 hgw).2]
        simp
      refine h _ _ ⟨b, off, c, _, by simp, hb, hset, by simp; omega, hm, by simpa using hsz, fun i hi => ?_⟩ ?_ ?_
      · rw [List.length_append] at hi
        simp at hi
        rw [Array.getElem?_setIfInBounds]
        by_cases e : i = xs.length
        · subst e
          rw [if_pos rfl, if_pos (by omega)]
          simp
        · rw [if_neg (by omega), hc i (by omega), List.getD_eq_getElem?_getD, List.getD_eq_getElem?_getD, List.getElem?_append_left (by omega)]
      · refine ⟨h0.os, h0.tape, h0.output, ?_, fun k hk hne => ?_⟩
        · show w0.heap.size ≤ (w.heap.modify b _).size
          rw [Array.size_modify]; exact h0.size
        · exact (Below.heap_setCell w _ _ k (fun e => hne (by rw [e]))).trans (h0.block k hk)
      · intro g hg; simp [Value.ownBlock] at hg; exact .inl hg.symm
  · have hmx : maxLen = 9223372036854775807 := rfl
    refine step_append_grows hgd s y st ho 3 i0 (.int .i64 0) 1 8 ht hi1 hz0 hz1 hz2 rfl (by decide) (some ⟨b, off, none⟩) xs.length c (xs.map (Value.int .i64)) hs (by simp) (by simp) ?_ ⟨H, 0, none⟩ 1 1 [.int .i64 x] hy rfl hnew hone (by omega) (by unfold maxLen; omega) (by omega) ?_
    · intro b2 e j u hj
      cases e
      have hj2 : j < xs.length := by
        have := (List.getElem?_eq_some_iff.1 hj).1
        simpa using this
      have hadd : (⟨b, off, none⟩ : Addr).add j = ⟨b, off + j, none⟩ := by unfold Addr.add; split <;> simp_all
      rw [hadd]
      simp [World.cell?, hgw, hc j hj2]
      simp [hj2] at hj
      rw [← hj]
      simp [hj2]
    · intro v' w' hown hgr
      have hown' : OI w.heap.size w' v' (xs ++ [x]) := by
        unfold OI Ow
        simpa using hown
      have hw := Win.of_ow hown' (by simp)
      have hs0 := h0.size
      refine h v' w' ?_ ⟨hgr.os.trans h0.os, hgr.tape.trans h0.tape, hgr.output.trans h0.output, Nat.le_trans hs0 hgr.size, fun k hk hne => (hgr.block k (by omega) (by simp)).trans (h0.block k hk)⟩ ?_
      · obtain ⟨b', o', c', cs', r1, r2, r3⟩ := hw
        exact ⟨b', o', c', cs', r1, by omega, r3⟩
      · intro g hg
        have := (hown'.lt g hg).1
        right; omega
end Go.Proofs.Ytlnfkkapepgilaa
