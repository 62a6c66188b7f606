/-
  append of a move, where the old row lies as before unless the new one is the same block. Conditions as the law states.
-/
import Derived.Test.YtnbgnoimanpjnaaGmade
namespace Go.Proofs.Ytnbgnoimanpjnaa
set_option linter.unusedVariables false
open Go.RowKit

theorem run_appm {P : Program} (w : World) (st ty : TypeId) (x : Nat → Nat) (B : Nat) (v : Value) (l : List (Nat → Nat)) (H : Nat)
    (ht : P.underlying st = some (.slice 68)) (hi : (P.info? 68).map (fun i => (i.zero, i.size, i.bytes)) = some (some (.agg #[.int .i64 0, .int .i64 0, .int .i64 0, .int .i64 0, .int .i64 0, .int .i64 0, .int .i64 0]), 7, 56))
    (hown : OM B w v l) (hr : w.rangeAt H 0 (mvC x)) (hlen : l.length ≤ 1000000000) (hB : B ≤ w.heap.size) :
    ∃ g c w', (Builtin.append_ #[st, st] ty #[v, .slice (some ⟨H, 0, none⟩) 1 1]).run P w = .ok (.slice (some ⟨g, 0, none⟩) (l.length + 1) c) w' ∧ OM B w' (.slice (some ⟨g, 0, none⟩) (l.length + 1) c) (l ++ [x]) ∧ w.grownBy w' v.ownBlock ∧ (v.ownBlock = some g ∨ g = w.heap.size) ∧ g < w'.heap.size ∧ (v.ownBlock = some g ∨ w.grownBy w' none) := by
  obtain ⟨i0, hi1, hz0, hz1, hz2⟩ := info_parts hi
  have hnews : ∀ j u, (mvC x)[j]? = some u → w.cell? ((⟨H, 0, none⟩ : Addr).add j) = some u := fun j u hj => by
    have := hr j u hj
    rw [Addr.add_mid]
    exact this
  have hone : ∀ u ∈ mvC x, u.oneCell' = true := by
    intro u hu
    obtain ⟨i, _, rfl⟩ := List.mem_map.1 hu
    rfl
  have hbytes : (l.length + 1) * 56 ≤ 140737488355328 := by omega
  obtain ⟨g, c, w', h1, h2, h3, h4, h5⟩ := run_append_lies (P := P) w st ty B 68 i0 _ 7 56 ht hi1 hz0 hz1 hz2 rfl (by decide) v l.length (flM l) hown ⟨H, 0, none⟩ 1 1 (mvC x) (by rw [mvC_len]) hnews hone (by decide) (by unfold maxLen; omega) hbytes hB _ rfl
  refine ⟨g, c, w', h1, ?_, h3, h4, h5, ?_⟩
  · unfold OM
    rw [flM_app, List.length_append]
    simpa [flM] using h2
  · rcases hown.2 with ⟨rfl, _⟩ | ⟨b, cap, cur, rfl, hb, hc, hn, hcm, hcs, htk⟩
    · exact .inr h3
    · by_cases hroom : l.length + 1 ≤ cap
      · left
        have h6 := run_append_room (P := P) w st ty 68 i0 ht hi1 b l.length cap cur hc ⟨H, 0, none⟩ 1 1 (mvC x) (by rw [mvC_len, hz1]) hnews hone hroom (by rw [mvC_len, hz1, hcs]; omega)
        rw [h1] at h6
        simp only [Result.ok.injEq, Value.slice.injEq, Option.some.injEq, Addr.mk.injEq] at h6
        rw [h6.1.1.1]
        rfl
      · right
        have holds := World.ownsRow.cells hown (g := b) rfl
        have hfit : Builtin.nextslicecap (l.length + 1) cap * i0.bytes ≤ 281474976710656 := by
          rw [hz2]
          exact growslice_fits (by omega) hbytes
        have h6 := run_append_grow (P := P) w st ty 68 i0 _ ht hi1 hz0 ⟨b, 0, none⟩ l.length cap (flM l) (by rw [flM_len, hz1]) holds ⟨H, 0, none⟩ 1 1 (mvC x) (by rw [mvC_len, hz1]) hnews (by omega) (by omega) hfit
        rw [h1] at h6
        simp only [Result.ok.injEq] at h6
        rw [h6.2]
        exact ⟨rfl, rfl, rfl, by simp, fun k hk _ => Below.heap_alloc w.drew _ k hk⟩
/-- At the operation. -/
theorem wpList_appm2 {P : Program} {ops : Array Oper} {rest : List Oper} {o : Oper} {a : Act} {Q : Exit → Act → World → Prop} {w : World} {H : Nat} (x : Nat → Nat) (w0 : World) (s y : Operand) (st : TypeId)
    (hgd : o.guard = none) (ho : o.op = .call { callee := .builtin .append, args := #[s, y], argTypes := #[st, st] })
    (ht : P.underlying st = some (.slice 68)) (hi : (P.info? 68).map (fun i => (i.zero, i.size, i.bytes)) = some (some (.agg #[.int .i64 0, .int .i64 0, .int .i64 0, .int .i64 0, .int .i64 0, .int .i64 0, .int .i64 0]), 7, 56))
    (B : Nat) (v : Value) (l : List (Nat → Nat)) (hs : a.eval s = v) (hown : OM B w0 v l) (hy : a.eval y = .slice (some ⟨H, 0, none⟩) 1 1)
    (hlen : l.length ≤ 1000000000) (hB : B ≤ w0.heap.size)
    (hr : w.rangeAt H 0 (mvC x))
    (h0 : Below w0.heap.size w0 w)
    (h : ∀ g c w', OM B w' (.slice (some ⟨g, 0, none⟩) (l.length + 1) c) (l ++ [x]) → w0.grownBy w' v.ownBlock → (v.ownBlock = some g ∨ w0.heap.size ≤ g) → g < w'.heap.size → (v.ownBlock = some g ∨ w0.grownBy w' none) → wpList P ops Q rest (a.put o.dst (.slice (some ⟨g, 0, none⟩) (l.length + 1) c)) w') :
    wpList P ops Q (o :: rest) a w := by
  have hsz := h0.size
  have lift : ∀ {w' : World} {row : Option Nat}, w.grownBy w' row → w0.grownBy w' row := fun h2 => ⟨h2.os.trans h0.os, h2.tape.trans h0.tape, h2.output.trans h0.output, Nat.le_trans hsz h2.size, fun k hk hne => (h2.block k (by omega) hne).trans (h0.block k hk)⟩
  refine wpList_plain hgd fun K hK => ?_
  obtain ⟨g, c, w', h1, h2, h3, h4, h5, h6⟩ := run_appm w st o.type x B v l H ht hi (hown.below h0) hr hlen (by omega)
  unfold Oper.wp execOp
  simp only [ho, resolve, invoke, builtin, Sem.run_bind, Sem.run_pure, Result.andThen_ok, List.map_toArray, List.map_cons, List.map_nil, hs, hy, h1]
  exact hK _ _ (h g c w' h2 (lift h3) (h4.imp id fun e => by omega) h5 (h6.imp id lift))
/-- What read the row before the append reads the same behind it. -/
theorem RM.appended {B : Nat} {w w' : World} {b n c : Nat} {v : Value} {old l : List (Nat → Nat)} {x : Nat → Nat} {g c' : Nat} (h : RM w (.slice (some ⟨b, 0, none⟩) n c) old) (hpre : old <+: l)
    (hO : OM B w' (.slice (some ⟨g, 0, none⟩) (l.length + 1) c') (l ++ [x])) (hg : w.grownBy w' v.ownBlock) (hk : v.ownBlock = some g ∨ w.grownBy w' none) : RM w' (.slice (some ⟨b, 0, none⟩) n c) old := by
  obtain ⟨a, c2, e, h2⟩ := h
  simp only [Value.slice.injEq] at e
  obtain ⟨rfl, rfl, rfl⟩ := e
  refine ⟨_, _, rfl, fun hp => ?_⟩
  obtain ⟨b', e, hlt, hr⟩ := h2 hp
  obtain rfl : b = b' := by simpa using e
  refine ⟨b, rfl, Nat.lt_of_lt_of_le hlt hg.size, fun i hi => ?_⟩
  by_cases hb : v.ownBlock = some b
  · rcases hk with hk | hk
    · obtain rfl : b = g := by rw [hb] at hk; exact Option.some.inj hk
      obtain ⟨t, rfl⟩ := hpre
      have := hO.range (i := i) (by simp; omega)
      rw [List.append_assoc, List.getD_eq_getElem?_getD, List.getElem?_append_left hi, ← List.getD_eq_getElem?_getD] at this
      exact this
    · intro q u hq
      exact (hk.cell_far _ hlt (by simp)).trans (hr i hi q u hq)
  · intro q u hq
    exact (hg.cell_far _ hlt (fun e => hb e.symm)).trans (hr i hi q u hq)
end Go.Proofs.Ytnbgnoimanpjnaa
