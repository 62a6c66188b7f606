/-
  The walk over group.moveOf. Conditions: the slice can be read, a permutation of 1 to 7 points.
-/
import Derived.Test.YtnbgnoimanpjnaaGmove
import Derived.Test.YtnbgnoimanpjnaaGPinv
import Derived.Laws.CopyOwn
namespace Go.Proofs.Ytnbgnoimanpjnaa
set_option linter.unusedVariables false
open Go.RowKit

/-- A permutation of the numbers below n, the others left. -/
def mvF (n : Nat) (f : Nat → Nat) (i : Nat) : Nat := if i < n then f i else i
theorem mvF_mv {n : Nat} {f : Nat → Nat} (P : Pm n f) : Mv n (mvF n f) := by
  refine ⟨⟨fun i hi => ?_, fun i j hi hj h => ?_⟩, fun i hi => if_neg (by omega)⟩
  · unfold mvF; rw [if_pos hi]; exact P.lt i hi
  · unfold mvF at h; rw [if_pos hi, if_pos hj] at h; exact P.inj i j hi hj h
theorem Mv.lt7 {n : Nat} {f : Nat → Nat} (P : Mv n f) (hn : n ≤ 7) : ∀ i, i < 7 → f i < 7 := fun i hi => by
  by_cases h : i < n
  · have := P.pm.lt i h; omega
  · rw [P.st i (by omega)]; exact hi

/-- A whole array stored, the world behind it a variable. -/
theorem wpList_store_arr {P : Program} {ops : Array Oper} {rest : List Oper} {op : Oper} {a : Act} {w : World} {Q : Exit → Act → World → Prop} (hgd : op.guard = none) (ty : TypeId) (x y : Operand) (ho : op.op = .store ty x y)
    (b : Nat) (cells : List Value) (hx : a.eval x = .pointer (some ⟨b, 0, none⟩)) (hy : a.eval y = .agg cells.toArray) {t : TypeId} {xs : List Value} (hA : Arr w b t xs) (hl : xs.length = cells.length)
    (hi : (P.info? ty).map (·.size) = some cells.length) (h1 : cells.toArray.all (·.oneCell') = true)
    (h : ∀ w', Arr w' b t cells → w.grownBy w' (some b) → wpList P ops Q rest (a.put op.dst undef) w') : wpList P ops Q (op :: rest) a w := by
  refine wpList_store_mid hgd ty x y ho b 0 cells.toArray hx hy ?_ (by rw [List.size_toArray]; exact hi) h1 ?_
  · have := hA.there
    rw [hl] at this
    rw [List.size_toArray]
    exact this
  · have h2 := Arr.setCells cells [] xs w hA hl
    exact h _ h2 (grown_setCells cells 0 w)

set_option maxHeartbeats 400000 in
set_option maxRecDepth 10000 in
theorem moveof_ok (v : Value) (l : List Int) (N : Nat) (f : Nat → Nat) (w : World) (hl : Sl w v l) (P : PmL l N f) (h1 : 1 ≤ N) (h7 : N ≤ 7) :
    Calls Try.prog 54 #[v] w fun e w' => e = .returned (mvV (mvF N f)) ∧ Below w.heap.size w w' := by
  have HST := hid (fun w1 => gstay_ok w1)
  have hat := P.at'
  obtain ⟨a, c, N', rfl, hN, hl1, hl2⟩ := hl.open
  obtain rfl : N' = N := by rw [← hN.out]; exact P.len
  obtain ⟨b, off, rfl, hb, hc⟩ := hl2 (by omega)
  have HC : Hid (∀ i, i < N' → w.cell? ⟨b, off + i, none⟩ = some (.int .i64 (f i : Int))) := hid (fun i hi => by rw [hc i hi, hat i hi])
  have hcut : splice (mvC id) 0 ((List.range N').map fun i => Value.int .i64 ((f i : Nat) : Int)) = mvC (mvF N' f) := by
    refine List.ext_getElem? fun j => ?_
    unfold splice
    rw [List.take_zero, List.nil_append, List.length_map, List.length_range, Nat.zero_add]
    by_cases hj : j < N'
    · rw [List.getElem?_append_left (by simpa using hj), mvC_get (by omega), List.getElem?_map, List.getElem?_range hj]
      simp [mvF, hj]
    · rw [List.getElem?_append_right (by simp; omega), List.length_map, List.length_range, List.getElem?_drop, show N' + (j - N') = j by omega]
      by_cases hj7 : j < 7
      · rw [mvC_get hj7, mvC_get hj7]
        simp [mvF, hj]
      · rw [List.getElem?_eq_none (by rw [mvC_len]; omega), List.getElem?_eq_none (by rw [mvC_len]; omega)]
  have HCUT := hid hcut
  clear hl hl2 hc hat P hN hcut
  go_enter Try.func54, Try.ntmps54
  go_wp2_with fail
  have hb0 : Below w.heap.size w (w.alloc (.cells (mvC fun _ => 0).toArray 68)) := (Below.refl _ _).alloc (Nat.le_refl _) _
  have hA1 : Arr (w.alloc (.cells (mvC fun _ => 0).toArray 68)) w.heap.size 68 (mvC fun _ => 0) := Arr.new w _ _
  refine (HST.out _).mono ?_
  rintro e w1 ⟨rfl, hb1⟩
  have hA1' := hA1.below hb1
  have B1 := hb0.trans (hb1.mono hb0.size)
  clear hA1 hb0 hb1
  have hs1 : w.heap.size + 1 ≤ w1.heap.size := by have := hA1'.lt; omega
  have hA2 : Arr (w1.alloc (.cells #[.int .i64 0, .int .i64 0, .int .i64 0, .int .i64 0, .int .i64 0, .int .i64 0, .int .i64 0] 68)) w1.heap.size 68 (mvC fun _ => 0) := Arr.new w1 _ _
  have i2 : (Try.prog.info? 68).map (·.size) = some (mvC id).length := by rw [mvC_len]; exact mv_info
  have hb2 : Below (w.heap.size + 1) w1 (w1.alloc (.cells #[.int .i64 0, .int .i64 0, .int .i64 0, .int .i64 0, .int .i64 0, .int .i64 0, .int .i64 0] 68)) := (Below.refl _ _).alloc hs1 _
  have hzs : (w1.alloc (.cells #[.int .i64 0, .int .i64 0, .int .i64 0, .int .i64 0, .int .i64 0, .int .i64 0, .int .i64 0] 68)).heap.size = w1.heap.size + 1 := World.size_alloc _ _
  obtain ⟨cs, hcs⟩ : ∃ cs, ((List.range N').map fun i => Value.int .i64 ((f i : Nat) : Int)) = cs := ⟨_, rfl⟩
  have hcl : cs.length = N' := by rw [← hcs]; simp
  have hc1 : ∀ v ∈ cs, v.oneCell' = true := by
    intro v hv
    rw [← hcs] at hv
    obtain ⟨i, _, rfl⟩ := List.mem_map.1 hv
    rfl
  have hsrc : ∀ w2, Below (w.heap.size + 1) w1 w2 → ∀ j v, cs[j]? = some v → w2.cell? ((⟨b, off, none⟩ : Addr).add j) = some v := by
    intro w2 hbl j v hv
    have hj : j < N' := by rw [← hcl]; exact (List.getElem?_eq_some_iff.1 hv).1
    rw [← hcs, List.getElem?_map, List.getElem?_range hj] at hv
    rw [Addr.add_mid, (hbl.cell (p := ⟨b, off + j, none⟩) (by show b < w.heap.size + 1; omega)), (B1.cell (p := ⟨b, off + j, none⟩) hb), HC.out j hj]
    exact hv
  rw [hcs] at HCUT
  have i3 : (Try.prog.info? 68).map (·.size) = some (mvC (mvF N' f)).length := by rw [mvC_len]; exact mv_info
  have hmin : cs.length = Nat.min N' 7 := by rw [hcl]; exact (Nat.min_eq_left h7).symm
  have HM := hid hmin
  have HSRC := hid hsrc
  have HA1 := hid hA1'
  have HA2 := hid hA2
  have HB1 := hid B1
  have HB2 := hid hb2
  have HCL := hid hcl
  have HZS := hid hzs
  clear hmin hsrc hb2 hA1' B1 hcs hA2 hcl hzs
  unfold mvV
  go_wp2_with (first
    | (refine wpList_store_arr rfl 68 _ _ rfl w1.heap.size (mvC id) rfl rfl HA2.out (by rw [mvC_len, mvC_len]) i2 (mvC_one _) ?_
       intro w2 hA3 hg3
       have HA3 := hid hA3
       have HB3 := hid (HB2.out.grown hg3 (by rw [HZS.out]; omega) (fun b e => by cases e; exact hs1))
       clear hA3 hg3)
    | (refine wpList_copy_splice rfl _ _ 23 23 rfl 3 Try.underlying23 (by kernel_rfl) _ _ _ _ _ _ rfl rfl w1.heap.size 0 (mvC id) 68 HA3.out cs HM.out (fun _ => ⟨rfl, _, rfl, HSRC.out _ HB3.out⟩) (by rw [mvC_len]; have := HCL.out; omega) hc1 (w.heap.size + 1) w1 HB3.out hs1 ?_
       intro w3 HG2 hB2
       have hA4 : Arr w3 w1.heap.size 68 (mvC (mvF N' f)) := by have := HG2.out; rw [HCUT.out] at this; exact this
       have HA5 : Hid (Arr w3 w.heap.size 68 (mvC fun _ => 0)) := hid ((hB2.block w.heap.size (by omega)).trans HA1.out)
       have r2 := hA4.range
       have HB9 := hid (HB1.out.trans (hB2.mono (by omega)))
       clear hA4 HG2 hB2)
    | (refine wpList_load_mid rfl 68 _ rfl w1.heap.size 0 rfl (mvC (mvF N' f)) _ r2 Try.underlying68 rfl i3 ?_; clear r2)
    | (refine wpList_store_arr rfl 68 _ _ rfl w.heap.size (mvC (mvF N' f)) rfl rfl HA5.out (by rw [mvC_len, mvC_len]) i3 (mvC_one _) ?_
       intro w4 hA6 hg6
       have HA6 := hid hA6
       have HBX := hid (HB9.out.grown hg6 HB9.out.size (fun b e => by cases e; exact Nat.le_refl _))
       clear hA6 hg6)
    | fail)
  have hrd := HA6.out.range
  have hld := run_loadVar_mid (P := Try.prog) _ _ _ 68 _ _ hrd Try.underlying68 rfl i3
  refine ⟨rfl, .agg (mvC (mvF N' f)).toArray, ?_, rfl, HBX.out⟩
  show ((results _ _).run _ _) = _
  simp [results, Try.f54, asAddr, Act.put, hld]
end Go.Proofs.Ytnbgnoimanpjnaa
