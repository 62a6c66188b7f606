/-
  slices.Sort and slices.Compact of integers: the kit's contracts, laid at this program; a list sorted and compacted. Conditions: the slice is the call's own.
-/
import Derived.Test.YtnbgnoimanpjnaaGcom
import Derived.Test.YtnbgnoimanpjnaaGPcyc
import Derived.Shelf.Sort.Plain
import Derived.Shelf.Slices.CompactI
import Derived.Sort.OwnSortedInts
namespace Go.Proofs.Ytnbgnoimanpjnaa
set_option linter.unusedVariables false
open Go.RowKit Go.Shelf

set_option maxRecDepth 100000 in
def isortRen : Ren := ⟨fun x => match x with | 189 => 83 | 125 => 90 | 257 => 96 | 128 => 105 | 129 => 106 | 294 => 116 | 295 => 117 | 296 => 118 | 297 => 119 | 298 => 120 | 299 => 121 | 216 => 122 | 300 => 123 | 301 => 124 | 328 => 133 | 329 => 126 | 330 => 127 | 331 => 134 | 332 => 135 | 215 => 107 | 343 => 138 | n => n, fun x => match x with | 28 => 23 | 3 => 3 | 46 => 105 | 0 => 0 | 51 => 118 | 53 => 120 | 4 => 4 | 183 => 112 | 182 => 111 | 131 => 93 | 5 => 5 | 9 => 9 | 218 => 132 | 222 => 136 | 228 => 142 | 229 => 143 | n => n, fun n => n⟩
theorem isort : Lays.n189 Try.prog isortRen where
  mixed := by kernel_rfl
  f125 := Try.func90.trans (congrArg some (by kernel_rfl))
  f128 := Try.func105.trans (congrArg some (by kernel_rfl))
  f129 := Try.func106.trans (congrArg some (by kernel_rfl))
  f189 := Try.func83.trans (congrArg some (by kernel_rfl))
  f215 := Try.func107.trans (congrArg some (by kernel_rfl))
  f216 := Try.func122.trans (congrArg some (by kernel_rfl))
  f257 := Try.func96.trans (congrArg some (by kernel_rfl))
  f294 := Try.func116.trans (congrArg some (by kernel_rfl))
  f295 := Try.func117.trans (congrArg some (by kernel_rfl))
  f296 := Try.func118.trans (congrArg some (by kernel_rfl))
  f297 := Try.func119.trans (congrArg some (by kernel_rfl))
  f298 := Try.func120.trans (congrArg some (by kernel_rfl))
  f299 := Try.func121.trans (congrArg some (by kernel_rfl))
  f300 := Try.func123.trans (congrArg some (by kernel_rfl))
  f301 := Try.func124.trans (congrArg some (by kernel_rfl))
  f328 := Try.func133.trans (congrArg some (by kernel_rfl))
  f329 := Try.func126.trans (congrArg some (by kernel_rfl))
  f330 := Try.func127.trans (congrArg some (by kernel_rfl))
  f331 := Try.func134.trans (congrArg some (by kernel_rfl))
  f332 := Try.func135.trans (congrArg some (by kernel_rfl))
  f343 := Try.func138.trans (congrArg some (by kernel_rfl))
  t0 := Try.underlying0
  a0 := Try.isAgg0
  z0 := Try.sizeOf0
  v0 := Try.zeroValue0
  t3 := Try.underlying3
  a3 := Try.isAgg3
  z3 := Try.sizeOf3
  v3 := Try.zeroValue3
  t4 := Try.underlying4
  a4 := Try.isAgg4
  z4 := Try.sizeOf4
  v4 := Try.zeroValue4
  t5 := Try.underlying5
  a5 := Try.isAgg5
  z5 := Try.sizeOf5
  v5 := Try.zeroValue5
  t9 := Try.underlying9
  a9 := Try.isAgg9
  z9 := Try.sizeOf9
  v9 := Try.zeroValue9
  t28 := Try.underlying23
  a28 := Try.isAgg23
  z28 := Try.sizeOf23
  v28 := Try.zeroValue23
  t46 := Try.underlying105
  a46 := Try.isAgg105
  z46 := Try.sizeOf105
  v46 := Try.zeroValue105
  t51 := Try.underlying118
  a51 := Try.isAgg118
  z51 := Try.sizeOf118
  v51 := Try.zeroValue118
  t53 := Try.underlying120
  a53 := Try.isAgg120
  z53 := Try.sizeOf120
  v53 := Try.zeroValue120
  t131 := Try.underlying93
  a131 := Try.isAgg93
  z131 := Try.sizeOf93
  v131 := Try.zeroValue93
  t182 := Try.underlying111
  a182 := Try.isAgg111
  z182 := Try.sizeOf111
  v182 := Try.zeroValue111
  t183 := Try.underlying112
  a183 := Try.isAgg112
  z183 := Try.sizeOf112
  v183 := Try.zeroValue112
  t218 := Try.underlying132
  a218 := Try.isAgg132
  z218 := Try.sizeOf132
  v218 := Try.zeroValue132
  t222 := Try.underlying136
  a222 := Try.isAgg136
  z222 := Try.sizeOf136
  v222 := Try.zeroValue136
  t228 := Try.underlying142
  a228 := Try.isAgg142
  z228 := Try.sizeOf142
  v228 := Try.zeroValue142
  t229 := Try.underlying143
  a229 := Try.isAgg143
  z229 := Try.sizeOf143
  v229 := Try.zeroValue143
set_option maxRecDepth 100000 in
def icompRen : Ren := ⟨fun x => match x with | 20 => 84 | n => n, fun x => match x with | 22 => 23 | 3 => 3 | 4 => 4 | 0 => 0 | n => n, fun n => n⟩
theorem icomp : Lays2.n20 Try.prog icompRen where
  mixed := by kernel_rfl
  f20 := Try.func84.trans (congrArg some (by kernel_rfl))
  t0 := Try.underlying0
  a0 := Try.isAgg0
  z0 := Try.sizeOf0
  v0 := Try.zeroValue0
  t3 := Try.underlying3
  a3 := Try.isAgg3
  z3 := Try.sizeOf3
  v3 := Try.zeroValue3
  t4 := Try.underlying4
  a4 := Try.isAgg4
  z4 := Try.sizeOf4
  v4 := Try.zeroValue4
  t22 := Try.underlying23
  a22 := Try.isAgg23
  z22 := Try.sizeOf23
  v22 := Try.zeroValue23
  i3 := by kernel_rfl
open Go.Sort Go.Lib
theorem sortI_ok (l : List Int) (B g c : Nat) (w : World) (h : OI B w (.slice (some ⟨g, 0, none⟩) l.length c) l) (hlen : l.length ≤ 1000000000) :
    Calls Try.prog 83 #[.slice (some ⟨g, 0, none⟩) l.length c] w fun e w' =>
      e = .returned (.tuple #[]) ∧ OI B w' (.slice (some ⟨g, 0, none⟩) l.length c) (l.mergeSort fun x y => decide (x ≤ y)) ∧ w.grownBy w' (some g) := by
  obtain ⟨h0, hf⟩ := h
  rw [List.length_map] at h0 hf
  rcases hf with ⟨h1, _⟩ | ⟨g', cap, cur, hv, hbase, hb, hn, hcap, hcs, ht⟩
  · cases h1
  obtain ⟨rfl, rfl⟩ : g = g' ∧ c = cap := by simpa using hv
  rw [Nat.mul_one] at ht
  have key := Any.slices_Sort_int isort g 0 c l w (holds_of_blockI hb ht) (Array.getElem?_eq_some_iff.1 hb).1 (by omega)
  have key2 : Calls Try.prog 83 #[.slice (some ⟨g, 0, none⟩) l.length c] w _ := key
  refine key2.mono ?_
  rintro e w' ⟨rfl, n, os, rfl⟩
  have hl : (l.mergeSort fun x y => decide (x ≤ y)).length = l.length := List.length_mergeSort l
  refine ⟨rfl, ?_, grownBy_sortedI _⟩
  have := ownsRow_sortedI (n := n) (os := os) hl hbase hb hn hcap hcs
  unfold OI Ow
  rw [List.length_map, hl]
  exact this
theorem compactI_ok (l : List Int) (B g c : Nat) (w : World) (h : OI B w (.slice (some ⟨g, 0, none⟩) l.length c) l) (hlen : l.length ≤ 1000000000) :
    Calls Try.prog 84 #[.slice (some ⟨g, 0, none⟩) l.length c] w fun e w' =>
      e = .returned (.slice (some ⟨g, 0, none⟩) (Lib.compact l).length c) ∧ OI B w' (.slice (some ⟨g, 0, none⟩) (Lib.compact l).length c) (Lib.compact l) ∧ w.grownBy w' (some g) := by
  obtain ⟨h0, hf⟩ := h
  rw [List.length_map] at h0 hf
  rcases hf with ⟨h1, _⟩ | ⟨g', cap, cur, hv, hbase, hb, hn, hcap, hcs, ht⟩
  · cases h1
  obtain ⟨rfl, rfl⟩ : g = g' ∧ c = cap := by simpa using hv
  rw [Nat.mul_one] at ht
  have key := Any.slices_Compact_int icomp g 0 c l w (holds_of_blockI hb ht) (by omega) hn
  have key2 : Calls Try.prog 84 #[.slice (some ⟨g, 0, none⟩) l.length c] w _ := key
  refine key2.mono ?_
  rintro e w' ⟨rfl, q, rfl⟩
  have hle : (Lib.compact l).length ≤ l.length := by
    unfold Lib.compact Lib.compactUpTo
    rw [List.length_map]
    exact Nat.le_trans (List.length_filter_le _ _) (by simp)
  have hl : (Lib.compact l ++ List.replicate (l.length - (Lib.compact l).length) 0).length = l.length := by simp; omega
  have hw : putRow (Value.int .i64) (Sort.ahead w q) g 0 (Lib.compact l ++ List.replicate (l.length - (Lib.compact l).length) 0).toArray = grow (putRow (Value.int .i64) (Sort.ahead w q) g 0 (Lib.compact l ++ List.replicate (l.length - (Lib.compact l).length) 0).toArray) #[] := (grow_empty _).symm
  rw [hw]
  have h3 := ownsRow_sortedI (n := q) (os := #[]) hl hbase hb hn hcap hcs
  have h4 : OI B (grow (putRow (Value.int .i64) (Sort.ahead w q) g 0 (Lib.compact l ++ List.replicate (l.length - (Lib.compact l).length) 0).toArray) #[]) (.slice (some ⟨g, 0, none⟩) l.length c) (Lib.compact l ++ List.replicate (l.length - (Lib.compact l).length) 0) := by
    unfold OI Ow
    rw [List.length_map, hl]
    exact h3
  refine ⟨rfl, ?_, grownBy_sortedI _⟩
  have h5 := h4.take (Lib.compact l).length hle
  rwa [List.take_left] at h5
theorem mem_compact {l : List Int} (x : Int) : x ∈ Lib.compact l ↔ x ∈ l := by
  unfold Lib.compact Lib.compactUpTo
  simp only [List.mem_map, List.mem_filter, List.mem_range]
  constructor
  · rintro ⟨j, ⟨hj, _⟩, rfl⟩
    have : j < l.toArray.size := by simpa using hj
    rw [getElem!_pos l.toArray j this]
    simp
  · intro hx
    obtain ⟨j, hj, rfl⟩ := List.mem_iff_getElem.1 hx
    have key : ∀ j (hj : j < l.length), ∃ i, (i < l.length ∧ Lib.keeps l.toArray i = true) ∧ l.toArray[i]! = l[j] := by
      intro j
      induction j with
      | zero =>
        intro hj
        refine ⟨0, ⟨hj, Lib.keeps_lt_one _ 0 (by omega)⟩, ?_⟩
        rw [getElem!_pos l.toArray 0 (by simpa using hj)]
        simp
      | succ j ih =>
        intro hj
        by_cases e : l[j + 1] = l[j]
        · obtain ⟨i, h1, h2⟩ := ih (by omega)
          exact ⟨i, h1, by rw [e]; exact h2⟩
        · refine ⟨j + 1, ⟨hj, ?_⟩, ?_⟩
          · unfold Lib.keeps
            rw [getElem!_pos l.toArray (j + 1) (by simpa using hj), getElem!_pos l.toArray (j + 1 - 1) (by simp; omega)]
            simp [e]
          · rw [getElem!_pos l.toArray (j + 1) (by simpa using hj)]
            simp
    exact key j hj
theorem compact_rise {l : List Int} (h : l.Pairwise (· ≤ ·)) : (Lib.compact l).Pairwise (· < ·) := by
  unfold Lib.compact Lib.compactUpTo
  rw [List.pairwise_map]
  have h1 : ((List.range l.length).filter (Lib.keeps l.toArray)).Pairwise (fun a b => a < b ∧ b < l.length ∧ Lib.keeps l.toArray b = true) :=
    List.Pairwise.imp_of_mem (fun {a b} ha hb hab => ⟨hab, List.mem_range.1 (List.mem_filter.1 hb).1, (List.mem_filter.1 hb).2⟩) (List.Pairwise.filter _ List.pairwise_lt_range)
  refine h1.imp fun {a b} ⟨hab, hb, hk⟩ => ?_
  rw [List.pairwise_iff_getElem] at h
  rw [getElem!_pos l.toArray a (by simp; omega), getElem!_pos l.toArray b (by simpa using hb)]
  unfold Lib.keeps at hk
  rw [getElem!_pos l.toArray b (by simpa using hb), getElem!_pos l.toArray (b - 1) (by simp; omega)] at hk
  have hne : l[b] ≠ l[b - 1] := by
    have hb0 : b ≠ 0 := by omega
    simpa [hb0] using hk
  have h2 : l[b - 1] ≤ l[b] := h (b - 1) b (by omega) hb (by omega)
  have h3 : l[a] ≤ l[b - 1] := by
    by_cases e : a = b - 1
    · subst e; exact Int.le_refl _
    · exact h a (b - 1) (by omega) (by omega) (by omega)
  simp only [List.getElem_toArray]
  omega
/-- Sorted and compacted: the numbers below n that stand in it. -/
theorem sorted_compact {n : Nat} {l : List Int} (hl : ∀ x ∈ l, 0 ≤ x ∧ x < (n : Int)) : Lib.compact (l.mergeSort fun x y => decide (x ≤ y)) = ((List.range n).filter fun (q : Nat) => decide ((q : Int) ∈ l)).map fun q : Nat => (q : Int) := by
  have hs : (l.mergeSort fun x y => decide (x ≤ y)).Pairwise (· ≤ ·) := by
    have := List.pairwise_mergeSort (le := fun x y : Int => decide (x ≤ y)) (fun a b c h1 h2 => by simp at *; omega) (fun a b => by simp; omega) l
    exact this.imp fun h => by simpa using h
  have h1 := compact_rise hs
  have hmem : ∀ x, x ∈ Lib.compact (l.mergeSort fun x y => decide (x ≤ y)) ↔ x ∈ l := fun x => by rw [mem_compact, List.mem_mergeSort]
  refine rise_eq (fun x : Int => x.toNat) _ _ ?_ ?_ fun x => ?_
  · refine List.Pairwise.imp_of_mem (fun {a b} ha hb h => ?_) h1
    have h2 := hl a ((hmem a).1 ha)
    omega
  · rw [List.pairwise_map]
    exact (List.Pairwise.filter _ List.pairwise_lt_range).imp fun h => by simpa using h
  · rw [hmem]
    simp only [List.mem_map, List.mem_filter, List.mem_range, decide_eq_true_eq]
    constructor
    · intro hx
      have := hl x hx
      exact ⟨x.toNat, ⟨by omega, by rw [Int.toNat_of_nonneg this.1]; exact hx⟩, Int.toNat_of_nonneg this.1⟩
    · rintro ⟨q, ⟨_, h⟩, rfl⟩
      exact h
end Go.Proofs.Ytnbgnoimanpjnaa
