/-
  slices.SortFunc of moves: the kit's contract, laid at this program. Conditions: the slice is the call's own.
-/
import Derived.Test.YtnbgnoimanpjnaaGlex
import Derived.Test.YtnbgnoimanpjnaaGrow
import Derived.Shelf.SlSortCmp.WholeK
namespace Go.Proofs.Ytnbgnoimanpjnaa
set_option linter.unusedVariables false
open Go.RowKit Go.Shelf

set_option maxRecDepth 100000 in
def gsortRen : Ren := ⟨fun x => match x with | 6 => 80 | 15 => 90 | 14 => 94 | 28 => 105 | 29 => 106 | 20 => 108 | 21 => 109 | 22 => 110 | 23 => 111 | 24 => 112 | 25 => 113 | 26 => 114 | 27 => 115 | 46 => 130 | 47 => 126 | 48 => 127 | 49 => 131 | 50 => 132 | 57 => 137 | n => n, fun x => match x with | 22 => 64 | 24 => 68 | 25 => 98 | 3 => 3 | 39 => 105 | 0 => 0 | 53 => 118 | 55 => 120 | 4 => 4 | 46 => 112 | 45 => 111 | 50 => 93 | 5 => 5 | 9 => 9 | 66 => 132 | 70 => 136 | 76 => 142 | 77 => 143 | n => n, fun n => n⟩
theorem gsort : SlLaysF0.n6 Try.prog gsortRen where
  mixed := by kernel_rfl
  f6 := ⟨(Try.f80).name, by kernel_rfl, Try.func80.trans (congrArg some (by kernel_rfl))⟩
  f14 := ⟨(Try.f94).name, by kernel_rfl, Try.func94.trans (congrArg some (by kernel_rfl))⟩
  f15 := Try.func90.trans (congrArg some (by kernel_rfl))
  f20 := ⟨(Try.f108).name, by kernel_rfl, Try.func108.trans (congrArg some (by kernel_rfl))⟩
  f21 := ⟨(Try.f109).name, by kernel_rfl, Try.func109.trans (congrArg some (by kernel_rfl))⟩
  f22 := ⟨(Try.f110).name, by kernel_rfl, Try.func110.trans (congrArg some (by kernel_rfl))⟩
  f23 := ⟨(Try.f111).name, by kernel_rfl, Try.func111.trans (congrArg some (by kernel_rfl))⟩
  f24 := ⟨(Try.f112).name, by kernel_rfl, Try.func112.trans (congrArg some (by kernel_rfl))⟩
  f25 := ⟨(Try.f113).name, by kernel_rfl, Try.func113.trans (congrArg some (by kernel_rfl))⟩
  f26 := ⟨(Try.f114).name, by kernel_rfl, Try.func114.trans (congrArg some (by kernel_rfl))⟩
  f27 := ⟨(Try.f115).name, by kernel_rfl, Try.func115.trans (congrArg some (by kernel_rfl))⟩
  f28 := Try.func105.trans (congrArg some (by kernel_rfl))
  f29 := Try.func106.trans (congrArg some (by kernel_rfl))
  f46 := ⟨(Try.f130).name, by kernel_rfl, Try.func130.trans (congrArg some (by kernel_rfl))⟩
  f47 := Try.func126.trans (congrArg some (by kernel_rfl))
  f48 := Try.func127.trans (congrArg some (by kernel_rfl))
  f49 := ⟨(Try.f131).name, by kernel_rfl, Try.func131.trans (congrArg some (by kernel_rfl))⟩
  f50 := ⟨(Try.f132).name, by kernel_rfl, Try.func132.trans (congrArg some (by kernel_rfl))⟩
  f57 := ⟨(Try.f137).name, by kernel_rfl, Try.func137.trans (congrArg some (by kernel_rfl))⟩
  t0 := Try.underlying0
  a0 := Try.isAgg0
  z0 := Try.sizeOf0
  v0 := Try.zeroValue0
  t3 := Try.underlying3
  a3 := Try.isAgg3
  z3 := Try.sizeOf3
  v3 := Try.zeroValue3
  t4 := Try.underlying4
  a4 := Try.isAgg4
  z4 := Try.sizeOf4
  v4 := Try.zeroValue4
  t5 := Try.underlying5
  a5 := Try.isAgg5
  z5 := Try.sizeOf5
  v5 := Try.zeroValue5
  t9 := Try.underlying9
  a9 := Try.isAgg9
  z9 := Try.sizeOf9
  v9 := Try.zeroValue9
  t22 := Try.underlying64
  a22 := Try.isAgg64
  z22 := Try.sizeOf64
  v22 := Try.zeroValue64
  t25 := Try.underlying98
  a25 := Try.isAgg98
  z25 := Try.sizeOf98
  v25 := Try.zeroValue98
  t39 := Try.underlying105
  a39 := Try.isAgg105
  z39 := Try.sizeOf105
  v39 := Try.zeroValue105
  t45 := Try.underlying111
  a45 := Try.isAgg111
  z45 := Try.sizeOf111
  v45 := Try.zeroValue111
  t46 := Try.underlying112
  a46 := Try.isAgg112
  z46 := Try.sizeOf112
  v46 := Try.zeroValue112
  t50 := Try.underlying93
  a50 := Try.isAgg93
  z50 := Try.sizeOf93
  v50 := Try.zeroValue93
  t53 := Try.underlying118
  a53 := Try.isAgg118
  z53 := Try.sizeOf118
  v53 := Try.zeroValue118
  t55 := Try.underlying120
  a55 := Try.isAgg120
  z55 := Try.sizeOf120
  v55 := Try.zeroValue120
  t66 := Try.underlying132
  a66 := Try.isAgg132
  z66 := Try.sizeOf132
  v66 := Try.zeroValue132
  t70 := Try.underlying136
  a70 := Try.isAgg136
  z70 := Try.sizeOf136
  v70 := Try.zeroValue136
  t76 := Try.underlying142
  a76 := Try.isAgg142
  z76 := Try.sizeOf142
  v76 := Try.zeroValue142
  t77 := Try.underlying143
  a77 := Try.isAgg143
  z77 := Try.sizeOf143
  v77 := Try.zeroValue143
open Go.Sort Go.Lib
theorem flatK_fl (l : List (Nat → Nat)) : flatK mvC 7 l.toArray = (flM l).toArray := by
  refine Array.ext (by simp [flM_len]) fun t h1 h2 => ?_
  have ht : t < l.length * 7 := by simpa using h1
  have e := flM_at l (t / 7) (t % 7) (by omega) (Nat.mod_lt _ (by omega))
  rw [show t / 7 * 7 + t % 7 = t by omega] at e
  have hi : t / 7 < l.length := by omega
  have h3 := get_flatK mvC 7 l.toArray t (by simpa using ht)
  rw [getElem!_pos _ t h1] at h3
  rw [h3]
  have e2 : l.getD (t / 7) id = l.toArray[t / 7]! := by
    rw [getElem!_pos _ _ (by simpa using hi)]
    simp [hi]
  rw [e2] at e
  have h4 : t % 7 < (mvC (l.toArray[t / 7]!)).length := by rw [mvC_len]; exact Nat.mod_lt _ (by omega)
  rw [getElem!_pos (mvC (l.toArray[t / 7]!)) (t % 7) h4]
  rw [List.getElem?_eq_getElem h4, List.getElem?_eq_getElem (by rw [flM_len]; exact ht)] at e
  simpa using (Option.some.inj e).symm
theorem holds_block {w : World} {g : Nat} {cur : Array Value} {e : TypeId} {xs : List Value} (hb : w.heap[g]? = some (.cells cur e (0, 0))) (ht : cur.toList.take xs.length = xs) : Holds id w g 0 xs.toArray := by
  intro j hj
  have hj' : j < xs.length := by simpa using hj
  refine ⟨?_, by simp [World.frozen?, hb]⟩
  have h1 : (cur.toList.take xs.length)[j]? = xs[j]? := by rw [ht]
  rw [List.getElem?_take_of_lt hj'] at h1
  simp only [World.cell?, hb, Nat.zero_add]
  simp only [Option.isSome_none, Bool.false_eq_true, if_false]
  rw [← Array.getElem?_toList, h1]
  simp [hj']
theorem heap_sortedV {w : World} {g n : Nat} {os : Array Obj} {cur : Array Value} {e : TypeId} {fr : Nat × Nat} (d : Array Value) (hb : w.heap[g]? = some (.cells cur e fr)) :
    (grow (putRow id (Sort.ahead w n) g 0 d) os).heap[g]? = some (.cells (putCells id 0 d cur) e fr) := by
  have hg : g < w.heap.size := (Array.getElem?_eq_some_iff.1 hb).1
  rw [heap_grow_old _ _ (by simpa using hg)]
  simp [putRow, mapBlock, Sort.ahead, Array.getElem?_modify, hb, onCells]
theorem grownBy_sortedV {w : World} {g n : Nat} {os : Array Obj} (d : Array Value) : w.grownBy (grow (putRow id (Sort.ahead w n) g 0 d) os) (some g) := by
  refine ⟨rfl, rfl, rfl, by simp, fun k hk hne => ?_⟩
  rw [heap_grow_old _ _ (by simpa using hk)]
  have : g ≠ k := fun e => hne (by rw [e])
  simp [putRow, mapBlock, Sort.ahead, Array.getElem?_modify, this]
theorem take_putCellsV (cur : Array Value) (ts : List Value) (h : ts.length ≤ cur.size) : (putCells id 0 ts.toArray cur).toList.take ts.length = ts := by
  apply List.ext_getElem?
  intro j
  by_cases hj : j < ts.length
  · rw [List.getElem?_take_of_lt hj, Array.getElem?_toList]
    simp [putCells, hj, show j < cur.size by omega]
  · rw [List.getElem?_take_eq_none (by omega), List.getElem?_eq_none (by omega)]
/-- The order: a strict weak order. -/
theorem cf_swo : SWO (ltOf cfF) where
  irrefl x := decide_eq_false (by rw [cf_lt]; exact lex_irrefl 7 x)
  trans x y z h1 h2 := decide_eq_true ((cf_lt x z).2 (lex_trans ((cf_lt x y).1 (of_decide_eq_true h1)) ((cf_lt y z).1 (of_decide_eq_true h2))))
  ntrans x y z h1 h2 := decide_eq_false (fun h => lex_ntrans (fun h3 => of_decide_eq_false h1 ((cf_lt x y).2 h3)) (fun h3 => of_decide_eq_false h2 ((cf_lt y z).2 h3)) ((cf_lt x z).1 h))
theorem gsort_ok (l : List (Nat → Nat)) (B og lc : Nat) (w : World) (h : OM B w (.slice (some ⟨og, 0, none⟩) l.length lc) l) (hlen : l.length ≤ 1000000000) :
    Calls Try.prog 80 #[.slice (some ⟨og, 0, none⟩) l.length lc, .func (.func 81) #[] #[]] w fun e w' =>
      e = .returned (.tuple #[]) ∧ ∃ l', l'.Perm l ∧ l'.Pairwise (fun a b => ¬ cfF b a < 0) ∧ OM B w' (.slice (some ⟨og, 0, none⟩) l.length lc) l' ∧ w.grownBy w' (some og) := by
  obtain ⟨h0, hf⟩ := h
  rcases hf with ⟨h1, _⟩ | ⟨g, cap, cur, hv, hbase, hb, hn, hcap, hcs, ht⟩
  · cases h1
  obtain ⟨rfl, rfl⟩ : og = g ∧ lc = cap := by simpa using hv
  have eg : ∀ args w, (callFunc 81 args).run Try.prog w = .ok (.enter 81 args) w := enters_of Try.func81 (by kernel_rfl) rfl
  have hH : HoldsK mvC 7 w og 0 l.toArray := by
    unfold HoldsK
    rw [flatK_fl]
    exact holds_block hb (by rw [flM_len]; exact ht)
  have key := AnyQ.slices_SortFunc gsort 7 Try.isAgg68 Try.sizeOf68 mvC mvC_len (fun x v hv => by
    simp only [mvC, List.mem_map] at hv
    obtain ⟨i, _, rfl⟩ := hv
    rfl) cfF cf_swo 81 #[] og 0 lc l.toArray w eg (fun m os dk _ x y => mcmp_ok x y _) hH (Array.getElem?_eq_some_iff.1 hb).1 (by simp; omega)
  have key2 : Calls Try.prog 80 #[.slice (some ⟨og, 0, none⟩) l.length lc, .func (.func 81) #[] #[]] w _ := key
  refine key2.mono ?_
  rintro e w' ⟨rfl, d', n, os, ⟨hps, _, hpp⟩, hs, rfl⟩
  have hd : d'.size = l.length := by rw [hps]; simp
  refine ⟨rfl, d'.toList, ?_, ?_, ?_, ?_⟩
  · have := hpp
    rw [show l.toArray.size = l.length by simp] at this
    rw [Array.extract_eq_self_of_le (by omega), Array.extract_eq_self_of_le (by simp)] at this
    simpa using this
  · rw [List.pairwise_iff_getElem]
    intro i j hi hj hij
    have h3 := hs i j (Nat.zero_le _) hij (by simp; simp at hj; omega)
    have hi' : i < d'.size := by simpa using hi
    have hj' : j < d'.size := by simpa using hj
    rw [getElem!_pos _ i hi', getElem!_pos _ j hj'] at h3
    have := of_decide_eq_false h3
    simpa using this
  · have hfl : flatK mvC 7 d' = (flM d'.toList).toArray := by
      have := flatK_fl d'.toList
      simpa using this
    unfold sortWorldK putRowK
    rw [hfl]
    have hfll : (flM d'.toList).length = l.length * 7 := by rw [flM_len]; simp [hd]
    unfold OM
    rw [show d'.toList.length = l.length by simp [hd]]
    exact ⟨hfll, .inr ⟨og, lc, _, rfl, hbase, heap_sortedV _ hb, hn, hcap, by simp [putCells, hcs], by rw [← hfll]; exact take_putCellsV cur _ (by rw [hfll, hcs]; exact Nat.mul_le_mul_right 7 hn)⟩⟩
  · exact grownBy_sortedV _
end Go.Proofs.Ytnbgnoimanpjnaa
