/-
  The walks over perm.kind and what it says: how many cycles of each length there are. Condition: the slice can be read and is a permutation.
-/
import Derived.Test.YtgfdddknajeknaaPcyc
import Derived.Deep.MidRow
namespace Go.Proofs.Ytgfdddknajeknaa
set_option linter.unusedVariables false
open Go.RowKit

/-- How many lists of each length. -/
def kcL (ll : List (List Int)) : List Value := (List.range 13).map fun c : Nat => Value.int .i64 ((ll.countP (fun l => l.length == c) : Nat) : Int)
theorem kc_len (ll : List (List Int)) : (kcL ll).length = 13 := by simp [kcL]
theorem kc_one {ll : List (List Int)} : (kcL ll).toArray.all (·.oneCell') = true := by simp [kcL, Value.oneCell']
theorem kc_get {ll : List (List Int)} {c : Nat} (h : c < 13) : (kcL ll)[c]? = some (.int .i64 ((ll.countP (fun l => l.length == c) : Nat) : Int)) := by simp [kcL, h]
theorem kc_set {ll : List (List Int)} {l : List Int} (h : l.length < 13) : (kcL ll).set l.length (.int .i64 ((ll.countP (fun x => x.length == l.length) : Nat) + 1 : Int)) = kcL (ll ++ [l]) := by
  refine List.ext_getElem? fun i => ?_
  by_cases e : l.length = i
  · subst e
    rw [List.getElem?_set_self (by simpa [kcL] using h), kc_get h, List.countP_append]
    simp
  · rw [List.getElem?_set_ne e]
    by_cases hi : i < 13
    · rw [kc_get hi, kc_get hi, List.countP_append]
      have : List.countP (fun x => x.length == i) [l] = 0 := by simp [e]
      rw [this]
      rfl
    · simp [kcL, hi]

theorem kind_ok (v : Value) (l : List Int) (N : Nat) (f : Nat → Nat) (w : World) (hl : Sl w v l) (P : PmL l N f) :
    Calls Try.prog 31 #[v] w fun e w' => e = .returned (.agg (kcL ((cycL f N N).map intsL)).toArray) ∧ Below w.heap.size w w' := by
  have h12 := P.n12
  have HC := hid (fun w1 (h : Below w.heap.size w w1) => cycles_ok v l N f w1 (hl.below h) P)
  have HLE : Hid (∀ i, i < ((cycL f N N).map intsL).length → (((cycL f N N).map intsL).getD i []).length ≤ N) := hid (fun i hi => by
    rw [List.getD_eq_getElem?_getD, List.getElem?_eq_getElem hi, Option.getD_some]
    have h1 := List.getElem_mem hi
    generalize ((cycL f N N).map intsL)[i] = x at h1 ⊢
    simp only [List.mem_map, cycL] at h1
    obtain ⟨L, ⟨i', hi', rfl⟩, rfl⟩ := h1
    have hi'' := List.mem_range.1 (List.mem_filter.1 hi').1
    rw [intsL_len, orb_len]
    exact (P.pm.per_spec hi'').2.2.1)
  have HLN : Hid (((cycL f N N).map intsL).length ≤ N) := hid (by
    rw [List.length_map]
    unfold cycL
    rw [List.length_map]
    exact Nat.le_trans (List.length_filter_le _ _) (by simp))
  clear hl P
  generalize (cycL f N N).map intsL = ll at *
  go_enter Try.func31, Try.ntmps31
  go_wp2_with fail
  have hb0 : Below w.heap.size w (w.alloc (.cells (kcL []).toArray 46)) := (Below.refl _ _).alloc (Nat.le_refl _) _
  have hb1 : Below w.heap.size w ((w.alloc (.cells (kcL []).toArray 46)).alloc (.cells (kcL []).toArray 46)) := hb0.alloc (by simp) _
  have hA1 : Arr ((w.alloc (.cells (kcL []).toArray 46)).alloc (.cells (kcL []).toArray 46)) w.heap.size 46 (kcL []) := (Arr.new w _ _).alloc _
  have hA2 : Arr ((w.alloc (.cells (kcL []).toArray 46)).alloc (.cells (kcL []).toArray 46)) (w.alloc (.cells (kcL []).toArray 46)).heap.size 46 (kcL []) := Arr.new _ _ _
  rw [World.size_alloc] at hA2
  refine (HC.out _ hb1).mono ?_
  rintro e w2 ⟨⟨u, rfl, hu⟩, hb2⟩
  have B2 := hb1.trans (hb2.mono hb1.size)
  have hA1' := hA1.below hb2
  have hA2' := hA2.below hb2
  have hs2 : w.heap.size + 2 ≤ w2.heap.size := by have := hb2.size; simpa using this
  have hu' := hu.mono (B' := w.heap.size + 2) (by simp) (Nat.le_refl _)
  clear hb0 hb1 hA1 hA2 hb2 hu
  obtain ⟨ua, uc, rfl⟩ := hu'.len
  obtain ⟨M, hM⟩ : ∃ M, ll.length = M := ⟨_, rfl⟩
  have HM := hid hM
  rw [hM] at hu' HLE HLN ⊢
  have hMN := HLN.out
  have HU := hid hu'
  clear hu' hM
  go_wp2
  go_loopw [9] (fun i wr => ∃ k : Nat, k ≤ M ∧ i = .int .i64 k ∧ Arr wr w.heap.size 46 (kcL []) ∧ Arr wr (w.heap.size + 1) 46 (kcL (ll.take k)) ∧ OL (w.heap.size + 2) w2.heap.size wr (.slice ua M uc) ll ∧ Below w.heap.size w wr) (fun i _ => M - (intOf i).toNat)
  case atStart => exact ⟨0, Nat.zero_le _, rfl, hA1', hA2', HU.out, B2⟩
  case round =>
    obtain ⟨k, hk, rfl, h1, h2, hol, hb⟩ := hrel
    clear hA1' hA2' B2
    by_cases hlt : k < M
    · obtain ⟨g, c, e, _, _⟩ := hol.form (by rw [HM.out]; omega)
      rw [HM.out] at e
      obtain ⟨rfl, rfl⟩ : ua = some ⟨g, 0, none⟩ ∧ uc = c := by simpa using e
      obtain ⟨x, hx, hox⟩ := hol.get k (by rw [HM.out]; exact hlt)
      have hlx := HLE.out k hlt
      have hget := HM.out
      have htk : ll.take (k + 1) = ll.take k ++ [ll.getD k []] := by
        have hkl : k < ll.length := by rw [HM.out]; exact hlt
        rw [List.take_add_one, List.getElem?_eq_getElem hkl, List.getD_eq_getElem?_getD, List.getElem?_eq_getElem hkl]
        rfl
      generalize ll.getD k [] = lx at *
      obtain ⟨xa, xc, rfl⟩ := hox.len
      have hcell := h2.cell lx.length
      rw [kc_get (by omega)] at hcell
      have hf := h2.frozen lx.length
      have hcnt : (ll.take k).countP (fun l => l.length == lx.length) ≤ k := Nat.le_trans List.countP_le_length (by simp; omega)
      obtain ⟨hs1, hg1⟩ := h2.stored lx.length (.int .i64 (((ll.take k).countP (fun l => l.length == lx.length) : Nat) + 1 : Int))
      rw [kc_set (by omega), ← htk] at hs1
      have h13 : lx.length < 13 := by omega
      have HX := hid (And.intro (h1.kept hg1 (by simp)) (And.intro hs1 (And.intro (hol.kept hg1 (fun b e => by cases e; exact .inl (by omega))) (hb.grown hg1 hb.size (fun b e => by cases e; omega)))))
      clear h1 h2 hol hb hs1 hg1 htk hox hget e
      generalize (ll.take k).countP (fun l => l.length == lx.length) = m at *
      generalize lx.length = L at *
      go_wp2
      go_roundw
      case rel => exact ⟨k + 1, by omega, by go_num, HX.out.1, HX.out.2.1, HX.out.2.2.1, HX.out.2.2.2⟩
      case measure => simp [intOf] <;> omega
    · obtain rfl : M = k := by omega
      rw [List.take_of_length_le (by rw [HM.out]; exact Nat.le_refl _)] at h2
      have r2 := h2.range
      have t1 := h1.there
      have hr1 := Arr.setCells (kcL ll) [] (kcL []) wr h1 (by rw [kc_len, kc_len])
      have hg1 := grown_setCells (b := w.heap.size) (kcL ll) 0 wr
      have HX := hid (And.intro hr1 (hb.grown hg1 hb.size (fun b e => by cases e; exact Nat.le_refl _)))
      have i1 : (Try.prog.info? 46).map (·.size) = some (kcL ll).length := by rw [kc_len]; kernel_rfl
      have t2 : wr.there w.heap.size 0 (kcL ll).toArray.size := by
        rw [show (kcL ll).toArray.size = 13 from List.size_toArray.trans (kc_len ll)]
        rw [kc_len] at t1
        exact t1
      have i2 : (Try.prog.info? 46).map (·.size) = some (kcL ll).toArray.size := by rw [show (kcL ll).toArray.size = (kcL ll).length from List.size_toArray]; exact i1
      clear h1 h2 hol hb hr1 hg1 t1
      go_wp2_with (first
        | (refine wpList_load_mid rfl 46 _ rfl (w.heap.size + 1) 0 rfl (kcL ll) _ r2 Try.underlying46 rfl i1 ?_)
        | (refine wpList_store_mid rfl 46 _ _ rfl w.heap.size 0 (kcL ll).toArray rfl rfl t2 i2 kc_one ?_))
      have hrd : (wr.setCells w.heap.size 0 (kcL ll)).rangeAt w.heap.size 0 (kcL ll) := HX.out.1.range
      have hld := run_loadVar_mid (P := Try.prog) _ _ _ 46 _ _ hrd Try.underlying46 rfl i1
      refine ⟨rfl, .agg (kcL ll).toArray, ?_, rfl, HX.out.2⟩
      show ((results _ _).run _ _) = _
      simp only [Act.put]
      simp [results, Try.f31, asAddr, hld]
end Go.Proofs.Ytgfdddknajeknaa
