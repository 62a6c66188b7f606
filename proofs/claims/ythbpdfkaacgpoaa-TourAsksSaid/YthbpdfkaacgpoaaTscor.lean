/-
  The walk over tour.Scores. Conditions: the slice can be read; the numbers are of 64 bits.
-/
import Derived.Test.YthbpdfkaacgpoaaTfact
import Derived.Test.YthbpdfkaacgpoaaTkng
import Derived.Test.YthbpdfkaacgpoaaTsq
namespace Go.Proofs.Ythbpdfkaacgpoaa
set_option linter.unusedVariables false
open Go.RowKit

/-- A row's sum, of so many. -/
def rowS (S : Nat) (l : List Int) (i : Nat) : Nat → Int
  | 0 => 0
  | j + 1 => rowS S l i j + gD l (i * S + j)
def scP (S : Nat) (l : List Int) (t : Nat) : List Int := (List.range S).map fun i => rowS S l i (min (t - i * S) S)
/-- The scores. -/
def scL (S : Nat) (l : List Int) : List Int := (List.range S).map fun i => rowS S l i S
theorem scP_len (S : Nat) (l : List Int) (t : Nat) : (scP S l t).length = S := by simp [scP]
theorem scL_len (S : Nat) (l : List Int) : (scL S l).length = S := by simp [scL]
theorem scP_get {S : Nat} (l : List Int) (t : Nat) {i : Nat} (hi : i < S) : (scP S l t).getD i 0 = rowS S l i (min (t - i * S) S) := by
  simp [scP, hi]
theorem scP_zero (S : Nat) (l : List Int) : scP S l 0 = List.replicate S 0 := by
  apply List.ext_getElem?
  intro i
  by_cases hi : i < S
  · simp [scP, hi, rowS]
  · rw [List.getElem?_eq_none (by rw [scP_len]; omega), List.getElem?_eq_none (by simp; omega)]
theorem scP_full (S : Nat) (l : List Int) : scP S l (S * S) = scL S l := by
  unfold scP scL
  refine List.map_congr_left fun i hi => ?_
  have := Nat.mul_le_mul_right S (show i + 1 ≤ S by have := List.mem_range.1 hi; omega)
  rw [Nat.succ_mul] at this
  rw [show min (S * S - i * S) S = S by omega]
theorem scP_step {S : Nat} (l : List Int) (hS : 1 ≤ S) {t : Nat} (ht : t < S * S) : (scP S l t).set (t / S) ((scP S l t).getD (t / S) 0 + gD l t) = scP S l (t + 1) := by
  have hq : t / S < S := Nat.div_lt_of_lt_mul ht
  have hd : t / S * S + t % S = t := by rw [Nat.mul_comm]; exact Nat.div_add_mod t S
  have hr : t % S < S := Nat.mod_lt _ (by omega)
  apply List.ext_getElem?
  intro i
  rw [List.getElem?_set]
  by_cases hiS : i < S
  · have hR : (scP S l (t + 1))[i]? = some (rowS S l i (min (t + 1 - i * S) S)) := by simp [scP, hiS]
    have hL : (scP S l t)[i]? = some (rowS S l i (min (t - i * S) S)) := by simp [scP, hiS]
    rw [hR, hL]
    by_cases hi : t / S = i
    · rw [if_pos hi, if_pos (by rw [scP_len]; exact hq), scP_get l t hq]
      subst hi
      rw [show min (t - t / S * S) S = t % S by omega, show min (t + 1 - t / S * S) S = t % S + 1 by omega, rowS, hd]
    · rw [if_neg hi]
      rcases Nat.lt_or_ge i (t / S) with h | h
      · have := Nat.mul_le_mul_right S (show i + 1 ≤ t / S by omega)
        rw [Nat.succ_mul] at this
        rw [show min (t - i * S) S = S by omega, show min (t + 1 - i * S) S = S by omega]
      · have := Nat.mul_le_mul_right S (show t / S + 1 ≤ i by omega)
        rw [Nat.succ_mul] at this
        rw [show t - i * S = 0 by omega, show t + 1 - i * S = 0 by omega]
  · rw [List.getElem?_eq_none (by rw [scP_len]; omega), List.getElem?_eq_none (by rw [scP_len]; omega)]
    split
    · rename_i h; exact absurd (h ▸ hq) hiS
    · rfl
theorem rowS_bd {l : List Int} (h0 : l.any off01 = false) (S i : Nat) : ∀ j, 0 ≤ rowS S l i j ∧ rowS S l i j ≤ j
  | 0 => ⟨Int.le_refl _, Int.le_refl _⟩
  | j + 1 => by
    have := rowS_bd h0 S i j
    have h := cells01 h0 (i * S + j)
    rw [rowS]
    omega
theorem scP_bd {S : Nat} {l : List Int} (h0 : l.any off01 = false) (t : Nat) {i : Nat} (hi : i < S) : 0 ≤ (scP S l t).getD i 0 ∧ (scP S l t).getD i 0 ≤ S := by
  rw [scP_get l t hi]
  have := rowS_bd h0 S i (min (t - i * S) S)
  omega
theorem rowS_cnt {S : Nat} {l : List Int} (hS9 : S ≤ 9) (h0 : l.any off01 = false) {i : Nat} (hi : i < S) : ∀ j, j ≤ S → rowS S l i j = (((List.range j).filter fun j => beB S l (S * S) (i * 9 + j)).length : Nat)
  | 0, _ => rfl
  | j + 1, hj => by
    rw [rowS, rowS_cnt hS9 h0 hi j (by omega), List.range_succ, List.filter_append, List.length_append, List.filter_cons, List.filter_nil, beB_at hS9 hi (by omega)]
    rcases cells01 h0 (i * S + j) with h | h <;> rw [h] <;> simp
theorem scL_eq {S : Nat} {l : List Int} (hS9 : S ≤ 9) (h0 : l.any off01 = false) : scL S l = (List.range S).map fun i => ((scN S (beB S l (S * S)) i : Nat) : Int) :=
  List.map_congr_left fun i hi => rowS_cnt hS9 h0 (List.mem_range.1 hi) S (Nat.le_refl _)

set_option maxHeartbeats 1000000 in
set_option maxRecDepth 100000 in
theorem Scores_bad (n : Int) (u : Value) (l : List Int) (w : World) (hu : Sl w u l) (hi64 : ∀ x ∈ l, I64 x) (h : tE n l ≠ 0) :
    Calls Try.prog 19 #[sqV n u] w fun e w' => e = .returned (.tuple #[.slice none 0 0, .int .i64 (tE n l)]) ∧ Below w.heap.size w w' := by
  have HOP := hid (fun w1 (hb : Below w.heap.size w w1) => Check_any n u l w1 (hu.below hb) hi64)
  have hne : (tE n l != 0) = true := by simpa using h
  obtain ⟨ax, cx, e1⟩ := hu.len
  subst e1
  generalize tE n l = E at *
  generalize l.length = N at *
  have HW0 := hid (And.intro (Arr.new w 24 [.int .i64 n, .slice ax N cx]) ((Below.refl w.heap.size w).alloc (Nat.le_refl _) (.cells #[.int .i64 n, .slice ax N cx] 24)))
  clear hu hi64 h
  unfold sqV at HOP
  unfold sqV
  go_enter Try.func19, Try.ntmps19
  go_wp2_with fail
  refine (HOP.out _ HW0.out.2).mono ?_
  rintro e w2 ⟨rfl, hb2⟩
  have HT := hid (HW0.out.2.trans (hb2.mono HW0.out.2.size))
  clear hb2 HW0 HOP
  go_wp2
  go_ret2
  exact ⟨rfl, HT.out⟩

set_option maxHeartbeats 1000000 in
set_option maxRecDepth 100000 in
theorem Scores_ok (S : Nat) (u : Value) (l : List Int) (w : World) (hu : Sl w u l) (hi64 : ∀ x ∈ l, I64 x) (h : tE S l = 0) (hS1 : 1 ≤ S) (hS9 : S ≤ 9) (hlen : l.length = S * S) (h0 : l.any off01 = false) :
    Calls Try.prog 19 #[sqV S u] w fun e w' => (∃ v, e = .returned (.tuple #[v, .int .i64 0]) ∧ Sl w' v (scL S l)) ∧ Below w.heap.size w w' := by
  have HOP := hid (fun w1 (hb : Below w.heap.size w w1) => Check_any S u l w1 (hu.below hb) hi64)
  rw [h] at HOP
  obtain ⟨ax, cx, N, rfl, hN, hl1, hl2⟩ := hu.open
  obtain rfl : N = S * S := by rw [← hN.out, hlen]
  obtain ⟨bs, os, rfl, hbs, hcs⟩ := hl2 (Nat.mul_pos (by omega) (by omega))
  have HCS : Hid (∀ i, i < S * S → w.cell? ⟨bs, os + i, none⟩ = some (.int .i64 (gD l i))) := hid (fun i hi => by rw [hcs i hi, gD_opt])
  have HST := hid (fun t (ht : t < S * S) => scP_step (S := S) l hS1 ht)
  have HZ0 := hid (scP_zero S l)
  have HFU := hid (scP_full S l)
  have HBD := hid (fun t i (hi : i < S) => scP_bd h0 t hi)
  have HLN := hid (scP_len S l)
  have H01 := hid (cells01 h0)
  have HDV := hid (fun t (ht : t < S * S) => show t / S < S from Nat.div_lt_of_lt_mul ht)
  have hSS81 : S * S ≤ 81 := Nat.mul_le_mul hS9 hS9
  generalize scP S l = D at *
  generalize scL S l = Z at *
  generalize gD l = G at *
  clear hl2 hcs hu hi64 h hN hlen
  generalize S * S = N at *
  unfold sqV at HOP
  unfold sqV
  have HW0 := hid (And.intro (Arr.new w 24 [.int .i64 (S : Int), .slice (some ⟨bs, os, none⟩) N cx]) ((Below.refl w.heap.size w).alloc (Nat.le_refl _) (.cells #[.int .i64 (S : Int), .slice (some ⟨bs, os, none⟩) N cx] 24)))
  go_enter Try.func19, Try.ntmps19
  go_wp2_with fail
  refine (HOP.out _ HW0.out.2).mono ?_
  rintro e w2 ⟨rfl, hb2⟩
  have hA2 := HW0.out.1.below hb2
  have hB2 := HW0.out.2.trans (hb2.mono HW0.out.2.size)
  have hs2 := hB2.size
  have k0 := hA2.cell 0
  have k1 := hA2.cell 1
  simp only [List.getElem?_cons_zero, List.getElem?_cons_succ] at k0 k1
  go_wp2_with (at_make; refine wpList_mk (w := w2) _ _ 22 3 (.int .i64 0) 8 rfl rfl Try.underlying22 Try.info3 rfl (by decide) w2.heap.size _ S rfl rfl rfl (by omega) (Nat.le_refl _) ?_; intro w3 hs3 hgr3 hz3; have hA3 := hA2.kept hgr3 (by simp); have k3 := hA3.cell 1; simp only [List.getElem?_cons_zero, List.getElem?_cons_succ] at k3)
  have ho3 : OI w2.heap.size w3 (.slice (some ⟨w2.heap.size, 0, none⟩) S S) (D 0) := by
    unfold OI
    rw [HZ0.out, List.map_replicate]
    exact hs3
  have hb3 : Below w.heap.size w w3 := hB2.grown hgr3 hs2 (fun k h => by cases h)
  have hlt2 := hA2.lt
  have HX := hid (And.intro hA3 (And.intro ho3 hb3))
  clear hA2 hB2 k0 k1 hb2 HW0 hs3 hgr3 hz3 hA3 k3 ho3 hb3 HOP
  go_loopw [6, 7, 19] (fun _ _ x wr => ∃ t : Nat, x = .int .i64 t ∧ t ≤ N ∧ Arr wr w.heap.size 24 [.int .i64 (S : Int), .slice (some ⟨bs, os, none⟩) N cx] ∧ OI w2.heap.size wr (.slice (some ⟨w2.heap.size, 0, none⟩) S S) (D t) ∧ Below w.heap.size w wr) (fun _ _ x _ => N - (intOf x).toNat)
  case atStart => exact ⟨0, rfl, Nat.zero_le _, HX.out.1, HX.out.2.1, HX.out.2.2⟩
  case round =>
    clear HX
    obtain ⟨t, rfl, htN, hA, hO, hB⟩ := hrel
    by_cases hlt : t < N
    · have hlti : (t : Int) < (N : Int) := by omega
      have c1 := (hB.cell (p := ⟨bs, os + t, none⟩) hbs).trans (HCS.out t hlt)
      have k0 := hA.cell 0
      simp only [List.getElem?_cons_zero] at k0
      have hq := HDV.out t hlt
      have hst := HST.out t hlt
      have hcell := hO.cell (t / S) (by rw [HLN.out]; exact hq)
      have hfz := hO.frozen (t / S)
      have hbd := HBD.out t (t / S) hq
      have hg := H01.out t
      obtain ⟨hs1, hg1⟩ := hO.stored (t / S) ((D t).getD (t / S) 0 + G t)
      rw [hst] at hs1
      have htd : (t : Int).tdiv (S : Int) = ((t / S : Nat) : Int) := by rw [Int.tdiv_eq_ediv_of_nonneg (by omega)]; rfl
      have hSz : (S : Int) ≠ 0 := by omega
      have HX := hid (And.intro (hA.kept hg1 (fun e => by have : w.heap.size = w2.heap.size := Option.some.inj e; omega)) (And.intro hs1 (hB.grown hg1 hB.size (fun k h => by cases h; exact hs2))))
      clear hA hO hB hst hs1 hg1
      generalize (D t).getD (t / S) 0 = old at *
      generalize G t = x at *
      generalize t / S = q at *
      have hwx := IntWalk.i64_in (old + x) (by omega)
      go_wp2
      go_roundw
      case rel => exact ⟨t + 1, by go_num, by omega, HX.out.1, HX.out.2.1, HX.out.2.2⟩
      case measure => simp [intOf] <;> omega
    · obtain rfl : t = N := by omega
      have hlti : ¬ (t : Int) < (t : Int) := by omega
      rw [HFU.out] at hO
      have hln := HLN.out t
      rw [HFU.out] at hln
      have HX := hid (And.intro (hO.sl (by omega)) hB)
      clear hA hO hB
      go_wp2
      go_ret2
      exact ⟨⟨_, rfl, HX.out.1⟩, HX.out.2⟩
end Go.Proofs.Ythbpdfkaacgpoaa
