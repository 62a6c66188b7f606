/-
  The walk over tour.open: the table by value. Conditions: the slice can be read; the numbers are of 64 bits.
-/
import Derived.Test.YthbpdfkaacgpoaaTflt
namespace Go.Proofs.Ythbpdfkaacgpoaa
set_option linter.unusedVariables false
open Go.RowKit

theorem Try.info4 : (Try.prog.info? 4).map (fun i => (i.zero, i.size, i.bytes)) = some (some (.bool false), 1, 1) := by kernel_rfl
/-- An array of bools. -/
def boolS (m : Nat) (f : Nat → Bool) : List Value := (List.range m).map fun x => .bool (f x)
theorem boolS_len (m : Nat) (f : Nat → Bool) : (boolS m f).length = m := by simp [boolS]
theorem boolS_get {m : Nat} {f : Nat → Bool} {c : Nat} (h : c < m) : (boolS m f)[c]? = some (.bool (f c)) := by simp [boolS, h]
theorem boolS_put {m : Nat} {f : Nat → Bool} {c : Nat} {b : Bool} (h : c < m) : (boolS m f).set c (.bool b) = boolS m (fun x => if x = c then b else f x) := by
  apply List.ext_getElem?
  intro i
  by_cases e : i = c
  · subst e
    rw [List.getElem?_set_self (by rw [boolS_len]; exact h), boolS_get h]
    simp
  · rw [List.getElem?_set_ne (fun hh => e hh.symm)]
    by_cases hi : i < m
    · rw [boolS_get hi, boolS_get hi, if_neg e]
    · rw [List.getElem?_eq_none (by rw [boolS_len]; omega), List.getElem?_eq_none (by rw [boolS_len]; omega)]
theorem boolS_none (m : Nat) : boolS m (fun _ => false) = List.replicate m (.bool false) := by
  apply List.ext_getElem?
  intro i
  by_cases hi : i < m
  · rw [boolS_get hi, List.getElem?_replicate, if_pos hi]
  · rw [List.getElem?_eq_none (by rw [boolS_len]; omega), List.getElem?_eq_none (by simp; omega)]
/-- Who beats whom, after so many cells; the table's cells. -/
def beB (S : Nat) (l : List Int) (t c : Nat) : Bool := decide (c / 9 < S) && decide (c % 9 < S) && decide (c / 9 * S + c % 9 < t) && (gD l (c / 9 * S + c % 9) == 1)
def tabV (S : Nat) (l : List Int) : Value := .agg (boolS 81 (beB S l (S * S))).toArray
def tab0 : Value := .agg (boolS 81 fun _ => false).toArray
theorem beB_zero (S : Nat) (l : List Int) : beB S l 0 = fun _ => false := by funext c; simp [beB]
theorem beB_step {S t : Nat} (l : List Int) (hS1 : 1 ≤ S) (hS9 : S ≤ 9) (ht : t < S * S) : (fun x => if x = t / S * 9 + t % S then (gD l t == 1) else beB S l t x) = beB S l (t + 1) := by
  funext x
  have hq : t / S < S := Nat.div_lt_of_lt_mul ht
  have hr : t % S < S := Nat.mod_lt _ (by omega)
  have hd : t / S * S + t % S = t := by rw [Nat.mul_comm]; exact Nat.div_add_mod t S
  by_cases hx : x = t / S * 9 + t % S
  · have h1 : x / 9 = t / S := by omega
    have h2 : x % 9 = t % S := by omega
    rw [if_pos hx]
    unfold beB
    rw [h1, h2, hd, decide_eq_true hq, decide_eq_true hr, decide_eq_true (show t < t + 1 by omega)]
    rfl
  · rw [if_neg hx]
    unfold beB
    by_cases h1 : x / 9 < S ∧ x % 9 < S
    · have hne : x / 9 * S + x % 9 ≠ t := by
        intro e
        apply hx
        have h3 : t / S = x / 9 := by
          rw [← e, Nat.mul_comm, Nat.mul_add_div (by omega), Nat.div_eq_of_lt h1.2]
          omega
        have h4 : t % S = x % 9 := by
          rw [← e, Nat.mul_comm, Nat.mul_add_mod, Nat.mod_eq_of_lt h1.2]
        rw [h3, h4]
        omega
      congr 2
      rw [Bool.eq_iff_iff, decide_eq_true_iff, decide_eq_true_iff]
      omega
    · have h0 : (decide (x / 9 < S) && decide (x % 9 < S)) = false := by
        rw [Bool.and_eq_false_iff, decide_eq_false_iff_not, decide_eq_false_iff_not]
        omega
      rw [h0]
      rfl
theorem arr_rep (n : Nat) : Array.replicate n (Value.bool false) = (boolS n fun _ => false).toArray := by rw [boolS_none]; simp
theorem zeroT0 (w : World) : (zeroValue 51).run Try.prog w = .ok (.agg (Array.replicate 81 (.bool false))) w := by kernel_rfl
theorem zeroT (w : World) : (zeroValue 51).run Try.prog w = .ok (.agg (boolS 81 fun _ => false).toArray) w := by rw [zeroT0, arr_rep]

set_option maxHeartbeats 1000000 in
set_option maxRecDepth 100000 in
theorem open_ok (S : Nat) (u : Value) (l : List Int) (w : World) (hu : Sl w u l) (hi64 : ∀ x ∈ l, I64 x) (h : tE S l = 0) (hS1 : 1 ≤ S) (hS9 : S ≤ 9) (hlen : l.length = S * S) :
    Calls Try.prog 34 #[sqV S u] w fun e w' => e = .returned (.tuple #[tabV S l, .int .i64 0]) ∧ Below w.heap.size w w' := by
  have HCK := hid (fun w1 (hb : Below w.heap.size w w1) => Check_any S u l w1 (hu.below hb) hi64)
  rw [h] at HCK
  obtain ⟨ax, cx, N, rfl, hN, hl1, hl2⟩ := hu.open
  obtain rfl : N = S * S := by rw [← hN.out, hlen]
  have hSS81 : S * S ≤ 81 := Nat.mul_le_mul hS9 hS9
  obtain ⟨bs, os, rfl, hbs, hcs⟩ := hl2 (Nat.mul_pos (by omega) (by omega))
  have HCS : Hid (∀ i, i < S * S → w.cell? ⟨bs, os + i, none⟩ = some (.int .i64 (gD l i))) := hid (fun i hi => by rw [hcs i hi, gD_opt])
  have HST := hid (fun t (ht : t < S * S) => beB_step (S := S) (t := t) l hS1 hS9 ht)
  have HZ0 := hid (beB_zero S l)
  have HDV := hid (fun t (ht : t < S * S) => show t / S < S from Nat.div_lt_of_lt_mul ht)
  have HMD := hid (fun t => show t % S < S from Nat.mod_lt t (by omega))
  have HZT := zeroT
  clear hl2 hcs hu hi64 h hN hlen
  have hTV : tabV S l = .agg (boolS 81 (beB S l (S * S))).toArray := rfl
  rw [hTV]
  clear hTV
  generalize S * S = N at *
  unfold sqV at HCK
  unfold sqV
  have HW0 := hid (And.intro (Arr.new w 24 [.int .i64 (S : Int), .slice (some ⟨bs, os, none⟩) N cx]) ((Below.refl w.heap.size w).alloc (Nat.le_refl _) (.cells #[.int .i64 (S : Int), .slice (some ⟨bs, os, none⟩) N cx] 24)))
  have HW1 : Hid (Arr ((w.alloc (.cells #[.int .i64 (S : Int), .slice (some ⟨bs, os, none⟩) N cx] 24)).alloc (.cells (boolS 81 fun _ => false).toArray 51)) w.heap.size 24 [.int .i64 (S : Int), .slice (some ⟨bs, os, none⟩) N cx] ∧ Arr ((w.alloc (.cells #[.int .i64 (S : Int), .slice (some ⟨bs, os, none⟩) N cx] 24)).alloc (.cells (boolS 81 fun _ => false).toArray 51)) (w.heap.size + 1) 51 (boolS 81 fun _ => false) ∧ Below w.heap.size w ((w.alloc (.cells #[.int .i64 (S : Int), .slice (some ⟨bs, os, none⟩) N cx] 24)).alloc (.cells (boolS 81 fun _ => false).toArray 51))) := hid ⟨HW0.out.1.alloc _, by
    have := Arr.new (w.alloc (.cells #[.int .i64 (S : Int), .slice (some ⟨bs, os, none⟩) N cx] 24)) 51 (boolS 81 fun _ => false)
    rw [World.size_alloc] at this
    exact this, HW0.out.2.alloc HW0.out.2.size _⟩
  have r1 := HW1.out.1.range
  have i2 : (Try.prog.info? 24).map (·.size) = some 2 := by kernel_rfl
  clear HW0
  go_enter Try.func34, Try.ntmps34
  go_wp2_with fail
  refine (HCK.out _ HW1.out.2.2).mono ?_
  rintro e w2 ⟨rfl, hb2⟩
  have hA2 := HW1.out.1.below hb2
  have hT2 := HW1.out.2.1.below hb2
  have hB2 := HW1.out.2.2.trans (hb2.mono HW1.out.2.2.size)
  have hs2 := hB2.size
  have hO2 : Arr (w2.alloc (.cells (boolS 81 fun _ => false).toArray 51)) w2.heap.size 51 (boolS 81 (beB S l 0)) := by
    rw [HZ0.out]
    exact Arr.new w2 _ _
  have hlt2 := hT2.lt
  have HS0 := hid (And.intro (hA2.alloc (.cells (boolS 81 fun _ => false).toArray 51)) (And.intro (hT2.alloc (.cells (boolS 81 fun _ => false).toArray 51)) (And.intro hO2 (hB2.alloc hs2 (.cells (boolS 81 fun _ => false).toArray 51)))))
  have k1 := HS0.out.1.cell 1
  simp only [List.getElem?_cons_zero, List.getElem?_cons_succ] at k1
  clear hA2 hT2 hB2 hO2 hb2 HW1 HCK r1
  go_wp2_with fail
  clear k1
  go_loopw [6, 7, 17] (fun _ _ x wr => ∃ t : Nat, x = .int .i64 t ∧ t ≤ N ∧ Arr wr w.heap.size 24 [.int .i64 (S : Int), .slice (some ⟨bs, os, none⟩) N cx] ∧ Arr wr (w.heap.size + 1) 51 (boolS 81 fun _ => false) ∧ Arr wr w2.heap.size 51 (boolS 81 (beB S l t)) ∧ Below w.heap.size w wr) (fun _ _ x _ => N - (intOf x).toNat)
  case atStart => exact ⟨0, rfl, Nat.zero_le _, HS0.out.1, HS0.out.2.1, HS0.out.2.2.1, HS0.out.2.2.2⟩
  case round =>
    clear HS0
    obtain ⟨t, rfl, htN, hA, hT, hO, hB⟩ := hrel
    by_cases hlt : t < N
    · have hlti : (t : Int) < (N : Int) := by omega
      have c1 := (hB.cell (p := ⟨bs, os + t, none⟩) hbs).trans (HCS.out t hlt)
      have k0 := hA.cell 0
      simp only [List.getElem?_cons_zero] at k0
      have hq := HDV.out t hlt
      have hr := HMD.out t
      have hst := HST.out t hlt
      have hp81 : t / S * 9 + t % S < 81 := by omega
      have hcell := hO.cell (t / S * 9 + t % S)
      rw [boolS_get hp81] at hcell
      have hfz := hO.frozen (t / S * 9 + t % S)
      have hsd := Arr.stored (w := wr.drew) hO (t / S * 9 + t % S) (.bool (gD l t == 1))
      rw [boolS_put hp81, hst] at hsd
      have htd : (t : Int).tdiv (S : Int) = ((t / S : Nat) : Int) := by rw [Int.tdiv_eq_ediv_of_nonneg (by omega)]; rfl
      have htm : (t : Int).tmod (S : Int) = ((t % S : Nat) : Int) := by rw [Int.tmod_eq_emod_of_nonneg (by omega)]; rfl
      have hSz : (S : Int) ≠ 0 := by omega
      have HX := hid (And.intro (Arr.kept (w := wr.drew) hA hsd.2 (fun e => by have : w.heap.size = w2.heap.size := Option.some.inj e; omega)) (And.intro (Arr.kept (w := wr.drew) hT hsd.2 (fun e => by have : w.heap.size + 1 = w2.heap.size := Option.some.inj e; omega)) (And.intro hsd.1 ((hB.drew).grown hsd.2 hB.size (fun k h => by cases h; exact hs2)))))
      have k0 : wr.drew.cell? ⟨w.heap.size, 0, none⟩ = _ := k0
      have hcell : wr.drew.cell? ⟨w2.heap.size, t / S * 9 + t % S, none⟩ = _ := hcell
      have hfz : wr.drew.frozen? ⟨w2.heap.size, t / S * 9 + t % S, none⟩ = false := hfz
      clear hA hT hO hB hst hsd
      generalize beB S l t (t / S * 9 + t % S) = ob at *
      generalize t / S = q at *
      generalize t % S = r at *
      generalize hx : gD l t = x at *
      have hq9 : q < 9 := by omega
      have hr9 : r < 9 := by omega
      go_wp2
      go_region
      go_wp2
      go_roundw
      case rel => exact ⟨t + 1, by go_num, by omega, HX.out.1, HX.out.2.1, HX.out.2.2.1, HX.out.2.2.2⟩
      case measure => simp [intOf] <;> omega
    · obtain rfl : t = N := by omega
      have hlti : ¬ (t : Int) < (t : Int) := by omega
      obtain ⟨SB, hSB⟩ : ∃ SB, beB S l t = SB := ⟨_, rfl⟩
      rw [hSB] at hO
      have HSB := hid hSB
      have r6 := hO.range
      have i1 : (Try.prog.info? 51).map (·.size) = some (boolS 81 SB).length := by rw [boolS_len]; kernel_rfl
      have i2 : (Try.prog.info? 51).map (·.size) = some (boolS 81 SB).toArray.size := by rw [List.size_toArray, boolS_len]; kernel_rfl
      have t8 : wr.there (w.heap.size + 1) 0 (boolS 81 SB).toArray.size := by
        have := hT.there
        rw [boolS_len] at this
        have hsz : (boolS 81 SB).toArray.size = 81 := List.size_toArray.trans (boolS_len 81 SB)
        rw [hsz]
        exact this
      have hone : (boolS 81 SB).toArray.all (·.oneCell') = true := by
        rw [List.all_toArray, List.all_eq_true]
        intro v hv
        obtain ⟨x, _, rfl⟩ := List.mem_map.1 hv
        rfl
      have HT := hid (And.intro hT hB)
      clear hA hT hO hB hSB
      go_wp2_with (first
        | (refine wpList_load_mid rfl 51 _ rfl w2.heap.size 0 rfl (boolS 81 SB) _ r6 Try.underlying51 rfl i1 ?_)
        | (refine wpList_store_mid rfl 51 _ _ rfl (w.heap.size + 1) 0 (boolS 81 SB).toArray rfl rfl t8 i2 hone ?_; show wpList _ _ _ _ _ (wr.setCells (w.heap.size + 1) 0 (boolS 81 SB))))
      have hF9 : Arr (wr.setCells (w.heap.size + 1) 0 (boolS 81 SB)) (w.heap.size + 1) 51 (boolS 81 SB) := Arr.setCells (boolS 81 SB) [] _ wr HT.out.1 ((boolS_len 81 _).trans (boolS_len 81 SB).symm)
      have hg9 := grown_setCells (b := w.heap.size + 1) (boolS 81 SB) 0 wr
      have hb9 := HT.out.2.grown hg9 HT.out.2.size (fun k h => by cases h; omega)
      have hld := run_loadVar_mid (P := Try.prog) _ _ _ 51 _ _ hF9.range Try.underlying51 rfl i1
      refine ⟨rfl, .tuple #[.agg (boolS 81 SB).toArray, .int .i64 0], ?_, by rw [HSB.out], hb9⟩
      show ((results _ _).run _ _) = _
      simp [results, Try.f34, asAddr, hld]
end Go.Proofs.Ythbpdfkaacgpoaa
