/-
  The walk over perm.Cycles. Condition: the slice can be read.
-/
import Derived.Test.YtgfdddknajeknaaDoorPcyc
import Derived.Test.YtgfdddknajeknaaDoorTxp
import Derived.Test.YtgfdddknajeknaaDoorSlJoin
namespace Go.Proofs.YtgfdddknajeknaaDoor
set_option linter.unusedVariables false
open Go.RowKit

theorem Tryd.info9 : (Tryd.prog.info? 9).map (fun i => (i.zero, i.size, i.bytes)) = some (some (.string ByteArray.empty), 1, 16) := by kernel_rfl
theorem Cycles_bad (v : Value) (l : List Int) (w : World) (hl : Sl w v l) (hE : permE l ≠ 0) :
    Calls Tryd.prog 6 #[v] w fun e w' => e = .returned (.tuple #[.string (str []), .int .i64 (permE l)]) ∧ Below w.heap.size w w' := by
  have H1 := hid (check_any v l w hl)
  obtain ⟨a, c, N, rfl, hN, hl1, hl2⟩ := hl.open
  have hb : (permE l != 0) = true := bne_iff_ne.2 hE
  clear hE hl hl2
  generalize permE l = E at *
  go_enter Tryd.func6, Tryd.ntmps6
  go_wp2_with fail
  refine H1.out.mono ?_
  rintro e w1 ⟨rfl, hb1⟩
  have HB := hid hb1
  clear hb1
  go_wp2
  go_ret2
  exact ⟨rfl, HB.out⟩

/-- The texts of the first k cycles that have two points or more. -/
def bdT (L : List (List Nat)) (k : Nat) : List UInt8 := bodyT ((L.take k).filter fun c => decide (2 ≤ c.length))
theorem bdT_succ {L : List (List Nat)} {k : Nat} (h : k < L.length) : bdT L (k + 1) = bdT L k ++ if 2 ≤ (L.getD k []).length then cycT (L.getD k []) else [] := by
  unfold bdT
  rw [List.take_add_one, List.filter_append, List.getD_eq_getElem?_getD, List.getElem?_eq_getElem h]
  simp only [Option.toList_some, Option.getD_some]
  by_cases h2 : 2 ≤ (L[k]).length
  · rw [if_pos h2, List.filter_cons_of_pos (by simpa using h2), List.filter_nil, bodyT_snoc]
  · rw [if_neg h2, List.filter_cons_of_neg (by simpa using h2), List.filter_nil, List.append_nil]
    simp

theorem bdT_len {L : List (List Nat)} (h : ∀ i, i < L.length → ∀ x ∈ L.getD i [], x < 12) (h2 : ∀ i, i < L.length → (L.getD i []).length ≤ 12) : ∀ i, i ≤ L.length → (bdT L i).length ≤ 100 * i
  | 0, _ => by simp [bdT, bodyT]
  | i + 1, hi => by
    have h1 := bdT_len h h2 i (by omega)
    have h3 := in_len (c := L.getD i []) fun x hx => by have := h i (by omega) x hx; omega
    have h4 := h2 i (by omega)
    rw [bdT_succ (by omega), List.length_append]
    by_cases h5 : 2 ≤ (L.getD i []).length
    · rw [if_pos h5]
      unfold cycT
      simp only [List.length_cons, List.length_append, List.length_nil]
      omega
    · rw [if_neg h5]
      simp only [List.length_nil]
      omega

set_option maxHeartbeats 4000000 in
set_option maxRecDepth 100000 in
theorem Cycles_ok (v : Value) (l : List Int) (N : Nat) (f : Nat → Nat) (w : World) (hl : Sl w v l) (P : PmL l N f) (hE : permE l = 0) :
    Calls Tryd.prog 6 #[v] w fun e w' => e = .returned (.tuple #[.string (str (wrT f N)), .int .i64 0]) ∧ Below w.heap.size w w' := by
  have H1 := hid (check_any v l w hl)
  rw [hE] at H1
  have HC := hid (fun w1 (hb : Below w.heap.size w w1) => cycles_ok v l N f w1 (hl.below hb) P)
  obtain ⟨a, c, M, rfl, hN, hl1, hl2⟩ := hl.open
  have h12 := P.n12
  have HIN : Hid (∀ i, i < (cycL f N N).length → ∀ x ∈ (cycL f N N).getD i [], x < 12) := hid (fun i hi x hx => by
    rw [List.getD_eq_getElem?_getD, List.getElem?_eq_getElem hi, Option.getD_some] at hx
    have hm := List.getElem_mem hi
    unfold cycL at hm
    obtain ⟨j, hj, e⟩ := List.mem_map.1 hm
    unfold cycL at hx
    rw [← e] at hx
    have := P.pm.orb_lt (List.mem_range.1 (List.mem_filter.1 hj).1) x hx
    omega)
  have HLN : Hid (∀ i, i < (cycL f N N).length → ((cycL f N N).getD i []).length ≤ 12) := hid (fun i hi => by
    rw [List.getD_eq_getElem?_getD, List.getElem?_eq_getElem hi, Option.getD_some]
    have hm := List.getElem_mem hi
    unfold cycL at hm ⊢
    obtain ⟨j, hj, e⟩ := List.mem_map.1 hm
    rw [← e, orb_len]
    have := (P.pm.per_spec (List.mem_range.1 (List.mem_filter.1 hj).1)).2.2.1
    omega)
  have HLL : Hid ((cycL f N N).length ≤ 12) := hid (by
    unfold cycL
    rw [List.length_map]
    have := List.length_filter_le (leadB f N) (List.range N)
    simp at this
    omega)
  have HW : Hid (wrT f N = if bdT (cycL f N N) (cycL f N N).length = [] then [40, 41] else bdT (cycL f N N) (cycL f N N).length) := hid (by
    unfold wrT allT longs bdT
    rw [List.take_length])
  have HBS := hid (fun k h => bdT_succ (L := cycL f N N) (k := k) h)
  have HB0 : Hid (bdT (cycL f N N) 0 = []) := hid rfl
  have HBL := hid (bdT_len HIN.out HLN.out)
  have HML : Hid (((cycL f N N).map intsL).length = (cycL f N N).length) := hid (List.length_map _)
  have HMG : Hid (∀ i, i < (cycL f N N).length → ((cycL f N N).map intsL).getD i [] = intsL ((cycL f N N).getD i [])) := hid (fun i hi => by simp [hi])
  clear hE hl hl2 P
  generalize wrT f N = WT at *
  generalize cycL f N N = L at *
  obtain ⟨Z, hZ⟩ : ∃ Z, L.length = Z := ⟨_, rfl⟩
  rw [hZ] at HW HIN HLN HLL HML HMG HBL
  simp only [hZ] at HBS
  clear hZ
  have HJS := hid join_snoc
  have hz12 := HLL.out
  generalize bdT L = BT at *
  go_enter Tryd.func6, Tryd.ntmps6
  go_wp2_with fail
  refine H1.out.mono ?_
  rintro e w1 ⟨rfl, hb1⟩
  have HBB := hid hb1
  clear hb1
  go_wp2_with fail
  refine (HC.out _ HBB.out).mono ?_
  rintro e w2 ⟨⟨u, rfl, hu⟩, hb2⟩
  obtain ⟨ua, uc, eu⟩ := hu.len
  rw [HML.out] at eu
  subst eu
  have H2 := hid (And.intro hu (HBB.out.trans (hb2.mono HBB.out.size)))
  have hus := HBB.out.size
  clear hu hb2
  go_wp2_with fail
  go_loopw [5, 7, 8, 10, 19] (fun v5 _ _ _ v19 wr => ∃ i : Nat, v19 = .int .i64 i ∧ i ≤ Z ∧ v5 = .string (str (BT i)) ∧ Below w2.heap.size w2 wr) (fun _ _ _ _ v19 _ => Z - (intOf v19).toNat)
  case atStart => exact ⟨0, rfl, Nat.zero_le _, by rw [HB0.out]; rfl, Below.refl _ _⟩
  case round =>
    obtain ⟨i, rfl, hi, rfl, hb⟩ := hrel
    by_cases hil : i < Z
    · have hii : (i : Int) < (Z : Int) := by omega
      have hu := H2.out.1.below hb
      obtain ⟨gu, cu, eu, _, _⟩ := hu.form (by rw [HML.out]; omega)
      rw [HML.out] at eu
      obtain ⟨rfl, rfl⟩ : ua = some ⟨gu, 0, none⟩ ∧ uc = cu := by simpa using eu
      obtain ⟨q, hq1, hq2⟩ := hu.get i (by rw [HML.out]; exact hil)
      rw [HMG.out i hil] at hq2
      have hln := HLN.out i hil
      have hin := HIN.out i hil
      have hbs := HBS.out i hil
      obtain ⟨C, hC⟩ : ∃ C, L.getD i [] = C := ⟨_, rfl⟩
      rw [hC] at hq2 hln hin hbs
      clear hC hu eu
      obtain ⟨qa, qc, eq⟩ := hq2.len
      rw [intsL_len] at eq
      subst eq
      obtain ⟨CN, hCN⟩ : ∃ CN, C.length = CN := ⟨_, rfl⟩
      have HI := hid (And.intro hq2 hb)
      have HIC := hid hin
      have HCN := hid hCN
      clear hq2 hb hin
      rw [hCN] at hq1 hln hbs
      by_cases h2 : 2 ≤ CN
      · have h2i : ¬ (CN : Int) < 2 := by omega
        rw [if_pos h2] at hbs
        have HBN := hid hbs
        clear hbs hCN
        obtain ⟨W0, hW0⟩ : ∃ W0, W0 = wr := ⟨_, rfl⟩
        subst hW0
        go_wp2_with fail
        go_loopw [8, 10, 28] (fun v8 _ v28 wr => ∃ t : Nat, v28 = .int .i64 t ∧ t ≤ CN ∧ (∃ xs : List Value, Hid (xs = (C.take t).map fun x => Value.string (str (Lib.decDigits x))) ∧ Hid (xs.length = t) ∧ Ow 9 W0.heap.size wr v8 xs) ∧ Below W0.heap.size W0 wr) (fun _ _ v28 _ => CN - (intOf v28).toNat)
        case atStart => exact ⟨0, rfl, Nat.zero_le _, ⟨[], hid rfl, hid rfl, Ow.nil _ _ _⟩, Below.refl _ _⟩
        case round =>
          obtain ⟨t, rfl, ht, ⟨xs, HXS, HXL, how⟩, hb⟩ := hrel
          by_cases htl : t < CN
          · have hti : (t : Int) < (CN : Int) := by omega
            have hgt : C.getD t 0 ∈ C := by
              rw [List.getD_eq_getElem?_getD, List.getElem?_eq_getElem (by rw [HCN.out]; exact htl)]
              exact List.getElem_mem _
            have hx12 := HIC.out _ hgt
            have hq := HI.out.1.below hb
            obtain ⟨gq, cq, eq, _, _⟩ := hq.form (by rw [intsL_len, HCN.out]; omega)
            rw [intsL_len, HCN.out] at eq
            obtain ⟨rfl, rfl⟩ : qa = some ⟨gq, 0, none⟩ ∧ qc = cq := by simpa using eq
            have hcx := hq.cell t (by rw [intsL_len, HCN.out]; exact htl)
            rw [show (intsL C).getD t 0 = ((C.getD t 0 : Nat) : Int) by simp [intsL, HCN.out, htl]] at hcx
            have HTK : Hid (C.take (t + 1) = C.take t ++ [C.getD t 0]) := hid (by
              rw [List.take_add_one, List.getD_eq_getElem?_getD, List.getElem?_eq_getElem (by rw [HCN.out]; exact htl)]
              rfl)
            have hlen : xs.length ≤ 1000000000000 := by rw [HXL.out]; omega
            have hsz := hb.size
            have HX := hid (And.intro how hb)
            clear how hb hq eq hgt
            generalize C.getD t 0 = x at *
            go_wp2_with fail
            refine (itoa_laid x (by omega) wr).mono ?_
            rintro e w6 ⟨rfl, rfl⟩
            go_wp2_with (at_builtin; refine wpList_app w6 _ _ 39 9 (.string ByteArray.empty) 16 rfl rfl Tryd.underlying39 Tryd.info9 rfl (by decide) W0.heap.size _ _ rfl HX.out.1 rfl rfl hlen hsz ?_; intro g9 c9 w9 hown1 hg1 hg2 hg3)
            have hb9 : Below W0.heap.size w6 w9 := (Below.refl _ _).grown hg1 hsz (fun b e => (HX.out.1.lt b e).1)
            have HO9 := hid (And.intro hown1 (HX.out.2.trans hb9))
            clear hown1 hg1 hg2 hg3 hb9
            go_roundw
            case rel =>
              refine ⟨t + 1, by go_num, by omega, ⟨xs ++ [.string (str (Lib.decDigits x))], hid ?_, hid ?_, HO9.out.1⟩, HO9.out.2⟩
              · rw [HTK.out, List.map_append, HXS.out]; rfl
              · rw [List.length_append, HXL.out]; rfl
            case measure => simp [intOf] <;> omega
          · obtain rfl : t = CN := by omega
            have hti : ¬ (t : Int) < (t : Int) := by omega
            obtain ⟨gw, cw, ew, _, hgw⟩ := how.form (by rw [HXL.out]; omega)
            rw [HXL.out] at ew
            subst ew
            have HXC : Hid (∀ (j : Nat) x, (C.map fun x => str (Lib.decDigits x))[j]? = some x → wr.cell? ⟨gw, 0 + j, none⟩ = some (.string x)) := hid (fun j x hj => by
              have hjl : j < C.length := by
                have := (List.getElem?_eq_some_iff.1 hj).1
                simpa using this
              rw [Nat.zero_add, how.cell j (by rw [HXL.out, ← HCN.out]; exact hjl), HXS.out, List.take_of_length_le (by rw [HCN.out]; exact Nat.le_refl _)]
              rw [List.getElem?_map] at hj ⊢
              obtain ⟨y, hy, rfl⟩ := Option.map_eq_some_iff.1 hj
              rw [hy]
              rfl)
            have hcap := how.cap.1
            have HJ : Hid (Lib.join ((C.map fun x => str (Lib.decDigits x)).map (·.data.toList)) (str [32]).data.toList = inT C) := hid (by
              unfold inT
              rw [List.map_map]
              rfl)
            have hil32 := in_len (c := C) fun x hx => by have := HIC.out x hx; omega
            have HJL := hid (join_laid gw 0 cw (C.map fun x => str (Lib.decDigits x)) (str [32]) wr HXC.out hgw (by rw [List.length_map, HCN.out]; omega) (by rw [List.length_map, HCN.out]; exact hcap) (by rw [HJ.out]; rw [HCN.out] at hil32; omega))
            rw [List.length_map, HCN.out, HJ.out] at HJL
            have HB := hid hb
            rw [HCN.out] at hil32
            have hbt : (str (BT i)).size ≤ 1200 := by
              have := HBL.out i hi
              rw [str_size]
              omega
            have HCY : Hid (str (BT i) ++ ((⟨#[40]⟩ : ByteArray) ++ ⟨(inT C).toArray⟩ ++ ⟨#[41]⟩) = str (BT (i + 1))) := hid (by
              rw [HBN.out]
              unfold cycT
              rw [← str_app]
              have e1 : ((⟨#[40]⟩ : ByteArray) ++ ⟨(inT C).toArray⟩ ++ ⟨#[41]⟩) = (str [40] ++ str (inT C)) ++ str [41] := rfl
              rw [e1, str_app, str_app]
              rfl)
            clear how hb HXC HJ
            go_wp2_with fail
            refine HJL.out.mono ?_
            rintro e w6 ⟨rfl, hb6⟩
            have HB6 := hid (HB.out.trans (hb6.mono HB.out.size))
            clear hb6
            go_wp2
            go_roundw
            case rel => exact ⟨i + 1, by go_num, by omega, by rw [HCY.out], HI.out.2.trans (HB6.out.mono HI.out.2.size)⟩
            case measure => simp [intOf] <;> omega
      · have h2i : (CN : Int) < 2 := by omega
        rw [if_neg h2, List.append_nil] at hbs
        have HBN := hid hbs
        clear hbs hCN
        go_wp2
        go_roundw
        case rel => exact ⟨i + 1, by go_num, by omega, by rw [HBN.out], HI.out.2⟩
        case measure => simp [intOf] <;> omega
    · obtain rfl : i = Z := by omega
      have hii : ¬ (i : Int) < (i : Int) := by omega
      have HB2 := hid (H2.out.2.trans (hb.mono H2.out.2.size))
      clear hb
      by_cases h0 : BT i = []
      · rw [h0, if_pos rfl] at HW
        rw [h0, show str [] = (⟨#[]⟩ : ByteArray) from rfl]
        go_wp2
        go_ret2
        exact ⟨by rw [HW.out]; rfl, HB2.out⟩
      · rw [if_neg h0] at HW
        have hne : (str (BT i)).toList.isEmpty = false := by rw [str_empty]; cases h : BT i with | nil => exact absurd h h0 | cons _ _ => rfl
        generalize BT i = bt at *
        go_wp2
        go_ret2
        exact ⟨by rw [HW.out]; rfl, HB2.out⟩
end Go.Proofs.YtgfdddknajeknaaDoor
