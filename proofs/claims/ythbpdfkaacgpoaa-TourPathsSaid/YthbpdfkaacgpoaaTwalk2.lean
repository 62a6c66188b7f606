/-
  The walk over parterreref4.walked, by recursion. Conditions: the tournament is right; the slices can be read.
-/
import Derived.Test.YthbpdfkaacgpoaaTwalk
namespace Go.Proofs.Ythbpdfkaacgpoaa
set_option linter.unusedVariables false
open Go.RowKit

set_option maxHeartbeats 2000000 in
set_option maxRecDepth 100000 in
theorem walked_ok (S : Nat) (u : Value) (l : List Int) (ring : Bool) (hS1 : 1 ≤ S) (hS9 : S ≤ 9) (hlen : l.length = S * S) : ∀ (f : Nat) (L : List Int) (v : Value) (w : World), L.length + f = S → (∀ x ∈ L, 0 ≤ x ∧ x < (S : Int)) → Sl w u l → Sl w v L →
    Calls Try.prog 38 #[sqV S u, v, .bool ring] w fun e w' => (∃ r, e = .returned (.tuple #[.int .i64 ((cmpF S (beB S l (S * S)) ring f L).length : Nat), r]) ∧ HeadV w' r (cmpF S (beB S l (S * S)) ring f L)) ∧ Below w.heap.size w w' := by
  intro f
  induction f with
  | zero => intro L v w hL hin hu hv; exact walked_base S u v l L w ring hu hS1 hS9 hlen (by omega) hin hv
  | succ f ih =>
    intro L v w hLf hin hu hv
    have HBT := hid (fun (a b : Nat) (ha : a < S) (hb : b < S) w1 (hb1 : Below w.heap.size w w1) => Beats_ok S a b u l w1 (hu.below hb1) hS9 hlen ha hb)
    have HIH := hid (fun (t : Nat) (ht : t < S) (v1 : Value) (w1 : World) (hb1 : Below w.heap.size w w1) (hv1 : Sl w1 v1 (L ++ [(t : Int)])) => ih (L ++ [(t : Int)]) v1 w1 (by simp; omega) (fun x hx => by
      rcases List.mem_append.1 hx with h | h
      · exact hin x h
      · simp at h; omega) (hu.below hb1) hv1)
    have hp9 : ∀ t, t ≤ S → (cmpT S (beB S l (S * S)) ring f L t).length ≤ 387420489 := fun t ht => by
      have h1 : (cmpT S (beB S l (S * S)) ring f L t).length ≤ (compT S (beB S l (S * S)) f L t).length := List.length_filter_le _ _
      have h2 := compT_le (N := S) (SB := beB S l (S * S)) (f := f) (l := L) ht
      have h3 := comp_len (N := S) (beB S l (S * S)) (f + 1) L
      have h4 : S ^ (f + 1) ≤ 9 ^ (f + 1) := Nat.pow_le_pow_left hS9 _
      have h5 : 9 ^ (f + 1) ≤ 9 ^ 9 := Nat.pow_le_pow_right (by omega) (by omega)
      have h6 : 9 ^ 9 = 387420489 := by decide
      omega
    have HP9 := hid hp9
    have hSS81 : S * S ≤ 81 := Nat.mul_le_mul hS9 hS9
    obtain ⟨ax, cx, e1⟩ := hu.len
    subst e1
    obtain ⟨av, cv, e2⟩ := hv.len
    subst e2
    generalize hN : l.length = N at *
    obtain ⟨SB, hSB⟩ : ∃ SB, beB S l (S * S) = SB := ⟨_, rfl⟩
    rw [hSB] at HBT HIH HP9 ⊢
    have hLS : L.length < S := by omega
    have hne : ((L.length : Int) == (S : Int)) = false := by rw [beq_eq_false_iff_ne]; omega
    generalize hLn : L.length = Ln at *
    have HLN := hid hLn
    have HIN := hid hin
    have i2 : (Try.prog.info? 24).map (·.size) = some 2 := by kernel_rfl
    have hA := Arr.new w 24 [.int .i64 (S : Int), .slice ax N cx]
    have hb := (Below.refl w.heap.size w).alloc (Nat.le_refl _) (.cells #[.int .i64 (S : Int), .slice ax N cx] 24)
    have k0 := hA.cell 0
    simp only [List.getElem?_cons_zero] at k0
    have HS0 := hid (And.intro hA (And.intro (hv.below hb) hb))
    clear hLn hin hA hb hu hv ih hp9 hN hlen hLf hSB hSS81
    unfold sqV at HBT HIH
    unfold sqV
    go_enter Try.func38, Try.ntmps38
    go_wp2_with fail
    clear k0
    go_loopw [10, 11, 12, 13, 14, 15, 16, 17, 18] (fun m fi x _ _ _ _ _ _ wr => ∃ t : Nat, x = .int .i64 t ∧ t ≤ S ∧ m = .int .i64 ((cmpT S SB ring f L t).length : Nat) ∧ Hid (HeadV wr fi (cmpT S SB ring f L t)) ∧ Arr wr w.heap.size 24 [.int .i64 (S : Int), .slice ax N cx] ∧ Sl wr (.slice av Ln cv) L ∧ Below w.heap.size w wr) (fun _ _ x _ _ _ _ _ _ _ => S - (intOf x).toNat)
    case atStart => exact ⟨0, rfl, Nat.zero_le _, rfl, hid rfl, HS0.out.1, HS0.out.2.1, HS0.out.2.2⟩
    case round =>
      clear HS0
      obtain ⟨t, rfl, htS, rfl, HH, hA, hV, hB⟩ := hrel
      by_cases hlt : t < S
      · have hlti : (t : Int) < (S : Int) := by omega
        have HX := hid (And.intro hA (And.intro hV hB))
        have hok : okB SB L t = (!(decide ((t : Int) ∈ L)) && (decide (Ln = 0) || SB ((L.getD (Ln - 1) 0).toNat * 9 + t))) := by unfold okB; rw [HLN.out]
        have HI0 : Hid (inL L t 0 = false) := hid rfl
        have HIS := hid (fun i (h : i < L.length) => inL_succ L t h)
        have HIA : Hid (inL L t Ln = decide ((t : Int) ∈ L)) := hid (by rw [← HLN.out]; exact inL_all L t)
        have HSC := hid hV.out
        clear hA hV hB
        go_wp2_with fail
        go_loopw [13, 14] (fun b x wq => ∃ i : Nat, b = .bool (inL L t i) ∧ x = .int .i64 i ∧ i ≤ Ln ∧ wq = wr) (fun _ x _ => Ln - (intOf x).toNat)
        case atStart => exact ⟨0, by rw [HI0.out], rfl, Nat.zero_le _, rfl⟩
        case round =>
          obtain ⟨i, rfl, rfl, hiL, rfl⟩ := hrel
          by_cases hil : i < Ln
          · have hili : (i : Int) < (Ln : Int) := by omega
            obtain ⟨a2, c2, hv2, hl2, hc2⟩ := HSC.out
            simp only [Value.slice.injEq] at hv2
            obtain ⟨e1, hv3, e3⟩ := hv2
            subst e1
            subst e3
            clear hv3
            obtain ⟨b, off, rfl, hbl, hcl⟩ := hc2 (by rw [HLN.out]; omega)
            have hc := hcl i (by rw [HLN.out]; omega)
            have his := HIS.out i (by rw [HLN.out]; omega)
            have HI1 := hid his
            clear hcl hc2 hl2 his
            generalize L.getD i 0 = y at *
            generalize inL L t i = I at *
            cases I
            all_goals
              go_wp2
              go_roundw
            all_goals first
              | exact ⟨i + 1, by rw [HI1.out]; rfl, by go_num, by omega, rfl⟩
              | exact ⟨i + 1, by rw [HI1.out]; rfl, by go_num, by omega, trivial⟩
              | (simp [intOf] <;> omega)
          · obtain rfl : i = Ln := by omega
            have hili : ¬ (i : Int) < (i : Int) := by omega
            rw [HIA.out]
            generalize decide ((t : Int) ∈ L) = cb at *
            cases cb with
            | true =>
              have hno : okB SB L t = false := hok
              have HN2 : Hid (cmpT S SB ring f L (t + 1) = cmpT S SB ring f L t) := hid (by rw [cmpT_succ, hno, if_neg (by decide), List.append_nil])
              clear hok hno
              go_wp2
              go_roundw
              case rel => exact ⟨t + 1, by go_num, by omega, by rw [HN2.out], by rw [HN2.out]; exact HH, HX.out.1, HX.out.2.1, HX.out.2.2⟩
              case measure => simp [intOf] <;> omega
            | false =>
              have hcase : (i = 0 ∧ okB SB L t = true) ∨ (0 < i ∧ okB SB L t = SB ((L.getD (i - 1) 0).toNat * 9 + t)) := by
                rcases Nat.eq_zero_or_pos i with h | h
                · exact .inl ⟨h, by rw [hok, h]; rfl⟩
                · exact .inr ⟨h, by rw [hok, decide_eq_false (by omega)]; rfl⟩
              clear hok
              rcases hcase with ⟨hL0, hokv⟩ | ⟨hL0, hokv⟩
              · have hLp : ¬ (0 : Int) < (i : Int) := by omega
                have HL0 := hid hL0
                clear hL0
                have HW : Hid (Arr wr w.heap.size 24 [.int .i64 (S : Int), .slice ax N cx] ∧ Sl wr (.slice av i cv) L ∧ HeadV wr u11 (cmpT S SB ring f L t) ∧ Below w.heap.size w wr) := hid ⟨HX.out.1, HX.out.2.1, HH.out, HX.out.2.2⟩
                have hcap9 : L.length ≤ 100 := by rw [HLN.out]; omega
                have hA5 := HW.out.1
                have hV5 := HW.out.2.1
                have hlt5 := hA5.lt
                have HBW := hid HW.out.2.2.2
                go_wp2_with (first
                  | (at_builtin; refine wpList_apps (w := wr.alloc (.cells #[] 3)) _ _ 22 3 (.int .i64 0) 8 rfl rfl Try.underlying22 Try.info3 rfl (by decide) wr.heap.size _ _ _ _ rfl (OI.lit0 wr.heap.size wr (Nat.le_refl _)) rfl (hV5.below ((Below.refl _ _).alloc (Nat.le_refl _) _)) (ints_one _) (by simp; omega) (by simp) ?_; intro v6 w6 ho6 hg6 hg6a; have hA6 := (hA5.alloc (.cells #[] 3)).kept hg6 (fun e => by have : w.heap.size = wr.heap.size := Option.some.inj e; omega); have hb6 := (HBW.out.alloc HBW.out.size (.cells #[] 3)).grown hg6 (by have := HBW.out.size; simp; omega) (fun k e => by have : wr.heap.size = k := Option.some.inj e; have := HBW.out.size; omega); have ho6' := OI.ofApp (l := []) ho6; have hs6 := hg6.size)
                  | (at_builtin; refine wpList_appi w6 _ _ 22 rfl rfl Try.underlying22 Try.info3 wr.heap.size _ _ rfl ho6' rfl (by simp; omega) (by simp at hs6; omega) ?_; intro g7 c7 w7 ho7 hg7 hg7a hg7b; have hA7 := hA6.kept hg7 (fun e => by have := (OI.lt ho6' _ e.symm).1; omega); have hb7 := hb6.grown hg7 (by have := HBW.out.size; simp at hs6; omega) (fun k e => by have := (OI.lt ho6' k e).1; have := HBW.out.size; omega); have hbw7 : Below wr.heap.size wr w7 := (((Below.refl wr.heap.size wr).alloc (Nat.le_refl _) (.cells #[] 3)).grown hg6 (by simp) (fun k e => by have : wr.heap.size = k := Option.some.inj e; omega)).grown hg7 (by simp at hs6; omega) (fun k e => (OI.lt ho6' k e).1); have k0 := hA7.cell 0; have k1 := hA7.cell 1; simp only [List.getElem?_cons_zero, List.getElem?_cons_succ] at k0 k1; have ho7' : OI wr.heap.size w7 (.slice (some ⟨g7, 0, none⟩) _ c7) (L ++ [(t : Int)]) := ho7; have hV7 := hV5.below hbw7; have hH7 := HeadV.grown HW.out.2.2.1 hbw7))
                have HT7 := hid (And.intro hA7 (And.intro hb7 (And.intro hV7 hH7)))
                have HC := hid (HIH.out t hlt _ w7 hb7 (ho7'.sl (by simp; omega)))
                clear hA6 hb6 ho6 hg6 hg6a ho6' hs6 hg7 hg7a hg7b ho7 ho7' hV7 hH7
                refine HC.out.mono ?_
                rintro e w8 ⟨⟨r8, rfl, hr8⟩, hb8⟩
                have HSUC := hid (show cmpT S SB ring f L (t + 1) = cmpT S SB ring f L t ++ cmpF S SB ring f (L ++ [(t : Int)]) by rw [cmpT_succ, hokv, if_pos rfl])
                have hbd := HP9.out (t + 1) (by omega)
                rw [HSUC.out, List.length_append] at hbd
                have HZ := hid (And.intro (HT7.out.1.below hb8) (And.intro (HT7.out.2.2.1.below hb8) (And.intro (HT7.out.2.1.trans (hb8.mono HT7.out.2.1.size)) (And.intro (HT7.out.2.2.2.grown hb8) hr8))))
                clear HT7 hb8 hr8 HW HX HH HC HBW hA5 hV5 hbw7
                generalize cmpT S SB ring f L t = CT at *
                generalize cmpF S SB ring f (L ++ [(t : Int)]) = CF at *
                have HLEN : Hid ((cmpT S SB ring f L (t + 1)).length = CT.length + CF.length) := hid (by rw [HSUC.out, List.length_append])
                generalize hc1 : CT.length = c1 at *
                generalize hc2 : CF.length = c2 at *
                have hw := IntWalk.i64_in ((c1 : Int) + (c2 : Int)) (by omega)
                have hw1 : (c1 : Int) + (c2 : Int) ≤ 387420489 := by omega
                rcases Nat.eq_zero_or_pos c1 with h1 | h1
                · have hCT : CT = [] := List.eq_nil_of_length_eq_zero (by omega)
                  have z1 : ((c1 : Int) == 0) = true := by rw [beq_iff_eq]; omega
                  rcases Nat.eq_zero_or_pos c2 with h2 | h2
                  · have z2 : ¬ (0 : Int) < (c2 : Int) := by omega
                    have HV2 : Hid (HeadV w8 u11 (cmpT S SB ring f L (t + 1))) := hid (by rw [HSUC.out, show CF = [] from List.eq_nil_of_length_eq_zero (by omega), List.append_nil]; exact HZ.out.2.2.2.1)
                    clear hc1 hc2 h1 h2 hCT
                    go_wp2
                    go_roundw
                    case rel => exact ⟨t + 1, by go_num, by omega, by rw [HLEN.out]; go_num, HV2, HZ.out.1, HZ.out.2.1, HZ.out.2.2.1⟩
                    case measure => simp [intOf] <;> omega
                  · have z2 : (0 : Int) < (c2 : Int) := by omega
                    have HV2 : Hid (HeadV w8 r8 (cmpT S SB ring f L (t + 1))) := hid (by rw [HSUC.out, hCT, List.nil_append]; exact HZ.out.2.2.2.2)
                    clear hc1 hc2 h1 h2 hCT
                    go_wp2
                    go_roundw
                    case rel => exact ⟨t + 1, by go_num, by omega, by rw [HLEN.out]; go_num, HV2, HZ.out.1, HZ.out.2.1, HZ.out.2.2.1⟩
                    case measure => simp [intOf] <;> omega
                · have z1 : ((c1 : Int) == 0) = false := by rw [beq_eq_false_iff_ne]; omega
                  have HV2 : Hid (HeadV w8 u11 (cmpT S SB ring f L (t + 1))) := hid (by rw [HSUC.out]; exact HZ.out.2.2.2.1.app (fun e => by rw [e] at hc1; simp at hc1; omega))
                  clear hc1 hc2 h1
                  go_wp2
                  go_roundw
                  case rel => exact ⟨t + 1, by go_num, by omega, by rw [HLEN.out]; go_num, HV2, HZ.out.1, HZ.out.2.1, HZ.out.2.2.1⟩
                  case measure => simp [intOf] <;> omega
              · obtain ⟨a2, c2, hv2, hl2, hc2⟩ := HSC.out
                simp only [Value.slice.injEq] at hv2
                obtain ⟨e1, hv3, e3⟩ := hv2
                subst e1
                subst e3
                clear hv3
                obtain ⟨b, off, rfl, hbl, hcl⟩ := hc2 (by rw [HLN.out]; exact hL0)
                have hc := hcl (i - 1) (by rw [HLN.out]; omega)
                have hxin := HIN.out (L.getD (i - 1) 0) (by rw [List.getD_eq_getElem?_getD, List.getElem?_eq_getElem (by rw [HLN.out]; omega)]; exact List.getElem_mem _)
                obtain ⟨x, ex⟩ := Int.eq_ofNat_of_zero_le hxin.1
                rw [ex] at hc hxin hokv
                rw [Int.toNat_natCast] at hokv
                have hxS : x < S := by omega
                have HCB := hid (HBT.out x t hxS hlt wr.drew HX.out.2.2.drew)
                rw [← hokv] at HCB
                have k0 := HX.out.1.cell 0
                have k1 := HX.out.1.cell 1
                simp only [List.getElem?_cons_zero, List.getElem?_cons_succ] at k0 k1
                have hLp : (0 : Int) < (i : Int) := by omega
                have him : (i : Int) - 1 = ((i - 1 : Nat) : Int) := by omega
                have him2 : i - 1 < i := by omega
                clear hcl hc2 hl2 ex hxin hokv
                generalize i - 1 = im at *
                have q1 : (im : Int) < (i : Int) := by omega
                have q2 : (0 : Int) ≤ (im : Int) := by omega
                have q5 := IntWalk.i64_in (im : Int) (by omega)
                have hwl := HX.out.1.lt
                have hS0 : wr.drew.cell? ⟨w.heap.size, 0, none⟩ = some (.int .i64 (S : Int)) ∧ wr.drew.cell? ⟨w.heap.size, 1, none⟩ = some (.slice ax N cx) ∧ wr.drew.cell? ⟨b, off + im, none⟩ = some (.int .i64 (x : Int)) := ⟨k0, k1, hc⟩
                clear k0 k1 hc
                generalize hokv : okB SB L t = sb at *
                go_wp2
                go_region_held_law (fun W => W.cell? ⟨w.heap.size, 0, none⟩ = some (.int .i64 (S : Int)) ∧ W.cell? ⟨w.heap.size, 1, none⟩ = some (.slice ax N cx) ∧ W.cell? ⟨b, off + im, none⟩ = some (.int .i64 (x : Int))) (first | exact hS0 | exact hS5)
                  ((go_at_call 18; refine HCB.out.mono ?_; rintro e w5 ⟨rfl, hb5⟩; have hS5 := And.intro ((hb5.cell (p := ⟨w.heap.size, 0, none⟩) hwl).trans hS0.1) (And.intro ((hb5.cell (p := ⟨w.heap.size, 1, none⟩) hwl).trans hS0.2.1) ((hb5.cell (p := ⟨b, off + im, none⟩) hbl).trans hS0.2.2))))
                have hbw5 : Below wr.heap.size wr w5 := (Below.refl wr.heap.size wr).drew.trans hb5
                have HW : Hid (Arr w5 w.heap.size 24 [.int .i64 (S : Int), .slice ax N cx] ∧ Sl w5 (.slice (some ⟨b, off, none⟩) i cv) L ∧ HeadV w5 u11 (cmpT S SB ring f L t) ∧ Below w.heap.size w w5) := hid ⟨HX.out.1.below hbw5, HX.out.2.1.below hbw5, HH.out.grown hbw5, HX.out.2.2.trans (hbw5.mono HX.out.2.2.size)⟩
                clear hb5 hS5 hS0 hbw5 HCB
                cases sb with
                | false =>
                  have HN2 : Hid (cmpT S SB ring f L (t + 1) = cmpT S SB ring f L t) := hid (by rw [cmpT_succ, hokv, if_neg (by decide), List.append_nil])
                  clear hokv
                  go_wp2
                  go_roundw
                  case rel => exact ⟨t + 1, by go_num, by omega, by rw [HN2.out], hid (by rw [HN2.out]; exact HW.out.2.2.1), HW.out.1, HW.out.2.1, HW.out.2.2.2⟩
                  case measure => simp [intOf] <;> omega
                | true =>
                  have hcap9 : L.length ≤ 100 := by rw [HLN.out]; omega
                  have hA5 := HW.out.1
                  have hV5 := HW.out.2.1
                  have hlt5 := hA5.lt
                  have HBW := hid HW.out.2.2.2
                  go_wp2_with (first
                    | (at_builtin; refine wpList_apps (w := w5.alloc (.cells #[] 3)) _ _ 22 3 (.int .i64 0) 8 rfl rfl Try.underlying22 Try.info3 rfl (by decide) w5.heap.size _ _ _ _ rfl (OI.lit0 w5.heap.size w5 (Nat.le_refl _)) rfl (hV5.below ((Below.refl _ _).alloc (Nat.le_refl _) _)) (ints_one _) (by simp; omega) (by simp) ?_; intro v6 w6 ho6 hg6 hg6a; have hA6 := (hA5.alloc (.cells #[] 3)).kept hg6 (fun e => by have : w.heap.size = w5.heap.size := Option.some.inj e; omega); have hb6 := (HBW.out.alloc HBW.out.size (.cells #[] 3)).grown hg6 (by have := HBW.out.size; simp; omega) (fun k e => by have : w5.heap.size = k := Option.some.inj e; have := HBW.out.size; omega); have ho6' := OI.ofApp (l := []) ho6; have hs6 := hg6.size)
                    | (at_builtin; refine wpList_appi w6 _ _ 22 rfl rfl Try.underlying22 Try.info3 w5.heap.size _ _ rfl ho6' rfl (by simp; omega) (by simp at hs6; omega) ?_; intro g7 c7 w7 ho7 hg7 hg7a hg7b; have hA7 := hA6.kept hg7 (fun e => by have := (OI.lt ho6' _ e.symm).1; omega); have hb7 := hb6.grown hg7 (by have := HBW.out.size; simp at hs6; omega) (fun k e => by have := (OI.lt ho6' k e).1; have := HBW.out.size; omega); have hbw7 : Below w5.heap.size w5 w7 := (((Below.refl w5.heap.size w5).alloc (Nat.le_refl _) (.cells #[] 3)).grown hg6 (by simp) (fun k e => by have : w5.heap.size = k := Option.some.inj e; omega)).grown hg7 (by simp at hs6; omega) (fun k e => (OI.lt ho6' k e).1); have k0 := hA7.cell 0; have k1 := hA7.cell 1; simp only [List.getElem?_cons_zero, List.getElem?_cons_succ] at k0 k1; have ho7' : OI w5.heap.size w7 (.slice (some ⟨g7, 0, none⟩) _ c7) (L ++ [(t : Int)]) := ho7; have hV7 := hV5.below hbw7; have hH7 := HeadV.grown HW.out.2.2.1 hbw7))
                  have HT7 := hid (And.intro hA7 (And.intro hb7 (And.intro hV7 hH7)))
                  have HC := hid (HIH.out t hlt _ w7 hb7 (ho7'.sl (by simp; omega)))
                  clear hA6 hb6 ho6 hg6 hg6a ho6' hs6 hg7 hg7a hg7b ho7 ho7' hV7 hH7
                  refine HC.out.mono ?_
                  rintro e w8 ⟨⟨r8, rfl, hr8⟩, hb8⟩
                  have HSUC := hid (show cmpT S SB ring f L (t + 1) = cmpT S SB ring f L t ++ cmpF S SB ring f (L ++ [(t : Int)]) by rw [cmpT_succ, hokv, if_pos rfl])
                  have hbd := HP9.out (t + 1) (by omega)
                  rw [HSUC.out, List.length_append] at hbd
                  have HZ := hid (And.intro (HT7.out.1.below hb8) (And.intro (HT7.out.2.2.1.below hb8) (And.intro (HT7.out.2.1.trans (hb8.mono HT7.out.2.1.size)) (And.intro (HT7.out.2.2.2.grown hb8) hr8))))
                  clear HT7 hb8 hr8 HW HX HH HC HBW hA5 hV5 hbw7
                  generalize cmpT S SB ring f L t = CT at *
                  generalize cmpF S SB ring f (L ++ [(t : Int)]) = CF at *
                  have HLEN : Hid ((cmpT S SB ring f L (t + 1)).length = CT.length + CF.length) := hid (by rw [HSUC.out, List.length_append])
                  generalize hc1 : CT.length = c1 at *
                  generalize hc2 : CF.length = c2 at *
                  have hw := IntWalk.i64_in ((c1 : Int) + (c2 : Int)) (by omega)
                  have hw1 : (c1 : Int) + (c2 : Int) ≤ 387420489 := by omega
                  rcases Nat.eq_zero_or_pos c1 with h1 | h1
                  · have hCT : CT = [] := List.eq_nil_of_length_eq_zero (by omega)
                    have z1 : ((c1 : Int) == 0) = true := by rw [beq_iff_eq]; omega
                    rcases Nat.eq_zero_or_pos c2 with h2 | h2
                    · have z2 : ¬ (0 : Int) < (c2 : Int) := by omega
                      have HV2 : Hid (HeadV w8 u11 (cmpT S SB ring f L (t + 1))) := hid (by rw [HSUC.out, show CF = [] from List.eq_nil_of_length_eq_zero (by omega), List.append_nil]; exact HZ.out.2.2.2.1)
                      clear hc1 hc2 h1 h2 hCT
                      go_wp2
                      go_roundw
                      case rel => exact ⟨t + 1, by go_num, by omega, by rw [HLEN.out]; go_num, HV2, HZ.out.1, HZ.out.2.1, HZ.out.2.2.1⟩
                      case measure => simp [intOf] <;> omega
                    · have z2 : (0 : Int) < (c2 : Int) := by omega
                      have HV2 : Hid (HeadV w8 r8 (cmpT S SB ring f L (t + 1))) := hid (by rw [HSUC.out, hCT, List.nil_append]; exact HZ.out.2.2.2.2)
                      clear hc1 hc2 h1 h2 hCT
                      go_wp2
                      go_roundw
                      case rel => exact ⟨t + 1, by go_num, by omega, by rw [HLEN.out]; go_num, HV2, HZ.out.1, HZ.out.2.1, HZ.out.2.2.1⟩
                      case measure => simp [intOf] <;> omega
                  · have z1 : ((c1 : Int) == 0) = false := by rw [beq_eq_false_iff_ne]; omega
                    have HV2 : Hid (HeadV w8 u11 (cmpT S SB ring f L (t + 1))) := hid (by rw [HSUC.out]; exact HZ.out.2.2.2.1.app (fun e => by rw [e] at hc1; simp at hc1; omega))
                    clear hc1 hc2 h1
                    go_wp2
                    go_roundw
                    case rel => exact ⟨t + 1, by go_num, by omega, by rw [HLEN.out]; go_num, HV2, HZ.out.1, HZ.out.2.1, HZ.out.2.2.1⟩
                    case measure => simp [intOf] <;> omega
      · obtain rfl : t = S := by omega
        have hlti : ¬ (t : Int) < (t : Int) := by omega
        have HX := hid (And.intro HH.out hB)
        have hk := HP9.out t (Nat.le_refl _)
        have HE : Hid (cmpF t SB ring (f + 1) L = cmpT t SB ring f L t) := hid (cmpF_succ _ _ _ _ _)
        clear hA hV hB
        go_wp2
        go_ret2
        rw [HE.out]
        exact ⟨⟨_, rfl, HX.out.1⟩, HX.out.2⟩
end Go.Proofs.Ythbpdfkaacgpoaa
