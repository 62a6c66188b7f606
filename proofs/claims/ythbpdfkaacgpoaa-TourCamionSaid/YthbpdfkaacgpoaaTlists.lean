/-
  The walk over tour.lists, with a function that is called for each list. Conditions: as the theorem states.
-/
import Derived.Test.YthbpdfkaacgpoaaTopen
import Derived.Test.YthbpdfkaacgpoaaTdfs
import Derived.Test.YthbpdfkaacgpoaaTcont
import Derived.Deep.RegionLawGrows
import Derived.Deep.RegionHeldLaw
namespace Go.Proofs.Ythbpdfkaacgpoaa
set_option linter.unusedVariables false
open Go.RowKit

/-- A slice lies apart from a block. -/
def OffB (v : Value) (b : Nat) : Prop := ∀ a n c, v = .slice (some a) n c → a.block ≠ b
/-- A function value that is called for each list, and writes one box alone. -/
structure Cont {σ : Type} (c : FuncId) (cap : Array Value) (bx : Nat) (Inv : σ → World → Prop) (step : σ → List Int → σ × Bool) (load : σ → Nat) (M N : Nat) : Prop where
  enter : ∀ (args : Array Value) (w : World), (callFunc c args).run Try.prog w = .ok (.enter c args) w
  calls : ∀ (s : σ) (w : World) (v : Value) (l : List Int), Inv s w → load s < M → Sl w v l → OffB v bx → l.length = N → (∀ x ∈ l, 0 ≤ x ∧ x < 9) → Calls Try.prog c (#[v] ++ cap) w fun e w' => e = .returned (.bool (step s l).2) ∧ Inv (step s l).1 w' ∧ w.grownBy w' (some bx)
  stab : ∀ s w w', Inv s w → w.grownBy w' none → Inv s w'
  box : ∀ s w, Inv s w → bx < w.heap.size
  lstep : ∀ s x, load (step s x).1 ≤ load s + 1

theorem grown_nr {A B C : World} {r : Option Nat} (h : A.grownBy B none) (g : B.grownBy C r) : A.grownBy C r :=
  ⟨g.os.trans h.os, g.tape.trans h.tape, g.output.trans h.output, Nat.le_trans h.size g.size, fun k hk hne => (g.block k (Nat.lt_of_lt_of_le hk h.size) hne).trans (h.block k hk (by simp))⟩
theorem grown_rr {A B C : World} {r : Option Nat} (h : A.grownBy B r) (g : B.grownBy C r) : A.grownBy C r :=
  ⟨g.os.trans h.os, g.tape.trans h.tape, g.output.trans h.output, Nat.le_trans h.size g.size, fun k hk hne => (g.block k (Nat.lt_of_lt_of_le hk h.size) hne).trans (h.block k hk hne)⟩
theorem grown_rn {A B C : World} {r : Option Nat} (h : A.grownBy B r) (g : B.grownBy C none) : A.grownBy C r :=
  ⟨g.os.trans h.os, g.tape.trans h.tape, g.output.trans h.output, Nat.le_trans h.size g.size, fun k hk hne => (g.block k (Nat.lt_of_lt_of_le hk h.size) (by simp)).trans (h.block k hk hne)⟩
theorem grown_drew (A : World) : A.grownBy A.drew none := ⟨rfl, rfl, rfl, Nat.le_refl _, fun _ _ _ => rfl⟩
theorem Sl.grown {A B : World} {v : Value} {l : List Int} {bx : Nat} (h : Sl A v l) (g : A.grownBy B (some bx)) (ho : OffB v bx) : Sl B v l := by
  obtain ⟨a, c, hv, hl, hc⟩ := h
  refine ⟨a, c, hv, hl, fun h0 => ?_⟩
  obtain ⟨b, off, ha, hlt, hcell⟩ := hc h0
  have hne : b ≠ bx := ho ⟨b, off, none⟩ _ _ (by rw [hv, ha])
  refine ⟨b, off, ha, Nat.lt_of_lt_of_le hlt g.size, fun i hi => ?_⟩
  rw [← hcell i hi]
  simp only [World.cell?]
  rw [g.block b hlt (fun e => hne (Option.some.inj e))]
/-- append to a slice that is full: a new row. -/
theorem step_snoc {P : Program} {ops : Array Oper} {o : Oper} {a : Act} {K : Act → World → Prop} {Q : Exit → Act → World → Prop} {R : Prop} {w : World} {x : Int} {H : Nat} (w0 : World) (s y : Operand) (st : TypeId)
    (hgd : o.guard = none) (ho : o.op = .call { callee := .builtin .append, args := #[s, y], argTypes := #[st, st] })
    (ht : P.underlying st = some (.slice 3)) (hi : (P.info? 3).map (fun i => (i.zero, i.size, i.bytes)) = some (some (.int .i64 0), 1, 8))
    (ao : Option Addr) (L c0 : Nat) (l : List Int) (hs : a.eval s = .slice ao L L) (hv : Sl w0 (.slice ao L c0) l) (hL : l.length = L) (hl9 : L ≤ 100) (hy : a.eval y = .slice (some ⟨H, 0, none⟩) 1 1)
    (h : ∀ v' w', OI w0.heap.size w' v' (l ++ [x]) → w0.grownBy w' none → K (a.put o.dst v') w')
    (h0 : Below w0.heap.size w0 w) (hcell : w.cell? ⟨H, 0, none⟩ = some (.int .i64 x)) :
    if Region.wanted o (yielded ops a.tmps) = true then Oper.wp P o a w K Q else R := by
  obtain ⟨i0, hi1, hz0, hz1, hz2⟩ := info_parts hi
  obtain ⟨a', c', hv1, hl1, hc⟩ := hv.out
  simp only [Value.slice.injEq] at hv1
  obtain ⟨e1, e2, e3⟩ := hv1
  subst e1
  refine step_append_grows hgd s y st ho 3 i0 (.int .i64 0) 1 8 ht hi1 hz0 hz1 hz2 rfl (by decide) ao L L (l.map (Value.int .i64)) hs ?_ (by simp [hL]) ?_ ⟨H, 0, none⟩ 1 1 [.int .i64 x] hy rfl ?_ ?_ (by omega) (by unfold maxLen; omega) (by omega) ?_
  · intro e
    by_cases hz : 0 < l.length
    · obtain ⟨b, off, e4, _⟩ := hc hz
      rw [e] at e4
      cases e4
    · omega
  · intro b e j u hj
    by_cases hjl : j < l.length
    · obtain ⟨bb, off, e4, hlt, hcell⟩ := hc (by omega)
      rw [e] at e4
      cases e4
      rw [List.getElem?_map, List.getElem?_eq_getElem hjl] at hj
      simp at hj
      subst hj
      have h3 := (h0.cell (p := ⟨bb, off + j, none⟩) hlt).trans (hcell j hjl)
      rw [List.getD_eq_getElem?_getD, List.getElem?_eq_getElem hjl] at h3
      rw [Addr.add_mid]
      exact h3
    · rw [List.getElem?_eq_none (by simp; omega)] at hj
      cases hj
  · intro j u hj
    match j, hj with
    | 0, hj => simp at hj; subst hj; simpa [Addr.add] using hcell
  · intro u hu; simp at hu; subst hu; rfl
  · intro v' w' h1 h2
    refine h v' w' ?_ ⟨h2.os.trans h0.os, h2.tape.trans h0.tape, h2.output.trans h0.output, Nat.le_trans h0.size h2.size, fun k hk hne => (h2.block k (by have := h0.size; omega) hne).trans (h0.block k hk)⟩
    have h3 : Ow 3 w.heap.size w' v' ((l ++ [x]).map (Value.int .i64)) := by
      unfold Ow
      simpa [hL] using h1
    exact OI.mono (show OI w.heap.size w' v' (l ++ [x]) from h3) h0.size
theorem Sl.grown0 {A B : World} {v : Value} {l : List Int} (h : Sl A v l) (g : A.grownBy B none) : Sl B v l := by
  obtain ⟨a, c, hv, hl, hc⟩ := h
  refine ⟨a, c, hv, hl, fun h0 => ?_⟩
  obtain ⟨b, off, ha, hlt, hcell⟩ := hc h0
  refine ⟨b, off, ha, Nat.lt_of_lt_of_le hlt g.size, fun i hi => ?_⟩
  rw [← hcell i hi]
  simp only [World.cell?]
  rw [g.block b hlt (by simp)]
theorem foldU_one {σ : Type} (step : σ → List Int → σ × Bool) (s : σ) (l : List Int) : foldU step s [l] = step s l := by
  simp only [foldU]
  cases h : step s l with
  | mk a b => cases b <;> rfl

set_option maxHeartbeats 2000000 in
set_option maxRecDepth 100000 in
theorem tlists_any {σ : Type} {c : FuncId} {cap : Array Value} {bx : Nat} {Inv : σ → World → Prop} {step : σ → List Int → σ × Bool} {load : σ → Nat} {M N : Nat} (C : Cont c cap bx Inv step load M N) (SB : Nat → Bool) (hN : N ≤ 9) :
    ∀ (f : Nat) (l : List Int) (v : Value) (s : σ) (w : World), l.length + f = N → (∀ x ∈ l, 0 ≤ x ∧ x < 9) → Sl w v l → OffB v bx → Inv s w → load s + (comp N SB f l).length ≤ M →
    Calls Try.prog 35 #[.int .i64 N, .agg (boolS 81 SB).toArray, v, .func (.func c) #[] cap] w fun e w' => e = .returned (.bool (foldU step s (comp N SB f l)).2) ∧ Inv (foldU step s (comp N SB f l)).1 w' ∧ w.grownBy w' (some bx) := by
  intro f
  induction f with
  | zero =>
    intro l v s w hlen hin hv hoff hI hM
    have hl9 : l.length = N := by omega
    have hM1 : load s < M := by simp [comp] at hM; omega
    have he := C.enter
    have hbx := C.box s w hI
    have HA := (World.grownBy_alloc w (.cells (boolS 81 SB).toArray 51) none)
    have hb0 : Below w.heap.size w (w.alloc (.cells (boolS 81 SB).toArray 51)) := (Below.refl _ _).alloc (Nat.le_refl _) _
    have HC := hid (C.calls s _ v l (C.stab s w _ hI HA) hM1 (hv.below hb0) hoff hl9 hin)
    have HG := hid HA
    have HST : Hid (foldU step s (comp N SB 0 l) = step s l) := hid (foldU_one step s l)
    have hone : (boolS 81 SB).toArray.all (·.oneCell') = true := by
      rw [List.all_toArray, List.all_eq_true]
      intro v hv
      obtain ⟨x, _, rfl⟩ := List.mem_map.1 hv
      rfl
    obtain ⟨a, cc, e1⟩ := hv.len
    rw [hl9] at e1
    subst e1
    clear hv hI hoff HA hM
    go_enter Try.func35, Try.ntmps35
    go_wp2_with fail
    refine HC.out.mono ?_
    rintro e w2 ⟨rfl, hI2, hg2⟩
    have HX := hid (And.intro hI2 (grown_nr HG.out hg2))
    clear hI2 hg2 HC HG
    go_wp2
    go_ret
    rw [HST.out]
    exact ⟨rfl, HX.out.1, HX.out.2⟩
  | succ f ih =>
    intro l v s w hlen hin hv hoff hI hM
    have hlN : ¬ (l.length : Int) = (N : Int) := by omega
    have hlne : ((l.length : Int) == (N : Int)) = false := by rw [beq_eq_false_iff_ne]; exact hlN
    have hbx := C.box s w hI
    have HA := (World.grownBy_alloc w (.cells (boolS 81 SB).toArray 51) none)
    have hb0 : Below w.heap.size w (w.alloc (.cells (boolS 81 SB).toArray 51)) := (Below.refl _ _).alloc (Nat.le_refl _) _
    have HS0 := hid (And.intro (C.stab s w _ hI HA) (And.intro (Arr.new w 51 (boolS 81 SB)) (And.intro (hv.below hb0) HA)))
    have HLD := hid (foldU_load (step := step) C.lstep)
    have HIH := hid ih
    have HC := hid C
    have HOFF := hid hoff
    have hone : (boolS 81 SB).toArray.all (·.oneCell') = true := by
      rw [List.all_toArray, List.all_eq_true]
      intro v hv
      obtain ⟨x, _, rfl⟩ := List.mem_map.1 hv
      rfl
    obtain ⟨a, cc, e1⟩ := hv.len
    subst e1
    have HLL : Hid (l.length + (f + 1) = N) := hid hlen
    have hl9 : l.length < 9 := by omega
    generalize hLL : l.length = L at *
    have HL := hid hLL
    clear hv hI HA ih hoff hb0 hLL hlen
    go_enter Try.func35, Try.ntmps35
    go_wp2_with fail
    go_loopw [9, 18] (fun _ x wr => ∃ (t : Nat) (s' : σ), x = .int .i64 t ∧ t ≤ N ∧ Hid (foldU step s (compT N SB f l t) = (s', false)) ∧ Hid (Inv s' wr) ∧ Arr wr w.heap.size 51 (boolS 81 SB) ∧ Sl wr (.slice a L cc) l ∧ w.grownBy wr (some bx)) (fun _ x _ => N - (intOf x).toNat)
    case atStart => exact ⟨0, s, rfl, Nat.zero_le _, hid rfl, hid HS0.out.1, HS0.out.2.1, HS0.out.2.2.1, grown_rn ⟨rfl, rfl, rfl, Nat.le_refl _, fun _ _ _ => rfl⟩ HS0.out.2.2.2⟩
    case round =>
      clear HS0
      obtain ⟨t, s', rfl, htN, HF, HI, hT, hS, hG⟩ := hrel
      by_cases hlt : t < N
      · have hlti : (t : Int) < (N : Int) := by omega
        have HCT := hid (containsI_any (.slice a L cc) l t wr hS)
        have HX := hid (And.intro hT (And.intro hS hG))
        clear hT hS hG
        have hok : okB SB l t = (!(decide ((t : Int) ∈ l)) && (decide (L = 0) || SB ((l.getD (L - 1) 0).toNat * 9 + t))) := by unfold okB; rw [HL.out]
        generalize decide ((t : Int) ∈ l) = cb at *
        go_wp2_with fail
        refine HCT.out.mono ?_
        rintro e w2 ⟨rfl, rfl⟩
        obtain ⟨s5, b5, h5⟩ : ∃ a b, foldU step s' (comp N SB f (l ++ [(t : Int)])) = (a, b) := ⟨_, _, rfl⟩
        have HCALL : Hid (okB SB l t = true → ∀ v4 w4, OI wr.drew.heap.size w4 v4 (l ++ [(t : Int)]) → wr.drew.grownBy w4 none → Calls Try.prog 35 #[.int .i64 N, .agg (boolS 81 SB).toArray, v4, .func (.func c) #[] cap] w4 fun e w' => e = .returned (.bool b5) ∧ Inv s5 w' ∧ w4.grownBy w' (some bx)) := hid (fun hy v4 w4 ho hg => by
          have h6 := HIH.out (l ++ [(t : Int)]) v4 s' w4 (by rw [List.length_append, HL.out]; have := HLL.out; simp; omega) (fun x hx => by
            rcases List.mem_append.1 hx with h | h
            · exact hin x h
            · simp at h; omega) (ho.sl (by rw [List.length_append, HL.out]; simp; omega)) (fun a n cc' e => by
            have h7 := OI.lt ho a.block (by rw [e]; rfl)
            have h8 := HC.out.box s' wr HI.out
            have h9 : wr.drew.heap.size = wr.heap.size := rfl
            omega) (HC.out.stab s' wr w4 HI.out (grown_nr (grown_drew wr) hg)) (by
            have h7 := HLD.out s (compT N SB f l t)
            rw [HF.out] at h7
            have h8 := compT_le (N := N) (SB := SB) (f := f) (l := l) (show t + 1 ≤ N by omega)
            rw [compT_succ, hy, if_pos rfl, List.length_append] at h8
            have h9 : load s' ≤ load s + (compT N SB f l t).length := h7
            omega)
          rw [h5] at h6
          exact h6)
        have HYES : Hid (okB SB l t = true → foldU step s (compT N SB f l (t + 1)) = (s5, b5)) := hid (fun hy => by
          rw [compT_succ, hy, if_pos rfl, foldU_go step (by rw [HF.out])]
          rw [HF.out]
          exact h5)
        have HSTOP : Hid (okB SB l t = true → b5 = true → foldU step s (comp N SB (f + 1) l) = (s5, true)) := hid (fun hy hb => by
          obtain ⟨r, hr⟩ := compT_pre N SB f l (show t + 1 ≤ N by omega)
          rw [comp_succ, hr, foldU_stop step (by rw [HYES.out hy]; exact hb), HYES.out hy, hb])
        clear h5
        cases cb with
        | true =>
          have hno : okB SB l t = false := hok
          have HF2 : Hid (foldU step s (compT N SB f l (t + 1)) = (s', false)) := hid (by rw [compT_succ, hno, if_neg (by decide), List.append_nil]; exact HF.out)
          clear hok hno HCT
          go_wp2
          go_roundw
          case rel => exact ⟨t + 1, s', by go_num, by omega, HF2, HI, HX.out.1, HX.out.2.1, HX.out.2.2⟩
          case measure => simp [intOf] <;> omega
        | false =>
          have hcase : (L = 0 ∧ okB SB l t = true) ∨ (0 < L ∧ okB SB l t = SB ((l.getD (L - 1) 0).toNat * 9 + t)) := by
            rcases Nat.eq_zero_or_pos L with h | h
            · exact .inl ⟨h, by rw [hok, h]; rfl⟩
            · exact .inr ⟨h, by rw [hok, decide_eq_false (by omega)]; rfl⟩
          clear hok HCT
          rcases hcase with ⟨hL0, hokv⟩ | ⟨hL0, hok⟩
          · have hlLe : L ≤ cc := by
              obtain ⟨a2, c2, hv2, hl2, hc2⟩ := HX.out.2.1.out
              simp only [Value.slice.injEq] at hv2
              obtain ⟨e1, hv3, e3⟩ := hv2
              subst e3
              rw [← hv3] at hl2
              exact hl2.2
            have hLp : ¬ (0 : Int) < (L : Int) := by omega
            have hLz : (0 : Int) ≤ (L : Int) := by omega
            have hLn := hid hL0
            clear hL0
            have ht9 : t < 9 := by omega
            · skip
              have HTD : Hid (Arr wr.drew w.heap.size 51 (boolS 81 SB)) := hid HX.out.1
              have hr0 := HTD.out.range
              have hr1 := (HTD.out.alloc (.cells #[.int .i64 (t : Int)] 3)).range
              have i1 : (Try.prog.info? 51).map (·.size) = some (boolS 81 SB).length := by rw [boolS_len]; kernel_rfl
              have hun := Try.underlying51
              have hSd := HX.out.2.1.drew
              have h8 : (boolS 81 SB).length = 81 := boolS_len 81 SB
              go_wp2
              go_region_held_law (fun W => W.rangeAt w.heap.size 0 (boolS 81 SB)) (first | exact hr0 | exact hr1 | exact hr4 | exact hr5)
                (first
                  | (refine step_snoc wr.drew _ _ 22 rfl rfl Try.underlying22 Try.info3 a L cc l rfl hSd HL.out (by omega) rfl ?_ ((Below.refl _ _).alloc (Nat.le_refl _) _) (lit_cell _ _ _); intro v4 w4 hown4 hg4; have hr4 := (HTD.out.kept hg4 (by simp)).range)
                  | (go_at_call 35; refine (HCALL.out hokv _ _ hown4 hg4).mono ?_; rintro e w5 ⟨rfl, hI5, hg5⟩; have hA5 := (HTD.out.kept hg4 (by simp)).kept hg5 (fun e => by have : w.heap.size = bx := Option.some.inj e; omega); have hr5 := hA5.range))
              have HZ := hid (And.intro hI5 (And.intro hA5 (And.intro ((hSd.grown0 hg4).grown hg5 HOFF.out) (grown_rr (grown_rn HX.out.2.2 (grown_nr (grown_drew wr) hg4)) hg5))))
              have HY5 := hid (HYES.out hokv)
              have HS5 := hid (HSTOP.out hokv)
              clear hI5 hA5 hr5 hr4 hr0 hr1 hown4 hg4 hg5 hSd HCALL
              cases b5 with
              | true =>
                have HFN := hid (HS5.out rfl)
                go_wp2
                go_ret
                rw [HFN.out]
                exact ⟨rfl, HZ.out.1, HZ.out.2.2.2⟩
              | false =>
                go_wp2
                go_roundw
                case rel => exact ⟨t + 1, s5, by go_num, by omega, HY5, hid HZ.out.1, HZ.out.2.1, HZ.out.2.2.1, HZ.out.2.2.2⟩
                case measure => simp [intOf] <;> omega
          · obtain ⟨a2, c2, hv2, hl2, hc2⟩ := HX.out.2.1.out
            simp only [Value.slice.injEq] at hv2
            obtain ⟨e1, hv3, e3⟩ := hv2
            subst e1
            subst e3
            clear hv3
            obtain ⟨b, off, rfl, hbl, hcl⟩ := hc2 (by rw [HL.out]; exact hL0)
            have hc := hcl (L - 1) (by rw [HL.out]; omega)
            have hxin := hin (l.getD (L - 1) 0) (by
              rw [List.getD_eq_getElem?_getD, List.getElem?_eq_getElem (by rw [HL.out]; omega)]
              exact List.getElem_mem _)
            obtain ⟨x, hx⟩ := Int.eq_ofNat_of_zero_le hxin.1
            rw [hx] at hc hok hxin
            rw [Int.toNat_natCast] at hok
            have hx9 : x < 9 := by omega
            have hcb := HX.out.1.cell (x * 9 + t)
            rw [boolS_get (by omega), ← hok] at hcb
            have hL1 : (L : Int) - 1 = ((L - 1 : Nat) : Int) := by omega
            have hLp : (0 : Int) < (L : Int) := by omega
            have ht9 : t < 9 := by omega
            have hLm : L - 1 < L := by omega
            have hlLe : L ≤ cc := by have := hl2.2; rw [HL.out] at this; exact this
            clear hcl hc2 hl2 hx hxin
            generalize L - 1 = Lm at *
            cases hokv : okB SB l t with
            | false =>
              rw [hokv] at hcb
              have HF2 : Hid (foldU step s (compT N SB f l (t + 1)) = (s', false)) := hid (by rw [compT_succ, hokv, if_neg (by decide), List.append_nil]; exact HF.out)
              clear hok hokv
              go_wp2
              go_roundw
              case rel => exact ⟨t + 1, s', by go_num, by omega, HF2, HI, HX.out.1, HX.out.2.1, HX.out.2.2⟩
              case measure => simp [intOf] <;> omega
            | true =>
              rw [hokv] at hcb
              clear hok
              go_wp2
              have HTD : Hid (Arr wr.drew w.heap.size 51 (boolS 81 SB)) := hid HX.out.1
              have hr0 := HTD.out.range
              have hr1 := (HTD.out.alloc (.cells #[.int .i64 (t : Int)] 3)).range
              have i1 : (Try.prog.info? 51).map (·.size) = some (boolS 81 SB).length := by rw [boolS_len]; kernel_rfl
              have hun := Try.underlying51
              have hSd := HX.out.2.1.drew
              have h8 : (boolS 81 SB).length = 81 := boolS_len 81 SB
              go_wp2
              go_region_held_law (fun W => W.rangeAt w.heap.size 0 (boolS 81 SB)) (first | exact hr0 | exact hr1 | exact hr4 | exact hr5)
                (first
                  | (refine step_snoc wr.drew _ _ 22 rfl rfl Try.underlying22 Try.info3 (some ⟨b, off, none⟩) L cc l rfl hSd HL.out (by omega) rfl ?_ ((Below.refl _ _).alloc (Nat.le_refl _) _) (lit_cell _ _ _); intro v4 w4 hown4 hg4; have hr4 := (HTD.out.kept hg4 (by simp)).range)
                  | (go_at_call 35; refine (HCALL.out hokv _ _ hown4 hg4).mono ?_; rintro e w5 ⟨rfl, hI5, hg5⟩; have hA5 := (HTD.out.kept hg4 (by simp)).kept hg5 (fun e => by have : w.heap.size = bx := Option.some.inj e; omega); have hr5 := hA5.range))
              have HZ := hid (And.intro hI5 (And.intro hA5 (And.intro ((hSd.grown0 hg4).grown hg5 HOFF.out) (grown_rr (grown_rn HX.out.2.2 (grown_nr (grown_drew wr) hg4)) hg5))))
              have HY5 := hid (HYES.out hokv)
              have HS5 := hid (HSTOP.out hokv)
              clear hI5 hA5 hr5 hr4 hr0 hr1 hown4 hg4 hg5 hSd HCALL
              cases b5 with
              | true =>
                have HFN := hid (HS5.out rfl)
                go_wp2
                go_ret
                rw [HFN.out]
                exact ⟨rfl, HZ.out.1, HZ.out.2.2.2⟩
              | false =>
                go_wp2
                go_roundw
                case rel => exact ⟨t + 1, s5, by go_num, by omega, HY5, hid HZ.out.1, HZ.out.2.1, HZ.out.2.2.1, HZ.out.2.2.2⟩
                case measure => simp [intOf] <;> omega
      · obtain rfl : t = N := by omega
        have hlti : ¬ (t : Int) < (t : Int) := by omega
        have HFN : Hid (foldU step s (comp t SB (f + 1) l) = (s', false)) := hid (by rw [comp_succ]; exact HF.out)
        have HX := hid (And.intro HI.out hG)
        clear hT hS hG
        go_wp2
        go_ret
        rw [HFN.out]
        exact ⟨rfl, HX.out.1, HX.out.2⟩
end Go.Proofs.Ythbpdfkaacgpoaa
