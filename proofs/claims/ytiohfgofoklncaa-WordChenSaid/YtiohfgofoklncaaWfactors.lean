/-
  The walk over word.factors: Duval's walk. Condition: the slice can be read.
-/
import Derived.Test.YtiohfgofoklncaaSlib
import Derived.Test.YtiohfgofoklncaaDuval
import Derived.ScopeJumps
import Derived.WalkMore
namespace Go.Proofs.Ytiohfgofoklncaa
open Go.RowKit

theorem wp_scope_jumps2 {P : Program} {a : Act} {w : World} {Q : Exit → Act → World → Prop} {c rest : Code} (l : Nat) (J : Act → World → Prop) (μ : Act → World → Nat) (hf : findLabel c l = some (Code.skip.seq rest))
    (pass : ∀ a w, J a w → rest.wp P (Exit.jump l (fun a' w' => J a' w' ∧ μ a' w' < μ a w) Q) a w)
    (first : (∀ a w, J a w → rest.wp P (Exit.jump l J Q) a w) → c.wp P (Exit.jump l J Q) a w) : (Code.scope c).wp P Q a w :=
  wp_scope_jumps l J μ hf (first fun a w h => wp_mono (pass a w h) fun e a w h => by
    cases e with
    | goto l' => exact ⟨h.1, h.2.1⟩
    | _ => exact h) fun a w h => wp_seq (wp_skip (pass a w h))

def duvMeasure (n fr at' : Nat) : Nat := (n - fr) * (n + 2) + (n + 1 - at')
theorem duvMeasure_at {n fr at' : Nat} (h : at' < n + 1) : duvMeasure n fr (at' + 1) < duvMeasure n fr at' := by unfold duvMeasure; omega
theorem duvMeasure_fr {n fr at' fr' : Nat} (h : fr < fr') (h2 : fr' ≤ n) : duvMeasure n fr' (fr' + 1) < duvMeasure n fr at' := by
  unfold duvMeasure
  obtain ⟨d, hd⟩ : ∃ d, n - fr = (n - fr') + 1 + d := ⟨fr' - fr - 1, by omega⟩
  rw [hd, Nat.add_mul, Nat.succ_mul]
  omega

/-- What holds at each jump. -/
def facJ (l : List Int) (a : Option Addr) (N k : Nat) (w : World) (a' : Act) (wr : World) : Prop := ∃ (v : Value) (out : List Int) (fr at1 bk : Nat) (u7 u8 u9 u10 u11 u12 u13 u14 u15 u16 u17 u18 u19 u20 u21 u22 u23 u24 u25 u26 u27 u28 u29 u30 u31 u32 u33 u34 u35 u36 u37 u38 u39 u40 u41 u42 u43 u44 u45 u46 u47 u48 u49 u50 u51 u52 u53 u54 u55 u56 u57 : Value), a' = { tmps := #[.slice a N k, undef, .slice none 0 0, v, .int .i64 (fr : Nat), .int .i64 (at1 : Nat), .int .i64 (bk : Nat), u7, u8, u9, u10, u11, u12, u13, u14, u15, u16, u17, u18, u19, u20, u21, u22, u23, u24, u25, u26, u27, u28, u29, u30, u31, u32, u33, u34, u35, u36, u37, u38, u39, u40, u41, u42, u43, u44, u45, u46, u47, u48, u49, u50, u51, u52, u53, u54, u55, u56, u57], defers := [] } ∧ Lex.Duv l fr at1 bk out ∧ OI w.heap.size wr v out ∧ Below w.heap.size w wr

theorem facJ_mk {l : List Int} {a : Option Addr} {N k : Nat} {w wr : World} {v : Value} {out : List Int} {fr at1 bk : Nat} {u7 u8 u9 u10 u11 u12 u13 u14 u15 u16 u17 u18 u19 u20 u21 u22 u23 u24 u25 u26 u27 u28 u29 u30 u31 u32 u33 u34 u35 u36 u37 u38 u39 u40 u41 u42 u43 u44 u45 u46 u47 u48 u49 u50 u51 u52 u53 u54 u55 u56 u57 : Value} (h1 : Lex.Duv l fr at1 bk out) (h2 : OI w.heap.size wr v out) (h3 : Below w.heap.size w wr) :
    facJ l a N k w { tmps := #[.slice a N k, undef, .slice none 0 0, v, .int .i64 (fr : Nat), .int .i64 (at1 : Nat), .int .i64 (bk : Nat), u7, u8, u9, u10, u11, u12, u13, u14, u15, u16, u17, u18, u19, u20, u21, u22, u23, u24, u25, u26, u27, u28, u29, u30, u31, u32, u33, u34, u35, u36, u37, u38, u39, u40, u41, u42, u43, u44, u45, u46, u47, u48, u49, u50, u51, u52, u53, u54, u55, u56, u57], defers := [] } wr := ⟨v, out, fr, at1, bk, _, _, _, _, _, _, _, _, _, _, _, _, _, _, _, _, _, _, _, _, _, _, _, _, _, _, _, _, _, _, _, _, _, _, _, _, _, _, _, _, _, _, _, _, _, _, _, _, _, _, _, rfl, h1, h2, h3⟩

set_option maxHeartbeats 1000000 in
theorem factors_any (v : Value) (l : List Int) (w : World) (hl : Sl w v l) (hlen : l.length ≤ 4096) :
    Calls Try.prog 32 #[v] w fun e w' => (∃ u F, e = .returned u ∧ Lex.Made l F ∧ OI w.heap.size w' u (Lex.lens F)) ∧ Below w.heap.size w w' := by
  obtain ⟨a, k, N, rfl, hN, hl1, hl2⟩ := hl.open
  rw [hN.out] at hlen
  clear hl
  go_enter Try.func32, Try.ntmps32
  go_wp2
  refine wp_scope_jumps2 0 (facJ l a N k w) (fun a' _ => duvMeasure N (intOf (a'.tmps.getD 4 undef)).toNat (intOf (a'.tmps.getD 5 undef)).toNat) rfl ?_ ?_
  · rintro a' wr ⟨v, out, fr, at1, bk, u7, u8, u9, u10, u11, u12, u13, u14, u15, u16, u17, u18, u19, u20, u21, u22, u23, u24, u25, u26, u27, u28, u29, u30, u31, u32, u33, u34, u35, u36, u37, u38, u39, u40, u41, u42, u43, u44, u45, u46, u47, u48, u49, u50, u51, u52, u53, u54, u55, u56, u57, rfl, hD, hown, hb⟩
    have hB := hb.size
    have hle := Lex.duv_le hD
    rw [hN.out] at hle
    by_cases hfr : fr = N
    · subst hfr
      have HE := hid (Lex.duv_done (hN.out.symm ▸ hD))
      have hq : ((fr : Int) == (fr : Int)) = true := by simp
      go_wp2
      simp only [Exit.jump]
      go_ret
      obtain ⟨F, hF, rfl⟩ := HE.out
      exact ⟨⟨_, F, rfl, hF, hown⟩, hb⟩
    have hbd := Lex.duv_bounds hD (by rw [hN.out]; exact hfr)
    rw [hN.out] at hbd
    obtain ⟨g1, g2, g3, g4, g5⟩ := hbd
    have hq : ((fr : Int) == (N : Int)) = false := by simp; omega
    clear hle
    obtain ⟨b, off, rfl, hbl, hc⟩ := hl2 (by omega)
    have cb := (hb.cell (p := ⟨b, off + bk, none⟩) hbl).trans (hc bk (by omega))
    by_cases hat : at1 < N
    · have ca := (hb.cell (p := ⟨b, off + at1, none⟩) hbl).trans (hc at1 hat)
      clear hc hl2
      by_cases hlt : l[bk]?.getD 0 < l[at1]?.getD 0
      · have hlt2 : l[bk]?.getD 0 ≤ l[at1]?.getD 0 := by omega
        have HD := hid (Lex.duv_more hD (by rw [hN.out]; exact hat) hlt)
        clear hD
        go_wp2
        go_quiet (fail)
        go_wp2
        go_quiet (fail)
        go_wp2
        go_step3
        exact ⟨rfl, facJ_mk HD.out hown (below_drewN hb _), duvMeasure_at (by omega)⟩
      by_cases heq : l[bk]?.getD 0 = l[at1]?.getD 0
      · have hlt2 : l[bk]?.getD 0 ≤ l[at1]?.getD 0 := by omega
        have hlt3 : l[at1]?.getD 0 ≤ l[bk]?.getD 0 := by omega
        have HD := hid (Lex.duv_same hD (by rw [hN.out]; exact hat) heq)
        clear hD heq
        go_wp2
        go_quiet (fail)
        go_wp2
        go_quiet (fail)
        go_wp2
        go_step3
        exact ⟨rfl, facJ_mk HD.out hown (below_drewN hb _), duvMeasure_at (by omega)⟩
      · have hlt2 : l[at1]?.getD 0 < l[bk]?.getD 0 := by omega
        clear heq
        have HD := Lex.dra_start hD (by rw [hN.out]; exact hfr) (.inr hlt2)
        obtain ⟨n, hn⟩ : ∃ n, n = at1 - bk := ⟨_, rfl⟩
        rw [← hn] at HD
        have HD' := hid HD
        have hn2 : ((at1 : Int) - (bk : Int)) = (n : Int) := by omega
        have HN := hid hn2
        clear HD hn2 hn hD
        go_wp2
        go_quiet (fail)
        go_wp2
        rw [HN.out]
        go_loopw [3, 4] (fun v i w2 => ∃ (f2 : Nat) (o2 : List Int), i = .int .i64 f2 ∧ fr ≤ f2 ∧ Lex.Dra l n bk f2 o2 ∧ OI w.heap.size w2 v o2 ∧ Below w.heap.size w w2 ∧ (fr = f2 ∨ fr < f2)) (fun _ i _ => bk + 1 - (intOf i).toNat)
        case atStart => exact ⟨fr, out, rfl, Nat.le_refl _, HD'.out, hown, (below_drewN hb _), .inl rfl⟩
        case round =>
          obtain ⟨f2, o2, rfl, hf2, hDr, hown2, hb2, hff⟩ := hrel
          have hB2 := hb2.size
          have hdl := Lex.dra_le hDr
          rw [hN.out] at hdl
          obtain ⟨d1, d2, d3, d4, d5⟩ := hdl
          by_cases hcc : f2 ≤ bk
          · have HS := hid (Lex.dra_step hDr hcc)
            clear hDr hown hb
            go_wp2_with (at_builtin; refine wpList_appi wr _ _ 23 rfl rfl Try.underlying23 Try.info3 w.heap.size _ _ rfl hown2 rfl (by omega) hB2 ?_; intro g c w3 hown3 hg1 hg2 hg3)
            go_roundw
            case rel => exact ⟨f2 + n, _, by go_num, by omega, HS.out, hown3, hown2.grown hb2 hg1 hB2, .inr (by omega)⟩
            case measure => simp [intOf] <;> omega
          · have HS := hid (Lex.dra_end hDr (by omega))
            have hlt : fr < f2 := by omega
            clear hDr hown hb hff
            go_wp2
            go_step3
            exact ⟨rfl, facJ_mk HS.out hown2 hb2, duvMeasure_fr hlt d2⟩
    · clear hc hl2
      have hat2 : decide ((at1 : Int) < (N : Int)) = false := by simp; omega
      have HD := Lex.dra_start hD (by rw [hN.out]; exact hfr) (.inl (by rw [hN.out]; exact hat))
      obtain ⟨n, hn⟩ : ∃ n, n = at1 - bk := ⟨_, rfl⟩
      rw [← hn] at HD
      have HD' := hid HD
      have hn2 : ((at1 : Int) - (bk : Int)) = (n : Int) := by omega
      have HN := hid hn2
      clear HD hn2 hn hD
      go_wp2
      go_quiet (fail)
      go_wp2
      rw [HN.out]
      go_loopw [3, 4] (fun v i w2 => ∃ (f2 : Nat) (o2 : List Int), i = .int .i64 f2 ∧ fr ≤ f2 ∧ Lex.Dra l n bk f2 o2 ∧ OI w.heap.size w2 v o2 ∧ Below w.heap.size w w2 ∧ (fr = f2 ∨ fr < f2)) (fun _ i _ => bk + 1 - (intOf i).toNat)
      case atStart => exact ⟨fr, out, rfl, Nat.le_refl _, HD'.out, hown, (below_drewN hb _), .inl rfl⟩
      case round =>
        obtain ⟨f2, o2, rfl, hf2, hDr, hown2, hb2, hff⟩ := hrel
        have hB2 := hb2.size
        have hdl := Lex.dra_le hDr
        rw [hN.out] at hdl
        obtain ⟨d1, d2, d3, d4, d5⟩ := hdl
        by_cases hcc : f2 ≤ bk
        · have HS := hid (Lex.dra_step hDr hcc)
          clear hDr hown hb
          go_wp2_with (at_builtin; refine wpList_appi wr _ _ 23 rfl rfl Try.underlying23 Try.info3 w.heap.size _ _ rfl hown2 rfl (by omega) hB2 ?_; intro g c w3 hown3 hg1 hg2 hg3)
          go_roundw
          case rel => exact ⟨f2 + n, _, by go_num, by omega, HS.out, hown3, hown2.grown hb2 hg1 hB2, .inr (by omega)⟩
          case measure => simp [intOf] <;> omega
        · have HS := hid (Lex.dra_end hDr (by omega))
          have hlt : fr < f2 := by omega
          clear hDr hown hb hff
          go_wp2
          go_step3
          exact ⟨rfl, facJ_mk HS.out hown2 hb2, duvMeasure_fr hlt d2⟩
  · intro H
    have H' := hid H
    clear H
    go_wp2
    go_step3
    rename_i hK
    exact hK _ _ (H'.out _ _ (facJ_mk (Lex.duv_start l) (OI.nil _ _) (Below.refl _ _)))
end Go.Proofs.Ytiohfgofoklncaa
