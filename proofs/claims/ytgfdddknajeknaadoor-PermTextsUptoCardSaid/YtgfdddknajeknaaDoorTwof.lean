/-
  The walk over the loop of parterreref1.PermOfText. Conditions: a text of at most 1,000,000,000 letters.
-/
import Derived.Test.YtgfdddknajeknaaDoorTwprs
import Derived.Test.YtgfdddknajeknaaDoorTwtxt
import Derived.Test.YtgfdddknajeknaaDoorDPinv
import Derived.Deep.LoopGhost
import Derived.Deep.CutBlock
import Derived.Deep.DeepCutAuto
namespace Go.Proofs.YtgfdddknajeknaaDoor
set_option linter.unusedVariables false
open Go.RowKit

/-- What a permutation's text is read to. -/
def TEnd (n : Int) (T : List UInt8) (w : World) (e : Ending) (w' : World) : Prop :=
  ((∃ (u : Value) (E : Int), e = .returned (.tuple #[u, .int .i64 E]) ∧ (((n < 0 ∨ 12 < n) ∧ u = .slice none 0 0 ∧ E = 1) ∨ (∃ (N : Nat) (f : Nat → Nat), n = (N : Int) ∧ N ≤ 12 ∧ Pm N f ∧ T = wrT f N ∧ OI w.heap.size w' u (intsL ((List.range N).map f)) ∧ E = 0) ∨ (∃ N : Nat, n = (N : Int) ∧ N ≤ 12 ∧ (¬ ∃ f, Pm N f ∧ T = wrT f N) ∧ u = .slice none 0 0 ∧ E = 5)))) ∧ Below w.heap.size w w'

theorem drop_cons {T : List UInt8} {i : Nat} (h : i < T.length) : T.drop i = T.getD i 0 :: T.drop (i + 1) := by
  rw [List.drop_eq_getElem_cons h]
  simp [h]
theorem dgs_digit {k x : Nat} {T : List UInt8} {i : Nat} (h : i < T.length) (h1 : 48 ≤ (T.getD i 0).toNat) (h2 : (T.getD i 0).toNat ≤ 57) : dgs (k + 1) x (T.drop i) = dgs k (x * 10 + ((T.getD i 0).toNat - 48)) (T.drop (i + 1)) := by
  rw [drop_cons h]
  show (if _ then _ else _) = _
  rw [if_pos ⟨h1, h2⟩]
theorem dgs_off {k x : Nat} {T : List UInt8} {i : Nat} (h : i < T.length) (h1 : ¬ (48 ≤ (T.getD i 0).toNat ∧ (T.getD i 0).toNat ≤ 57)) : dgs (k + 1) x (T.drop i) = (x, T.drop i) := by
  rw [drop_cons h]
  show (if _ then _ else _) = _
  rw [if_neg h1]
theorem dgs_end {k x : Nat} {T : List UInt8} {i : Nat} (h : i = T.length) : dgs k x (T.drop i) = (x, T.drop i) := by
  rw [List.drop_of_length_le (by omega)]
  cases k <;> rfl
theorem dgs_zero {x : Nat} {T : List UInt8} : dgs 0 x T = (x, T) := rfl
/-- What numS says, once the digits from i to j are read. -/
theorem numS_none1 {n x i j : Nat} {T : List UInt8} (hi : i ≤ T.length) (hj : j ≤ T.length) (h : dgs 3 0 (T.drop i) = (x, T.drop j)) (h1 : j = i ∨ n ≤ x) : numS n (T.drop i) = none := by
  unfold numS
  rw [h]
  simp only
  rw [if_pos (by
    rcases h1 with rfl | h1
    · exact .inl rfl
    · exact .inr h1)]
theorem numS_none2 {n x i j : Nat} {T : List UInt8} (h : dgs 3 0 (T.drop i) = (x, T.drop j)) (h1 : j = T.length) : numS n (T.drop i) = none := by
  unfold numS
  rw [h]
  simp only
  split
  · rfl
  · rw [List.drop_of_length_le (by omega)]
theorem numS_at {n x i j : Nat} {T : List UInt8} (hi : i ≤ j) (hj : j < T.length) (h : dgs 3 0 (T.drop i) = (x, T.drop j)) (h1 : ¬ j = i) (h2 : ¬ n ≤ x) : numS n (T.drop i) = if T.getD j 0 = 41 then some (x, true, T.drop (j + 1)) else if T.getD j 0 = 32 then some (x, false, T.drop (j + 1)) else none := by
  unfold numS
  rw [h]
  simp only
  rw [if_neg (by
    rintro (e | e)
    · rw [List.length_drop, List.length_drop] at e; omega
    · exact h2 e), drop_cons hj]
theorem TEnd.far {n : Int} {T : List UInt8} {w w' : World} (h : n < 0 ∨ 12 < n) (hb : Below w.heap.size w w') : TEnd n T w (.returned (.tuple #[.slice none 0 0, .int .i64 1])) w' := ⟨⟨_, _, rfl, .inl ⟨h, rfl, rfl⟩⟩, hb⟩
theorem TEnd.no {N : Nat} {T : List UInt8} {w w' : World} (hn : N ≤ 12) (h : ¬ ∃ f, Pm N f ∧ T = wrT f N) (hb : Below w.heap.size w w') : TEnd (N : Int) T w (.returned (.tuple #[.slice none 0 0, .int .i64 5])) w' := ⟨⟨_, _, rfl, .inr (.inr ⟨N, rfl, hn, h, rfl, rfl⟩)⟩, hb⟩
theorem TEnd.yes {N : Nat} {T : List UInt8} {w w' : World} {f : Nat → Nat} {u : Value} (hn : N ≤ 12) (P : Pm N f) (h : T = wrT f N) (ho : OI w.heap.size w' u (intsL ((List.range N).map f))) (hb : Below w.heap.size w w') : TEnd (N : Int) T w (.returned (.tuple #[u, .int .i64 0])) w' := ⟨⟨_, _, rfl, .inr (.inl ⟨N, f, rfl, hn, P, h, ho, rfl⟩)⟩, hb⟩
/-- What is read to nothing was never written. -/
theorem no_wr {st : List Nat → List UInt8 → Option (List Nat × List UInt8) → Prop} {N : Nat} {T : List UInt8} (hn : N ≤ 12) (hst : ∀ (out c : List Nat) (R : List UInt8), (∀ x ∈ c, x < N ∧ out.getD x 0 = x) → out.length = N → c.Nodup → c ≠ [] → st out (cycT c ++ R) (some (asg c c.length out, R))) (hd : ∀ o T a b, st o T a → st o T b → a = b) (h : PRT st N T none) : ¬ ∃ f, Pm N f ∧ T = wrT f N := by
  rintro ⟨f, P, rfl⟩
  cases PRT.uniq hd h (PRT_wr P hn hst)
theorem wr_list {st : List Nat → List UInt8 → Option (List Nat × List UInt8) → Prop} {N : Nat} {T : List UInt8} (hn : N ≤ 12) (hst : ∀ (out c : List Nat) (R : List UInt8), (∀ x ∈ c, x < N ∧ out.getD x 0 = x) → out.length = N → c.Nodup → c ≠ [] → st out (cycT c ++ R) (some (asg c c.length out, R))) (hd : ∀ o T a b, st o T a → st o T b → a = b) {l : List Nat} (h : PRT st N T (some l)) {f : Nat → Nat} (P : Pm N f) (hT : T = wrT f N) : l = (List.range N).map f := by
  subst hT
  exact Option.some.inj (PRT.uniq hd h (PRT_wr P hn hst))
theorem map_getI {N c : Nat} (f : Nat → Nat) (h : c < N) : (intsL ((List.range N).map f))[c]?.getD 0 = (f c : Int) := by
  unfold intsL
  simp [h]
theorem map_pmL {N : Nat} {f : Nat → Nat} (hn : N ≤ 12) (P : Pm N f) : PmL (intsL ((List.range N).map f)) N f := ⟨by simp [intsL], hn, P, fun c hc => map_getI f hc⟩
theorem map_permE {N : Nat} {f : Nat → Nat} (hn : N ≤ 12) (P : Pm N f) : permE (intsL ((List.range N).map f)) = 0 := by
  have hl : (intsL ((List.range N).map f)).length = N := by simp [intsL]
  have hd : (intsL ((List.range N).map f)).Nodup := by
    unfold intsL List.Nodup
    rw [List.map_map, List.pairwise_map]
    refine List.Pairwise.imp_of_mem (fun {a b} ha hb hab => ?_) List.nodup_range
    have h1 := List.mem_range.1 ha
    have h2 := List.mem_range.1 hb
    intro e
    simp only [Function.comp] at e
    exact hab (P.inj a b h1 h2 (by omega))
  unfold permE
  rw [hl, if_neg (by omega), if_neg (by
    intro h
    obtain ⟨x, hx, h⟩ := List.any_eq_true.1 h
    unfold intsL at hx
    rw [List.map_map] at hx
    obtain ⟨i, hi, rfl⟩ := List.mem_map.1 hx
    have h1 := P.lt i (List.mem_range.1 hi)
    have h2 : offN N ((f i : Nat) : Int) = false := offN_false.2 ⟨by omega, by omega⟩
    have h3 : offN N ((f i : Nat) : Int) = true := h
    rw [h2] at h3
    cases h3), if_pos hd]
theorem list_of_pmL {N : Nat} {f : Nat → Nat} {l : List Nat} (hl : l.length = N) (P : PmL (intsL l) N f) : l = (List.range N).map f := by
  refine List.ext_getElem (by simp [hl]) fun i h1 h2 => ?_
  have h3 := P.at' i (by omega)
  unfold intsL at h3
  rw [List.getElem?_map, List.getElem?_eq_getElem h1] at h3
  simp only [Option.map_some, Option.getD_some] at h3
  simp only [List.getElem_map, List.getElem_range]
  omega
/-- What the two readers' lists come to: the last step of both. -/
theorem TEnd.last {st : List Nat → List UInt8 → Option (List Nat × List UInt8) → Prop} {N : Nat} {T : List UInt8} (hn : N ≤ 12) (hst : ∀ (out c : List Nat) (R : List UInt8), (∀ x ∈ c, x < N ∧ out.getD x 0 = x) → out.length = N → c.Nodup → c ≠ [] → st out (cycT c ++ R) (some (asg c c.length out, R))) (hd : ∀ o T a b, st o T a → st o T b → a = b) {l : List Nat} (hl : l.length = N) (h : PRT st N T (some l)) :
    (permE (intsL l) ≠ 0 ∧ T ≠ [] ∧ ¬ ∃ f, Pm N f ∧ T = wrT f N) ∨ (permE (intsL l) = 0 ∧ ∃ f, PmL (intsL l) N f ∧ Pm N f ∧ l = (List.range N).map f ∧ ((T = wrT f N) ∨ (T ≠ wrT f N ∧ ¬ ∃ f, Pm N f ∧ T = wrT f N))) := by
  by_cases hE : permE (intsL l) = 0
  · right
    refine ⟨hE, ?_⟩
    by_cases hw : ∃ f, Pm N f ∧ T = wrT f N
    · obtain ⟨f, P, hT⟩ := hw
      have e := wr_list hn hst hd h P hT
      refine ⟨f, ?_, P, e, .inl hT⟩
      rw [e]
      exact map_pmL hn P
    · have P := pm_of hE
      rw [intsL_len, hl] at P
      exact ⟨_, P, P.pm, list_of_pmL hl P, .inr ⟨fun e => hw ⟨_, P.pm, e⟩, hw⟩⟩
  · left
    refine ⟨hE, fun e => ?_, fun ⟨f, P, hT⟩ => ?_⟩
    · subst e
      unfold PRT at h
      rw [if_neg (by decide)] at h
      have h2 := h.uniq hd (PR.done _)
      have e : l = (List.range N).map id := by rw [List.map_id]; exact Option.some.inj h2
      apply hE
      rw [e]
      exact map_permE hn ⟨fun i hi => hi, fun i j _ _ e => e⟩
    · apply hE
      rw [wr_list hn hst hd h P hT]
      exact map_permE hn P
theorem stP_cyc {N : Nat} (hn : N ≤ 12) : ∀ (out c : List Nat) (R : List UInt8), (∀ x ∈ c, x < N ∧ out.getD x 0 = x) → out.length = N → c.Nodup → c ≠ [] → stP N out (cycT c ++ R) (some (asg c c.length out, R)) := fun out c R h _ hd hne => stepP_cyc hn h hd hne
theorem stP_uniq {N : Nat} : ∀ o T a b, stP N o T a → stP N o T b → a = b := fun o T a b h1 h2 => by rw [← h1, ← h2]
theorem stR_cyc {N : Nat} (hn : N ≤ 12) : ∀ (out c : List Nat) (R : List UInt8), (∀ x ∈ c, x < N ∧ out.getD x 0 = x) → out.length = N → c.Nodup → c ≠ [] → stepR N out (cycT c ++ R) (some (asg c c.length out, R)) := fun out c R h _ hd hne => stepR_cyc hn (fun x hx => (h x hx).1) hne
theorem oftext_far (T : List UInt8) (n : Int) (w : World) (h : n < 0 ∨ 12 < n) :
    Calls Tryd.prog 9 #[.string (str T), .int .i64 n] w (TEnd n T w) := by
  have HG := hid (TEnd.far (T := T) h (Below.refl w.heap.size w))
  generalize TEnd n T w = G at *
  go_enter Tryd.func9, Tryd.ntmps9
  rcases h with h | h
  · go_wp2
    exact HG.out
  · have h0 : ¬ n < 0 := by omega
    go_wp2
    exact HG.out
theorem str_idx (T : List UInt8) (i : Nat) (h : i < (str T).size) : (str T)[i]'h = T.getD i 0 := by
  have h2 : i < T.length := by rw [← str_size]; exact h
  have h3 : (str T)[i]'h = T[i] := rfl
  rw [h3, List.getD_eq_getElem?_getD, List.getElem?_eq_getElem h2]
  rfl
theorem u8_ne {b : UInt8} {c : Nat} (hc : c < 256) : (b.toNat : Int) = (c : Int) ↔ b = UInt8.ofNat c := by
  constructor
  · intro h
    apply UInt8.toNat_inj.1
    have : b.toNat = c := by omega
    rw [this]
    simp
    omega
  · rintro rfl
    simp
    omega
theorem RN_bad {N a2 : Nat} {T : List UInt8} {l : List Nat} (h : numS N (T.drop a2) = none) : RN N (T.drop a2) l none := .bad h
theorem still_range (n : Nat) : stillL n = intsL (List.range n) := rfl
theorem head_drop {T : List UInt8} {i : Nat} (h : i < T.length) : (T.drop i).head? = some (T.getD i 0) := by rw [drop_cons h]; rfl

set_option maxHeartbeats 8000000 in
set_option maxRecDepth 100000 in
theorem oftext_any (T : List UInt8) (N : Nat) (hN : N ≤ 12) (w : World) (hs : T.length ≤ 1000000000) :
    Calls Tryd.prog 9 #[.string (str T), .int .i64 N] w (TEnd (N : Int) T w) := by
  have HST := hid (still_ok N w (by omega))
  rw [still_range] at HST
  have HNO := hid (fun w' (h : PRT (stepR N) N T none) (hb : Below w.heap.size w w') => TEnd.no hN (no_wr hN (stR_cyc hN) stepR.uniq h) hb)
  have HLA := hid (fun l (hl : l.length = N) (h : PRT (stepR N) N T (some l)) => TEnd.last hN (stR_cyc hN) stepR.uniq hl h)
  have HN2 := hid (fun w' (h : ¬ ∃ f, Pm N f ∧ T = wrT f N) (hb : Below w.heap.size w w') => TEnd.no hN h hb)
  have HY := hid (fun w' f u (P : Pm N f) (h : T = wrT f N) ho hb => TEnd.yes (w := w) (w' := w') (u := u) hN P h ho hb)
  have HP0 : Hid (T = [40, 41] → ∀ r, r = some (List.range N) → PRT (stepR N) N T r) := hid (fun h r hr => by unfold PRT; rw [if_pos h]; exact hr)
  have HP1 : Hid (¬ T = [40, 41] → ∀ r, PR (stepR N) T (List.range N) r → PRT (stepR N) N T r) := hid (fun h r hr => by unfold PRT; rw [if_neg h]; exact hr)
  have HFA := hid (fun (v : Value) (l : List Int) (w1 : World) (hl : Sl w1 v l) => permfault_any v l w1 hl)
  have HPT := hid (fun (v : Value) (l : List Int) (f : Nat → Nat) (w1 : World) (hl : Sl w1 v l) (P : PmL l N f) => permtext_ok v l N f w1 hl P)
  have HIX := hid (str_idx T)
  have hsz := str_size T
  have HBY : Hid (∀ i, i < T.length → (str T).data.toList.getD i 0 = T.getD i 0) := hid (fun i h => rfl)
  generalize TEnd (N : Int) T w = G at *
  go_enter Tryd.func9, Tryd.ntmps9
  go_wp2_with fail
  refine HST.out.mono ?_
  rintro e w1 ⟨⟨u6, rfl, hu6⟩, hb1⟩
  have HU := hid (And.intro hu6 hb1)
  clear hu6 hb1 HST
  go_wp2_with fail
  go_loopw [7, 8, 9, 10, 11] (fun av _ _ _ _ wr => ∃ (at' : Nat) (L : List Nat), av = .int .i64 at' ∧ at' ≤ T.length ∧ L.length = N ∧ Hid (∀ r, PR (stepR N) (T.drop at') L r → PR (stepR N) T (List.range N) r) ∧ Hid (T = [40, 41] → L = List.range N) ∧ OI w.heap.size wr u6 (intsL L) ∧ Below w.heap.size w wr) (fun av _ _ _ _ _ => T.length - (intOf av).toNat)
  case atStart => exact ⟨0, List.range N, rfl, Nat.zero_le _, List.length_range, hid (fun r h => h), hid (fun _ => rfl), HU.out.1, HU.out.2⟩
  case round =>
    obtain ⟨at', L, rfl, hat, hLl, HPR, HEQ, ho, hb⟩ := hrel
    have HO := hid (And.intro ho hb)
    clear ho hb
    by_cases hstop : at' = T.length ∨ T = [40, 41]
    · have HPRT : Hid (PRT (stepR N) N T (some L)) := hid (by
        by_cases h2 : T = [40, 41]
        · exact HP0.out h2 _ (by rw [HEQ.out h2])
        · obtain rfl := hstop.resolve_right h2
          refine HP1.out h2 _ (HPR.out _ ?_)
          rw [List.drop_of_length_le (Nat.le_refl _)]
          exact .done L)
      have HCS := hid (HLA.out L hLl HPRT.out)
      have HF2 := hid (HFA.out u6 (intsL L) wr (HO.out.1.sl (by rw [intsL_len]; omega)))
      have hway : (at' = T.length) ∨ (at' < T.length ∧ T = [40, 41]) := by
        by_cases h : at' = T.length
        · exact .inl h
        · exact .inr ⟨by omega, hstop.resolve_left h⟩
      clear hstop HPR HEQ HLA HPRT
      rcases hway with hw | ⟨hw, hw2⟩
      · have hati : ¬ (at' : Int) < (T.length : Int) := by omega
        clear hw
        go_wp2_with fail
        refine HF2.out.mono ?_
        rintro e wf ⟨rfl, q, rfl⟩
        have HO2 := hid (And.intro (HO.out.1.drewN q) (below_drewN HO.out.2 q))
        rcases HCS.out with ⟨hE, _, hno⟩ | ⟨hE, f, hPm, hP, hLf, hT⟩
        · have HZ := hid (HN2.out _ hno HO2.out.2)
          have hEb : (permE (intsL L) != 0) = true := bne_iff_ne.2 hE
          clear hno HCS HF2 HO hE
          generalize permE (intsL L) = E at *
          go_wp2
          exact HZ.out
        · have HT2 := hid (HPT.out u6 (intsL L) f (wr.drewN q) (HO2.out.1.sl (by rw [intsL_len]; omega)) hPm)
          have HLf := hid hLf
          rw [hE]
          clear HCS HF2 HO hE hPm hLf
          go_wp2_with fail
          refine HT2.out.mono ?_
          rintro e wg ⟨rfl, hbg⟩
          have HO3 := hid (And.intro (HO2.out.1.below hbg) (HO2.out.2.trans (hbg.mono HO2.out.2.size)))
          clear hbg HT2
          rcases hT with hT | ⟨hT, hno⟩
          · have HZ := hid (HY.out wg f u6 hP hT (by rw [← HLf.out]; exact HO3.out.1) HO3.out.2)
            have hq : ((str (wrT f N)).toList == (str T).toList) = true := by rw [← hT]; simp
            rw [← hT] at hq ⊢
            clear hT HO3
            go_wp2
            exact HZ.out
          · have HZ := hid (HN2.out _ hno HO3.out.2)
            have hq : ((str (wrT f N)).toList == (str T).toList) = false := by
              rw [Lib.toList_data, Lib.toList_data, str_data, str_data, beq_eq_false_iff_ne]
              exact fun e => hT e.symm
            have hq2 : ¬ str (wrT f N) = str T := fun e => hT (str_inj.1 e).symm
            generalize wrT f N = X at *
            clear hT hno HO3
            go_wp2
            exact HZ.out
      · have hati : (at' : Int) < (T.length : Int) := by omega
        have hq3 : ((str T).toList == [40, 41]) = true := by rw [hw2, Lib.toList_data]; rfl
        clear hw hw2
        go_wp2_with fail
        refine HF2.out.mono ?_
        rintro e wf ⟨rfl, q, rfl⟩
        have HO2 := hid (And.intro (HO.out.1.drewN q) (below_drewN HO.out.2 q))
        rcases HCS.out with ⟨hE, _, hno⟩ | ⟨hE, f, hPm, hP, hLf, hT⟩
        · have HZ := hid (HN2.out _ hno HO2.out.2)
          have hEb : (permE (intsL L) != 0) = true := bne_iff_ne.2 hE
          clear hno HCS HF2 HO hE
          generalize permE (intsL L) = E at *
          go_wp2
          exact HZ.out
        · have HT2 := hid (HPT.out u6 (intsL L) f (wr.drewN q) (HO2.out.1.sl (by rw [intsL_len]; omega)) hPm)
          have HLf := hid hLf
          rw [hE]
          clear HCS HF2 HO hE hPm hLf
          go_wp2_with fail
          refine HT2.out.mono ?_
          rintro e wg ⟨rfl, hbg⟩
          have HO3 := hid (And.intro (HO2.out.1.below hbg) (HO2.out.2.trans (hbg.mono HO2.out.2.size)))
          clear hbg HT2
          rcases hT with hT | ⟨hT, hno⟩
          · have HZ := hid (HY.out wg f u6 hP hT (by rw [← HLf.out]; exact HO3.out.1) HO3.out.2)
            have hq : ((str (wrT f N)).toList == (str T).toList) = true := by rw [← hT]; simp
            rw [← hT] at hq ⊢
            clear hT HO3
            go_wp2
            exact HZ.out
          · have HZ := hid (HN2.out _ hno HO3.out.2)
            have hq : ((str (wrT f N)).toList == (str T).toList) = false := by
              rw [Lib.toList_data, Lib.toList_data, str_data, str_data, beq_eq_false_iff_ne]
              exact fun e => hT e.symm
            have hq2 : ¬ str (wrT f N) = str T := fun e => hT (str_inj.1 e).symm
            generalize wrT f N = X at *
            clear hT hno HO3
            go_wp2
            exact HZ.out
    · have hat2 : at' < T.length := by omega
      have hT2 : ¬ T = [40, 41] := fun h => hstop (.inr h)
      have hati : (at' : Int) < (T.length : Int) := by omega
      have hq3 : ((str T).toList == [40, 41]) = false := by rw [Lib.toList_data, str_data, beq_eq_false_iff_ne]; exact hT2
      have HBAD := hid (fun w' (h : PR (stepR N) (T.drop at') L none) (hb : Below w.heap.size w w') => HNO.out w' (HP1.out hT2 _ (HPR.out _ h)) hb)
      have HPR2 := hid (fun L' R (h : PR (stepR N) R L' none) => h)
      have hne : T.drop at' ≠ [] := by rw [drop_cons hat2]; simp
      have hbyt := HIX.out at' (by rw [hsz]; exact hat2)
      have HHD := hid (drop_cons hat2)
      have HTD := hid hT2
      clear hstop HEQ HLA hT2
      generalize T.getD at' 0 = b at *
      by_cases hb40 : b = 40
      · have hb4 : (b.toNat : Int) = 40 := by rw [hb40]; rfl
        have hb4b : ((b.toNat : Int) == 40) = true := by rw [hb4]; rfl
        have HHD2 : Hid (T.drop at' = 40 :: T.drop (at' + 1)) := hid (by rw [HHD.out, hb40])
        have HBAD2 := hid (fun w' (h : RN N (T.drop (at' + 1)) [] none) (hb : Below w.heap.size w w') => HBAD.out w' (.bad hne (by rw [HHD2.out]; exact .bad h)) hb)
        have HGO := hid (fun l R r (h : RN N (T.drop (at' + 1)) [] (some (l, R))) (h2 : PR (stepR N) R (asg l l.length L) r) => HPR.out r (.go hne (by rw [HHD2.out]; exact .ok h) h2))
        clear HBAD HHD HHD2 hb40
        obtain ⟨W1, hW1⟩ : ∃ W1, W1 = wr := ⟨_, rfl⟩
        subst hW1
        go_wp2_with fail
        have hW1 := HO.out.2.size
        go_loopw [7, 8, 9, 10] (fun av cv _ _ wr => ∃ (a2 : Nat) (l : List Nat), av = .int .i64 a2 ∧ at' < a2 ∧ a2 ≤ T.length ∧ OI W1.heap.size wr cv (intsL l) ∧ Hid (∀ r, RN N (T.drop a2) l r → RN N (T.drop (at' + 1)) [] r) ∧ l.length ≤ a2 ∧ Hid (∀ x ∈ l, x < N) ∧ Below W1.heap.size W1 wr) (fun av _ _ _ _ => T.length - (intOf av).toNat)
        case atStart => exact ⟨at' + 1, [], by go_num, by omega, by omega, OI.nil _ _, hid (fun r h => h), Nat.zero_le _, hid (fun x h => by cases h), Below.refl _ _⟩
        case round =>
          obtain ⟨a2, l, rfl, ha2, ha2l, hl, HRN, hll, HIN, hb⟩ := hrel
          have HX := hid (And.intro hl hb)
          have hlsz := hb.size
          clear hl hb
          go_upto_block 4 with fail
          go_cut [7, 9] from 37 to 68 (fun v7 v9 wc => ∃ a3 x : Nat, v7 = .int .i64 a3 ∧ v9 = .int .i64 x ∧ a2 ≤ a3 ∧ a3 ≤ T.length ∧ x < 1000 ∧ Hid (dgs 3 0 (T.drop a2) = (x, T.drop a3)) ∧ wc = wr)
          case first =>
            go_wp2_with fail
            obtain ⟨W2, hW2⟩ : ∃ W2, W2 = wr := ⟨_, rfl⟩
            subst hW2
            go_loopw [7, 9] (fun v7 v9 wq => ∃ a3 x k : Nat, v7 = .int .i64 a3 ∧ v9 = .int .i64 x ∧ Hid (a3 = a2 + k) ∧ a3 ≤ T.length ∧ k ≤ 3 ∧ x + 1 ≤ 10 ^ k ∧ Hid (dgs 3 0 (T.drop a2) = dgs (3 - k) x (T.drop a3)) ∧ wq = W2) (fun v7 _ _ => T.length - (intOf v7).toNat)
            case atStart => exact ⟨a2, 0, 0, rfl, rfl, hid rfl, ha2l, by omega, by decide, hid rfl, rfl⟩
            case round =>
              obtain ⟨a3, x, k, rfl, rfl, hk3, h3l, hk, hx, HD, rfl⟩ := hrel
              have ha23 : a2 ≤ a3 := by have := hk3.out; omega
              have hx3 : x < 1000 := by
                have h1 : (10 : Nat) ^ k ≤ 10 ^ 3 := Nat.pow_le_pow_right (by omega) hk
                have h2 : (10 : Nat) ^ 3 = 1000 := by decide
                omega
              by_cases hend : a3 = T.length
              · have hei : ¬ (a3 : Int) < (T.length : Int) := by omega
                have HDE := hid (HD.out.trans (dgs_end (k := 3 - k) (x := x) hend))
                clear hend HD
                go_wp2_with fail
                go_meet
                case rel => exact ⟨a3, x, rfl, rfl, ha23, h3l, hx3, HDE, rfl⟩
              · have hlt : a3 < T.length := by omega
                have hei : (a3 : Int) < (T.length : Int) := by omega
                have hby := HIX.out a3 (by rw [hsz]; exact hlt)
                have hdg := hid (fun j => dgs_digit (k := j) (x := x) hlt)
                have hof := hid (fun j => dgs_off (k := j) (x := x) hlt)
                generalize T.getD a3 0 = b3 at *
                have hb255 : b3.toNat < 256 := UInt8.toNat_lt b3
                have hkl : Hid ((a3 : Int) < (a2 : Int) + 3 ↔ k < 3) := hid (by have := hk3.out; omega)
                by_cases h48 : 48 ≤ b3.toNat
                · have h48i : (48 : Int) ≤ (b3.toNat : Int) := by omega
                  by_cases h57 : b3.toNat ≤ 57
                  · have h57i : (b3.toNat : Int) ≤ (57 : Int) := by omega
                    by_cases hk2 : k < 3
                    · have hki := hkl.out.2 hk2
                      have HD2 : Hid (dgs 3 0 (T.drop a2) = dgs (3 - (k + 1)) (x * 10 + (b3.toNat - 48)) (T.drop (a3 + 1))) := hid (by
                        rw [HD.out, show 3 - k = (3 - (k + 1)) + 1 by omega]
                        exact hdg.out _ h48 h57)
                      have hx4 : x * 10 + (b3.toNat - 48) + 1 ≤ 10 ^ (k + 1) := by rw [Nat.pow_succ]; omega
                      have hsb : (b3.toNat : Int) - 48 = ((b3.toNat - 48 : Nat) : Int) := by omega
                      clear hdg hof HD hkl
                      go_wp2_with fail
                      go_roundw
                      case rel => exact ⟨a3 + 1, _, k + 1, by go_num, by go_num, hid (by have := hk3.out; omega), by omega, by omega, hx4, HD2, by first | rfl | trivial⟩
                      case measure => simp [intOf] <;> omega
                    · have hki : ¬ (a3 : Int) < (a2 : Int) + 3 := fun h => hk2 (hkl.out.1 h)
                      have HDE : Hid (dgs 3 0 (T.drop a2) = (x, T.drop a3)) := hid (by rw [HD.out, show 3 - k = 0 by omega]; rfl)
                      clear hdg hof HD hkl
                      go_wp2_with fail
                      go_meet
                      case rel => exact ⟨a3, x, rfl, rfl, ha23, h3l, hx3, HDE, rfl⟩
                  · have h57i : ¬ (b3.toNat : Int) ≤ (57 : Int) := by omega
                    have HDE : Hid (dgs 3 0 (T.drop a2) = (x, T.drop a3)) := hid (by
                      rw [HD.out]
                      rcases Nat.eq_zero_or_pos (3 - k) with e | e
                      · rw [e]; rfl
                      · rw [show 3 - k = (3 - k - 1) + 1 by omega]
                        exact hof.out _ (by omega))
                    clear hdg hof HD hkl
                    go_wp2_with fail
                    go_meet
                    case rel => exact ⟨a3, x, rfl, rfl, ha23, h3l, hx3, HDE, rfl⟩
                · have h48i : ¬ (48 : Int) ≤ (b3.toNat : Int) := by omega
                  have HDE : Hid (dgs 3 0 (T.drop a2) = (x, T.drop a3)) := hid (by
                    rw [HD.out]
                    rcases Nat.eq_zero_or_pos (3 - k) with e | e
                    · rw [e]; rfl
                    · rw [show 3 - k = (3 - k - 1) + 1 by omega]
                      exact hof.out _ (by omega))
                  clear hdg hof HD hkl
                  go_wp2_with fail
                  go_meet
                  case rel => exact ⟨a3, x, rfl, rfl, ha23, h3l, hx3, HDE, rfl⟩
          case rest =>
            obtain ⟨a3, x, rfl, rfl, h23, h3l, hx3, HD, hwc⟩ := hcut
            subst hwc
            have HB1 := hid (HO.out.2.trans (HX.out.2.mono hW1))
            have HBD := hid (fun w' (h : numS N (T.drop a2) = none) hb => HBAD2.out w' (HRN.out none (.bad h)) hb)
            by_cases h1 : a3 = a2
            · have HZ := hid (HBD.out _ (numS_none1 ha2l h3l HD.out (.inl h1)) HB1.out)
              have h1i : (a3 : Int) = (a2 : Int) := by omega
              have h1b : ((a3 : Int) == (a2 : Int)) = true := beq_iff_eq.2 h1i
              subst h1
              clear h1i
              go_wp2
              exact HZ.out
            · have h1b : ((a3 : Int) == (a2 : Int)) = false := by rw [beq_eq_false_iff_ne]; omega
              have h1i : ¬ (a3 : Int) = (a2 : Int) := by omega
              by_cases h2 : N ≤ x
              · have HZ := hid (HBD.out _ (numS_none1 ha2l h3l HD.out (.inr h2)) HB1.out)
                have h2i : (N : Int) ≤ (x : Int) := by omega
                clear h1
                go_wp2
                exact HZ.out
              · have h2i : ¬ (N : Int) ≤ (x : Int) := by omega
                by_cases h3 : a3 = T.length
                · have HZ := hid (HBD.out _ (numS_none2 HD.out h3) HB1.out)
                  have h3i : (a3 : Int) = (T.length : Int) := by omega
                  have h3b : ((a3 : Int) == (T.length : Int)) = true := beq_iff_eq.2 h3i
                  clear h1 h3 h3i
                  go_wp2
                  exact HZ.out
                · have h3b : ((a3 : Int) == (T.length : Int)) = false := by rw [beq_eq_false_iff_ne]; omega
                  have h3i : ¬ (a3 : Int) = (T.length : Int) := by omega
                  have h3lt : a3 < T.length := by omega
                  have h3li : (a3 : Int) < (T.length : Int) := by omega
                  have HNA := hid (numS_at (n := N) h23 h3lt HD.out h1 h2)
                  have hby := HIX.out a3 (by rw [hsz]; exact h3lt)
                  have hlen : (intsL l).length ≤ 1000000000000 := by rw [intsL_len]; omega
                  have hown := HX.out.1
                  clear h1 h3 HBD
                  generalize T.getD a3 0 = b3 at *
                  have HIN2 : Hid (∀ y ∈ l ++ [x], y < N) := hid (fun y hy => by
                    rcases List.mem_append.1 hy with h | h
                    · exact HIN.out y h
                    · rw [List.mem_singleton.1 h]; omega)
                  by_cases h41 : b3 = 41
                  · have h41i : (b3.toNat : Int) = 41 := by rw [h41]; rfl
                    have h41b : ((b3.toNat : Int) == 41) = true := by rw [h41i]; rfl
                    have HLS : Hid (RN N (T.drop (at' + 1)) [] (some (l ++ [x], T.drop (a3 + 1)))) := hid (HRN.out _ (.last (by rw [HNA.out, if_pos h41])))
                    have HRO := hid (fun r h => HGO.out _ _ r HLS.out h)
                    clear h41 HNA HLS HGO
                    go_wp2_with (at_builtin; refine wpList_appi wc _ _ 22 rfl rfl Tryd.underlying22 Tryd.info3 W1.heap.size _ _ rfl hown rfl hlen hlsz ?_; intro g c w8 hown1 hg1 hg2 hg3)
                    have HC8 := hid (And.intro (hown1.cast (intsL_snoc l x).symm) (hown.grown HX.out.2 hg1 hlsz))
                    clear hown hown1 hg1 hg2 hg3 hlen
                    obtain ⟨l1, hl1⟩ : ∃ l1, l ++ [x] = l1 := ⟨_, rfl⟩
                    have HO8 := hid (HO.out.1.below (HC8.out.2))
                    have hws8 := HC8.out.2.size
                    obtain ⟨NL, hNL⟩ : ∃ NL, l1.length = NL := ⟨_, rfl⟩
                    have HNL := hid hNL
                    have hNL2 : (intsL l).length + 1 = NL := by rw [← hNL, ← hl1, intsL_len, List.length_append]; rfl
                    rw [hl1, hNL] at HRO
                    rw [hl1] at HC8 HIN2
                    have hll2 : NL ≤ T.length + 1 := by rw [intsL_len] at hNL2; omega
                    rw [hNL2] at HC8 ⊢
                    have HAS : Hid (∀ i, asg l1 (i + 1) L = (asg l1 i L).set (l1.getD i 0) (l1.getD ((i + 1) % NL) 0)) := hid (fun i => by rw [← hNL]; rfl)
                    have HAL := hid (fun i => (asg_len l1 i L).trans hLl)
                    have HA0 : Hid (asg l1 0 L = L) := hid rfl
                    have HB8 := hid (HO.out.2.trans (HC8.out.2.mono hW1))
                    clear hl1 hNL hNL2
                    go_loopw [11] (fun iv wr => ∃ i : Nat, iv = .int .i64 i ∧ i ≤ NL ∧ OI w.heap.size wr u6 (intsL (asg l1 i L)) ∧ OI W1.heap.size wr (.slice (some ⟨g, 0, none⟩) NL c) (intsL l1) ∧ Below w.heap.size w wr) (fun iv _ => NL - (intOf iv).toNat)
                    case atStart => exact ⟨0, rfl, Nat.zero_le _, by rw [HA0.out]; exact HO8.out, HC8.out.1, HB8.out⟩
                    case round =>
                      obtain ⟨i, rfl, hi, ho, hl, hb⟩ := hrel
                      by_cases hin : i < NL
                      · have hii : (i : Int) < (NL : Int) := by omega
                        have him := Nat.mod_lt (i + 1) (show 0 < NL by omega)
                        have c1 := hl.cell i (by rw [intsL_len, HNL.out]; exact hin)
                        have c2 := hl.cell ((i + 1) % NL) (by rw [intsL_len, HNL.out]; exact him)
                        rw [intsL_get] at c1 c2
                        have hx := HIN2.out (l1.getD i 0) (by
                          rw [List.getD_eq_getElem?_getD, List.getElem?_eq_getElem (by rw [HNL.out]; exact hin)]
                          exact List.getElem_mem _)
                        have hxn : ((l1.getD i 0 : Nat) : Int) < (N : Int) := by omega
                        have hmo : ((i : Int) + 1).tmod (NL : Int) = (((i + 1) % NL : Nat) : Int) := (Int.ofNat_tmod (i + 1) NL).symm
                        have hmn : (((i + 1) % NL : Nat) : Int) < (NL : Int) := by omega
                        have hnz : ¬ (NL : Int) = 0 := by omega
                        have hi1 : IntKind.i64.wrap ((i : Int) + 1) = (i : Int) + 1 := IntWalk.i64_in _ (by omega)
                        obtain ⟨g6, c6, e6, hg6a, hg6b⟩ := ho.form (by rw [intsL_len, HAL.out]; omega)
                        rw [intsL_len, HAL.out] at e6
                        subst e6
                        have c3 := ho.cell (l1.getD i 0) (by rw [intsL_len, HAL.out]; exact hx)
                        have f3 := ho.frozen (l1.getD i 0)
                        have hgw : g6 < W1.heap.size := (HO.out.1.lt g6 rfl).2
                        have hgg := (hl.lt g rfl).1
                        obtain ⟨st1, st2⟩ := ho.stored (l1.getD i 0) ((l1.getD ((i + 1) % NL) 0 : Nat) : Int)
                        rw [intsL_set, ← HAS.out i] at st1
                        have hl2 := hl.kept st2 (.inr (by intro e; have e2 : g = g6 := Option.some.inj e; omega))
                        have hb2 := hb.grown st2 hb.size (fun b e => by cases e; exact hg6a)
                        have HZ := hid (And.intro st1 (And.intro hl2 hb2))
                        clear st1 st2 hl2 hb2 ho hl hb
                        generalize l1.getD i 0 = y at *
                        generalize l1.getD ((i + 1) % NL) 0 = z at *
                        generalize (i + 1) % NL = q at *
                        go_wp2
                        go_region
                        go_wp2
                        go_roundw
                        case rel => exact ⟨i + 1, by go_num, by omega, by first | exact HZ.out.1 | exact HZ.out.1.drew, by first | exact HZ.out.2.1 | exact HZ.out.2.1.drew, by first | exact HZ.out.2.2 | exact HZ.out.2.2.drew⟩
                        case measure => simp [intOf] <;> omega
                      · obtain rfl : i = NL := by omega
                        have hii : ¬ (i : Int) < (i : Int) := by omega
                        have HZ := hid (And.intro ho hb)
                        clear ho hl hb
                        go_wp2
                        go_roundw
                        case rel => exact ⟨a3 + 1, asg l1 i L, by go_num, by omega, HAL.out i, HRO, hid (fun h => absurd h HTD.out), HZ.out.1, HZ.out.2⟩
                        case measure => simp [intOf] <;> omega
                  · have h41i : ¬ (b3.toNat : Int) = 41 := fun h => h41 ((u8_ne (c := 41) (by decide)).1 h)
                    have h41b : ((b3.toNat : Int) == 41) = false := by rw [beq_eq_false_iff_ne]; exact h41i
                    by_cases h32 : b3 = 32
                    · have h32i : (b3.toNat : Int) = 32 := by rw [h32]; rfl
                      have h32b : ((b3.toNat : Int) == 32) = true := by rw [h32i]; rfl
                      have HMO := hid (fun r (h : RN N (T.drop (a3 + 1)) (l ++ [x]) r) => HRN.out r (.more (by rw [HNA.out, if_neg h41, if_pos h32]) h))
                      clear h41 h32 HNA
                      go_wp2_with (at_builtin; refine wpList_appi wc _ _ 22 rfl rfl Tryd.underlying22 Tryd.info3 W1.heap.size _ _ rfl hown rfl hlen hlsz ?_; intro g c w8 hown1 hg1 hg2 hg3)
                      have HC8 := hid (And.intro (hown1.cast (intsL_snoc l x).symm) (hown.grown HX.out.2 hg1 hlsz))
                      clear hown hown1 hg1 hg2 hg3 hlen
                      go_wp2
                      go_roundw
                      case rel => exact ⟨a3 + 1, l ++ [x], by go_num, by omega, by omega, HC8.out.1, HMO, by simp; omega, HIN2, HC8.out.2⟩
                      case measure => simp [intOf] <;> omega
                    · have h32i : ¬ (b3.toNat : Int) = 32 := fun h => h32 ((u8_ne (c := 32) (by decide)).1 h)
                      have h32b : ((b3.toNat : Int) == 32) = false := by rw [beq_eq_false_iff_ne]; exact h32i
                      have HZ := hid (fun w' hb => HBAD2.out w' (HRN.out none (.bad (by rw [HNA.out, if_neg h41, if_neg h32]))) hb)
                      clear h41 h32 HNA
                      go_wp2_with (at_builtin; refine wpList_appi wc _ _ 22 rfl rfl Tryd.underlying22 Tryd.info3 W1.heap.size _ _ rfl hown rfl hlen hlsz ?_; intro g c w8 hown1 hg1 hg2 hg3)
                      have HC8 := hid (HO.out.2.trans ((hown.grown HX.out.2 hg1 hlsz).mono hW1))
                      clear hown hown1 hg1 hg2 hg3 hlen
                      go_wp2
                      exact HZ.out _ HC8.out
      · have hb4 : ¬ (b.toNat : Int) = 40 := fun h => hb40 ((u8_ne (c := 40) (by decide)).1 h)
        have hb4b : ((b.toNat : Int) == 40) = false := by rw [beq_eq_false_iff_ne]; exact hb4
        have HZ := hid (HBAD.out _ (.bad hne (.off (by rw [HHD.out]; simpa using hb40))) HO.out.2)
        clear hb40
        go_wp2
        exact HZ.out
end Go.Proofs.YtgfdddknajeknaaDoor
