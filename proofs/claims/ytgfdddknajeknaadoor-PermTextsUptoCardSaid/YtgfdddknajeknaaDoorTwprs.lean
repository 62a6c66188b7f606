/-
  The walk over perm.parse. Conditions: a number of points within bounds, a text of at most 1,000,000,000 letters; the library's variables lie.
-/
import Derived.Test.YtgfdddknajeknaaDoorTwlib
import Derived.Test.YtgfdddknajeknaaDoorContains
import Derived.Test.YtgfdddknajeknaaDoorPcyc
namespace Go.Proofs.YtgfdddknajeknaaDoor
set_option linter.unusedVariables false
open Go.RowKit

def szV : Value → Nat
  | .string s => s.size
  | _ => 0
def stP (n : Nat) (o : List Nat) (T : List UInt8) (r : Option (List Nat × List UInt8)) : Prop := stepP n o T = r
theorem intsL_get (l : List Nat) (i : Nat) : (intsL l).getD i 0 = ((l.getD i 0 : Nat) : Int) := by
  unfold intsL
  rw [List.getD_eq_getElem?_getD, List.getD_eq_getElem?_getD, List.getElem?_map]
  cases l[i]? <;> rfl
theorem intsL_set (l : List Nat) (i x : Nat) : (intsL l).set i (x : Int) = intsL (l.set i x) := by
  unfold intsL
  rw [List.map_set]
theorem mem_intsL (l : List Nat) (x : Nat) : (x : Int) ∈ intsL l ↔ x ∈ l := by
  unfold intsL
  rw [List.mem_map]
  constructor
  · rintro ⟨y, hy, e⟩
    obtain rfl : y = x := by omega
    exact hy
  · intro h; exact ⟨x, h, rfl⟩
/-- What a word that is read adds. -/
theorem rdW_step {n : Nat} {out : List Nat} {w : List UInt8} {ws : List (List UInt8)} {l : List Nat} {k : Int} (h : Lib.atoiAll w = .ok k) : rdW n out (w :: ws) l = if 0 ≤ k ∧ k < (n : Int) ∧ out.getD k.toNat 0 = k.toNat ∧ k.toNat ∉ l then rdW n out ws (l ++ [k.toNat]) else none := by
  show (match Lib.atoiAll w with | .ok k => _ | _ => none) = _
  rw [h]
theorem rdW_none {n : Nat} {out : List Nat} {w : List UInt8} {ws : List (List UInt8)} {l : List Nat} (h : ∀ k, Lib.atoiAll w ≠ .ok k) : rdW n out (w :: ws) l = none := by
  show (match Lib.atoiAll w with | .ok k => _ | _ => none) = _
  rcases e : Lib.atoiAll w with k | _ | _
  · exact absurd e (h k)
  · rfl
  · rfl
theorem stepP_eq (n : Nat) (L : List Nat) (T : List UInt8) : stepP n L T = if (Lib.cut T [41]).2.2 = true ∧ Lib.hasPrefix (Lib.cut T [41]).1 [40] = true then (rdW n L (spl 32 (Lib.trimPrefix (Lib.cut T [41]).1 [40])) []).map (fun l => (asg l l.length L, (Lib.cut T [41]).2.1)) else none := rfl

/-- What parse hands back. -/
def PEnd (n : Nat) (T : List UInt8) (w : World) (e : Ending) (w' : World) : Prop :=
  (∃ r, PRT (stP n) n T r ∧ ((r = none ∧ e = .returned (.tuple #[.slice none 0 0, .bool false])) ∨ ∃ l u, r = some l ∧ e = .returned (.tuple #[u, .bool true]) ∧ OI w.heap.size w' u (intsL l) ∧ l.length = n)) ∧ Below w.heap.size w w'

set_option maxHeartbeats 4000000 in
set_option maxRecDepth 100000 in
theorem parse_any (T0 : List UInt8) (n : Nat) (hn : n ≤ 12) (w : World) (hs : T0.length ≤ 1000000000) (hL : LibW w) :
    Calls Tryd.prog 19 #[.string (str T0), .int .i64 n] w (PEnd n T0 w) := by
  have HL := hid hL
  have HR0 : Hid (intsL (List.range 0) = []) := hid rfl
  have HRS : Hid (∀ k, intsL (List.range (k + 1)) = intsL (List.range k) ++ [(k : Int)]) := hid (fun k => by rw [List.range_succ, intsL_snoc])
  have HRL : Hid (∀ k, (intsL (List.range k)).length = k) := hid (fun k => by rw [intsL_len, List.length_range])
  have HN : Hid (∀ w', T0 ≠ [40, 41] → PR (stP n) T0 (List.range n) none → Below w.heap.size w w' → PEnd n T0 w (.returned (.tuple #[.slice none 0 0, .bool false])) w') := hid (fun w' h0 h hb => ⟨⟨none, by unfold PRT; rw [if_neg h0]; exact h, .inl ⟨rfl, rfl⟩⟩, hb⟩)
  have HS : Hid (∀ w' u l, T0 ≠ [40, 41] → PR (stP n) T0 (List.range n) (some l) → OI w.heap.size w' u (intsL l) → l.length = n → Below w.heap.size w w' → PEnd n T0 w (.returned (.tuple #[u, .bool true])) w') := hid (fun w' u l h0 h ho hl hb => ⟨⟨some l, by unfold PRT; rw [if_neg h0]; exact h, .inr ⟨l, u, rfl, rfl, ho, hl⟩⟩, hb⟩)
  have HE : Hid (∀ w' u, T0 = [40, 41] → OI w.heap.size w' u (intsL (List.range n)) → Below w.heap.size w w' → PEnd n T0 w (.returned (.tuple #[u, .bool true])) w') := hid (fun w' u h0 ho hb => ⟨⟨some (List.range n), by unfold PRT; rw [if_pos h0], .inr ⟨_, u, rfl, rfl, ho, List.length_range⟩⟩, hb⟩)
  clear hL
  generalize PEnd n T0 w = G at *
  go_enter Tryd.func19, Tryd.ntmps19
  go_wp2
  go_loopw [6, 7, 21] (fun o _ i wr => ∃ k : Nat, i = .int .i64 k ∧ k ≤ n ∧ OI w.heap.size wr o (intsL (List.range k)) ∧ Below w.heap.size w wr) (fun _ _ i _ => n - (intOf i).toNat)
  case atStart => exact ⟨0, rfl, Nat.zero_le _, by rw [HR0.out]; exact OI.nil _ _, Below.refl _ _⟩
  case round =>
    obtain ⟨k, rfl, hk, ho, hb⟩ := hrel
    by_cases hlt : k < n
    · have hki : (k : Int) < (n : Int) := by omega
      have hB := hb.size
      have hl2 : (intsL (List.range k)).length ≤ 1000000000000 := by rw [HRL.out]; omega
      have HSK := hid (HRS.out k)
      go_wp2_with (at_builtin; refine wpList_appi wr _ _ 22 rfl rfl Tryd.underlying22 Tryd.info3 w.heap.size _ _ rfl ho rfl hl2 hB ?_; intro g c w1 hown1 hg1 hg2 hg3)
      go_roundw
      case rel => exact ⟨k + 1, by go_num, by omega, hown1.cast (by rw [HSK.out]), ho.grown hb hg1 hB⟩
      case measure => simp [intOf] <;> omega
    · obtain rfl : n = k := by omega
      have hki : ¬ (n : Int) < (n : Int) := by omega
      have HO := hid (And.intro ho hb)
      have hus := hb.size
      clear ho hb
      by_cases h0 : T0 = [40, 41]
      · subst h0
        have hq : (str [40, 41] : ByteArray) = ⟨#[40, 41]⟩ := rfl
        rw [hq] at *
        go_wp2
        exact HE.out _ _ (by trivial) HO.out.1 HO.out.2
      · have hq2 : ((str T0).toList == [40, 41]) = false := by rw [Lib.toList_data, str_data, beq_eq_false_iff_ne]; exact h0
        have HLW := hid (HL.out.below HO.out.2)
        obtain ⟨W1, hW1⟩ : ∃ W1, W1 = wr := ⟨_, rfl⟩
        subst hW1
        go_wp2
        go_loopw [0, 8, 9, 10, 11, 12, 13, 15, 16, 17, 18, 19] (fun tx _ _ _ _ _ _ _ _ _ _ _ wr => ∃ (T : List UInt8) (L : List Nat), tx = .string (str T) ∧ T.length ≤ 1000000000 ∧ L.length = n ∧ Hid (∀ r, PR (stP n) T L r → PR (stP n) T0 (List.range n) r) ∧ OI w.heap.size wr u6 (intsL L) ∧ Below w.heap.size w wr) (fun tx _ _ _ _ _ _ _ _ _ _ _ _ => szV tx)
        case atStart => exact ⟨T0, List.range n, rfl, hs, List.length_range, hid (fun r h => h), HO.out.1, HO.out.2⟩
        case round =>
          obtain ⟨T, L, rfl, hTl, hLl, HPR, ho, hb⟩ := hrel
          by_cases hT : T = []
          · subst hT
            have HO2 := hid (And.intro ho hb)
            have hq3 : (str [] : ByteArray) = ⟨#[]⟩ := rfl
            rw [hq3]
            clear ho hb
            go_wp2
            exact HS.out _ _ _ h0 (HPR.out _ (.done L)) HO2.out.1 hLl HO2.out.2
          · have hne : (str T).toList.isEmpty = false := by rw [str_empty]; cases h : T with | nil => exact absurd h hT | cons _ _ => rfl
            have HTn := hid hT
            have HO2 := hid (And.intro ho hb)
            have HST := hid (stepP_eq n L T)
            have HC := hid (cut_at_w T wr hTl (HL.out.below hb) 41)
            obtain ⟨hc1, hc2⟩ := cut_lt hT 41
            have HC2 := hid hc2
            clear ho hb hc2
            obtain ⟨A, hA⟩ : ∃ A, Lib.cut T [41] = A := ⟨_, rfl⟩
            rw [hA] at HST HC hc1 HC2
            clear hA hT
            obtain ⟨C1, C2, ok⟩ := A
            simp only at HST HC hc1 HC2
            go_wp2_with fail
            refine HC.out.mono ?_
            rintro e w2 ⟨rfl, hb2⟩
            have HB2 := hid (HO2.out.2.trans (hb2.mono HO2.out.2.size))
            have HO3 := hid (HO2.out.1.below hb2)
            clear hb2
            go_wp2_with fail
            refine (cutpre_w C1 w2 40).mono ?_
            rintro e w3 ⟨rfl, rfl⟩
            have hwl := Lib.trimPrefix_le C1 [40]
            generalize Lib.trimPrefix C1 [40] = W at *
            generalize Lib.hasPrefix C1 [40] = hp at *
            cases ok with
            | false =>
              have HB := hid (PR.bad (st := stP n) HTn.out (show stepP n L T = none by rw [HST.out, if_neg (by simp)]))
              go_wp2
              exact HN.out _ h0 (HPR.out _ HB.out) HB2.out
            | true =>
              cases hp with
              | false =>
                have HB := hid (PR.bad (st := stP n) HTn.out (show stepP n L T = none by rw [HST.out, if_neg (by simp)]))
                go_wp2
                exact HN.out _ h0 (HPR.out _ HB.out) HB2.out
              | true =>
                have HS2 : Hid (stepP n L T = (rdW n L (spl 32 W) []).map (fun l => (asg l l.length L, C2))) := hid (by rw [HST.out, if_pos (by simp)])
                have hT2 := HC2.out rfl
                have hwle := spl_le 32 W
                have HPC := hid (spl_piece 32 W)
                have HSP := hid (split_w W w3 (by omega) (HL.out.below HB2.out) 32)
                clear HST HC2 HC
                generalize spl 32 W = ws at *
                obtain ⟨NW, hNW⟩ : ∃ NW, ws.length = NW := ⟨_, rfl⟩
                rw [hNW] at HSP hwle
                have HNW := hid hNW
                clear hNW
                go_wp2_with fail
                refine HSP.out.mono ?_
                rintro e w4 ⟨gs, rfl, hsp, hb4⟩
                have HS4 := hid (And.intro hsp (HB2.out.trans (hb4.mono HB2.out.size)))
                have HO4 := hid (HO3.out.below hb4)
                clear hsp hb4 HSP
                go_wp2_with fail
                obtain ⟨W4, hW4⟩ : ∃ W4, W4 = w4 := ⟨_, rfl⟩
                subst hW4
                have HNO := hid (fun w' (h : rdW n L ws [] = none) (hb : Below w.heap.size w w') => HN.out w' h0 (HPR.out _ (PR.bad (st := stP n) HTn.out (show stepP n L T = none by rw [HS2.out, h]; rfl))) hb)
                have HYE := hid (fun l r (h : rdW n L ws [] = some l) (hr : PR (stP n) C2 (asg l l.length L) r) => HPR.out r (PR.go (st := stP n) HTn.out (show stepP n L T = _ by rw [HS2.out, h]; rfl) hr))
                have hw4 := HS4.out.2.size
                clear HS2
                go_loopw [13, 15, 16, 17, 54] (fun lv _ _ _ iv wr => ∃ (t : Nat) (l : List Nat), iv = .int .i64 t ∧ t ≤ NW ∧ OI W4.heap.size wr lv (intsL l) ∧ Hid (rdW n L (ws.drop t) l = rdW n L ws []) ∧ l.length ≤ t ∧ Hid (∀ x ∈ l, x < n) ∧ Below W4.heap.size W4 wr) (fun _ _ _ _ iv _ => NW - (intOf iv).toNat)
                case atStart => exact ⟨0, [], rfl, Nat.zero_le _, OI.nil _ _, hid (by rw [List.drop_zero]), Nat.le_refl _, hid (fun x h => by cases h), Below.refl _ _⟩
                case round =>
                  obtain ⟨t, l, rfl, ht, hl, HR, hlt2, HIN, hb⟩ := hrel
                  have HB1 := hid (HS4.out.2.trans (hb.mono HS4.out.2.size))
                  have HO5 := hid (HO4.out.below hb)
                  by_cases htn : t < NW
                  · have hti : (t : Int) < (NW : Int) := by omega
                    have htl : t < ws.length := by rw [HNW.out]; exact htn
                    have HDR : Hid (rdW n L (ws.getD t [] :: ws.drop (t + 1)) l = rdW n L ws []) := hid (by
                      rw [← HR.out, List.drop_eq_getElem_cons htl]
                      simp [htl])
                    have hpc : (ws.getD t []).length ≤ W.length := HPC.out _ (by
                      rw [List.getD_eq_getElem?_getD, List.getElem?_eq_getElem htl]
                      exact List.getElem_mem htl)
                    have hcl := (HS4.out.1.below hb).cell t (by rw [List.length_map]; exact htl)
                    have hcl2 : (ws.map fun x => Value.string (str x))[t]? = some (.string (str (ws.getD t []))) := by simp [htl]
                    rw [hcl2] at hcl
                    have HA := hid (atoi_w (ws.getD t []) wr (by omega) (HL.out.below HB1.out))
                    have HX := hid (And.intro hl hb)
                    clear hl hb hcl2 htl HR
                    generalize ws.getD t [] = wt at *
                    go_wp2_with fail
                    refine HA.out.mono ?_
                    rintro e w5 ⟨hA, hb5⟩
                    have HB5 := hid (HB1.out.trans (hb5.mono HB1.out.size))
                    have HO6 := hid (HO5.out.below hb5)
                    have HX5 := hid (And.intro (HX.out.1.below hb5) (HX.out.2.trans (hb5.mono HX.out.2.size)))
                    clear hb5 HA hcl
                    rcases hA with ⟨k, hk, rfl⟩ | ⟨hno, v, q, rfl⟩
                    · have HK := hid (rdW_step (n := n) (out := L) (ws := ws.drop (t + 1)) (l := l) hk)
                      rw [HDR.out] at HK
                      clear hk HDR
                      by_cases hk0 : k < 0
                      · have HZ := hid (HNO.out · (HK.out.trans (if_neg (by omega))))
                        go_wp2
                        exact HZ.out _ HB5.out
                      · by_cases hkn : (n : Int) ≤ k
                        · have HZ := hid (HNO.out · (HK.out.trans (if_neg (by omega))))
                          go_wp2
                          exact HZ.out _ HB5.out
                        · obtain ⟨j, rfl⟩ := Int.eq_ofNat_of_zero_le (show 0 ≤ k by omega)
                          have hjn : j < n := by omega
                          have hjk : (j : Int) < (n : Int) := by omega
                          rw [Int.toNat_natCast] at HK
                          obtain ⟨g6, c6, e6, hg6a, hg6b⟩ := HO6.out.form (by rw [intsL_len, hLl]; omega)
                          rw [intsL_len, hLl] at e6
                          subst e6
                          have hc6 := HO6.out.cell j (by rw [intsL_len, hLl]; exact hjn)
                          rw [intsL_get] at hc6
                          by_cases hsame : L.getD j 0 = j
                          · have HCO := hid (containsI_any _ (intsL l) (j : Int) w5 (HX5.out.1.sl (by rw [intsL_len]; omega)))
                            have HMEM : Hid (((j : Int) ∈ intsL l) ↔ j ∈ l) := hid (mem_intsL l j)
                            rw [hsame] at hc6
                            have HSM := hid hsame
                            clear hsame
                            go_wp2_with fail
                            refine HCO.out.mono ?_
                            rintro e w7 ⟨rfl, hw7⟩
                            subst hw7
                            by_cases hm : j ∈ l
                            · have HZ := hid (HNO.out · (HK.out.trans (if_neg (fun h => h.2.2.2 hm))))
                              rw [decide_eq_true (HMEM.out.2 hm)]
                              clear hm
                              go_wp2
                              exact HZ.out _ HB5.out
                            · have HZ : Hid (rdW n L (ws.drop (t + 1)) (l ++ [j]) = rdW n L ws []) := hid ((HK.out.trans (if_pos ⟨by omega, hjk, HSM.out, hm⟩)).symm)
                              rw [decide_eq_false (fun h => hm (HMEM.out.1 h))]
                              have HIN2 : Hid (∀ x ∈ l ++ [j], x < n) := hid (fun x hx => by
                                rcases List.mem_append.1 hx with h | h
                                · exact HIN.out x h
                                · rw [List.mem_singleton.1 h]; exact hjn)
                              have hlen : (intsL l).length ≤ 1000000000000 := by rw [intsL_len]; omega
                              have hsz := HX5.out.2.size
                              have hown := HX5.out.1
                              clear hm HK
                              go_wp2_with (at_builtin; refine wpList_appi w5 _ _ 22 rfl rfl Tryd.underlying22 Tryd.info3 W4.heap.size _ _ rfl hown rfl hlen hsz ?_; intro g c w8 hown1 hg1 hg2 hg3)
                              go_roundw
                              case rel => exact ⟨t + 1, l ++ [j], by go_num, by omega, hown1.cast (by rw [intsL_snoc]), HZ, by rw [List.length_append]; simp; omega, HIN2, hown.grown HX5.out.2 hg1 hsz⟩
                              case measure => simp [intOf] <;> omega
                          · have hsi : ¬ ((L.getD j 0 : Nat) : Int) = (j : Int) := by omega
                            have HZ := hid (HNO.out · (HK.out.trans (if_neg (fun h => hsame h.2.2.1))))
                            generalize L.getD j 0 = y at *
                            have hsb : ((y : Int) == (j : Int)) = false := by simp; omega
                            clear hsame
                            go_wp2
                            exact HZ.out _ HB5.out
                    · have HZ := hid (HNO.out · (HDR.out.symm.trans (rdW_none hno)))
                      clear hno
                      go_wp2
                      exact HZ.out _ HB5.out
                  · obtain rfl : t = NW := by omega
                    have hti : ¬ (t : Int) < (t : Int) := by omega
                    have HYES := hid (HYE.out l · (HR.out.symm.trans (by rw [List.drop_of_length_le (by rw [HNW.out]; exact Nat.le_refl _)]; rfl)))
                    obtain ⟨la, lc, e13⟩ := hl.len
                    rw [intsL_len] at e13
                    subst e13
                    obtain ⟨NL, hNL⟩ : ∃ NL, l.length = NL := ⟨_, rfl⟩
                    have HNL := hid hNL
                    rw [hNL] at hlt2 hl HYES ⊢
                    have HX := hid (And.intro hl hb)
                    obtain ⟨W5, hW5⟩ : ∃ W5, W5 = wr := ⟨_, rfl⟩
                    subst hW5
                    have HA0 : Hid (asg l 0 L = L) := hid rfl
                    have HAS : Hid (∀ i, asg l (i + 1) L = (asg l i L).set (l.getD i 0) (l.getD ((i + 1) % NL) 0)) := hid (fun i => by rw [← HNL.out]; rfl)
                    have HAL := hid (fun i => (asg_len l i L).trans hLl)
                    have hws := hb.size
                    clear hl hb hNL HR HS4 HNO HPC HYE
                    go_wp2_with fail
                    go_loopw [18, 19, 94] (fun _ _ iv wr => ∃ i : Nat, iv = .int .i64 i ∧ i ≤ NL ∧ OI w.heap.size wr u6 (intsL (asg l i L)) ∧ OI W4.heap.size wr (.slice la NL lc) (intsL l) ∧ Below w.heap.size w wr) (fun _ _ iv _ => NL - (intOf iv).toNat)
                    case atStart => exact ⟨0, rfl, Nat.zero_le _, HO5.out, HX.out.1, HB1.out⟩
                    case round =>
                      obtain ⟨i, rfl, hi, ho, hl, hb⟩ := hrel
                      by_cases hin : i < NL
                      · have hii : (i : Int) < (NL : Int) := by omega
                        have him := Nat.mod_lt (i + 1) (show 0 < NL by omega)
                        obtain ⟨g13, c13, e13, hg13, hg13b⟩ := hl.form (by rw [intsL_len, HNL.out]; omega)
                        rw [intsL_len, HNL.out] at e13
                        obtain ⟨rfl, rfl⟩ : la = some ⟨g13, 0, none⟩ ∧ lc = c13 := by simpa using e13
                        have c1 := hl.cell i (by rw [intsL_len, HNL.out]; exact hin)
                        have c2 := hl.cell ((i + 1) % NL) (by rw [intsL_len, HNL.out]; exact him)
                        rw [intsL_get] at c1 c2
                        have hx := HIN.out (l.getD i 0) (by
                          rw [List.getD_eq_getElem?_getD, List.getElem?_eq_getElem (by rw [HNL.out]; exact hin)]
                          exact List.getElem_mem _)
                        have hxn : ((l.getD i 0 : Nat) : Int) < (n : Int) := by omega
                        have hmo : ((i : Int) + 1).tmod (NL : Int) = (((i + 1) % NL : Nat) : Int) := (Int.ofNat_tmod (i + 1) NL).symm
                        have hmn : (((i + 1) % NL : Nat) : Int) < (NL : Int) := by omega
                        have hnz : ¬ (NL : Int) = 0 := by omega
                        obtain ⟨g6, c6, e6, hg6a, hg6b⟩ := ho.form (by rw [intsL_len, HAL.out]; omega)
                        rw [intsL_len, HAL.out] at e6
                        subst e6
                        have c3 := ho.cell (l.getD i 0) (by rw [intsL_len, HAL.out]; exact hx)
                        have f3 := ho.frozen (l.getD i 0)
                        have hgw : g6 < W4.heap.size := (HO4.out.lt g6 rfl).2
                        obtain ⟨st1, st2⟩ := ho.stored (l.getD i 0) ((l.getD ((i + 1) % NL) 0 : Nat) : Int)
                        rw [intsL_set, ← HAS.out i] at st1
                        have hl2 := hl.kept st2 (.inr (by intro e; have e2 : g13 = g6 := Option.some.inj e; omega))
                        have hb2 := hb.grown st2 hb.size (fun b e => by cases e; exact hg6a)
                        have HZ := hid (And.intro st1 (And.intro hl2 hb2))
                        clear st1 st2 hl2 hb2 ho hl hb e13
                        generalize l.getD i 0 = x at *
                        generalize l.getD ((i + 1) % NL) 0 = y at *
                        generalize (i + 1) % NL = z at *
                        go_wp2
                        go_roundw
                        case rel => exact ⟨i + 1, by go_num, by omega, HZ.out.1, HZ.out.2.1, HZ.out.2.2⟩
                        case measure => simp [intOf] <;> omega
                      · obtain rfl : i = NL := by omega
                        have hii : ¬ (i : Int) < (i : Int) := by omega
                        have HZ := hid (And.intro ho hb)
                        clear ho hl hb
                        go_wp2
                        go_roundw
                        case rel => exact ⟨C2, asg l i L, rfl, by omega, HAL.out i, hid (fun r h => HYES.out r h), HZ.out.1, HZ.out.2⟩
                        case measure => simp [szV, str_size] <;> omega
end Go.Proofs.YtgfdddknajeknaaDoor
