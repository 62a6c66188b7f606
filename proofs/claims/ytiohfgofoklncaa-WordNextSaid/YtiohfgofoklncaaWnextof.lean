/-
  The walks over parterreref4.least, where the word is a Lyndon word, and parterreref4.NextOf, where the word is one. Conditions: the slice can be read, its letters are below k.
-/
import Derived.Test.YtiohfgofoklncaaWgoes
import Derived.Test.YtiohfgofoklncaaWlynof
namespace Go.Proofs.Ytiohfgofoklncaa
open Go.RowKit

theorem least_lyn (k m : Int) (v : Value) (l : List Int) (w : World) (hl : Sl w v l) (h : Lex.lynB l = true) :
    Calls Try.prog 41 #[.int .i64 k, v, .int .i64 m] w fun e w' => e = .returned (.tuple #[v, .bool true]) ∧ ∃ n, w' = w.drewN n := by
  have H := lyndonof_any v l w hl
  rw [h] at H
  have H' := hid H
  clear H
  go_enter Try.func41, Try.ntmps41
  go_wp2_with fail
  refine H'.out.mono ?_
  rintro e w' ⟨rfl, ⟨n, rfl⟩⟩
  go_wp2
  go_ret2
  exact ⟨rfl, _, rfl⟩

theorem trim_at (x a : Int) (p : List Int) (h : a ≠ x) : ∀ m, trim x (p ++ a :: List.replicate m x) = p ++ [a]
  | 0 => by rw [List.replicate_zero]; exact trim_last x a p h
  | m + 1 => by
    rw [List.replicate_succ', show p ++ a :: (List.replicate m x ++ [x]) = (p ++ a :: List.replicate m x) ++ [x] by simp, trim_snoc]
    exact trim_at x a p h m
theorem trim_rep (x : Int) : ∀ m, trim x (List.replicate m x) = []
  | 0 => rfl
  | m + 1 => by rw [List.replicate_succ', trim_snoc]; exact trim_rep x m
theorem rep_of {l : List Int} {x : Int} (h : ∀ j, j < l.length → l[j]?.getD 0 = x) : l = List.replicate l.length x := by
  apply List.ext_getElem?
  intro i
  by_cases hi : i < l.length
  · have := h i hi
    simp [hi] at this
    simp [hi, this]
  · simp [hi]
theorem nextL_at {k : Int} {l : List Int} {z : Nat} (hz : z < l.length) (h : ∀ j, z < j → j < l.length → l[j]?.getD 0 = k - 1) (ha : l[z]?.getD 0 ≠ k - 1) : nextL k l l.length = l.take z ++ [l[z]?.getD 0 + 1] := by
  unfold nextL
  rw [round_self]
  have e : l = l.take z ++ l[z]?.getD 0 :: List.replicate (l.length - (z + 1)) (k - 1) := by
    have h1 : l.drop (z + 1) = List.replicate (l.drop (z + 1)).length (k - 1) := rep_of (fun j hj => by
      rw [List.length_drop] at hj
      rw [List.getElem?_drop]
      exact h _ (by omega) (by omega))
    rw [List.length_drop] at h1
    rw [← h1]
    have h2 : l[z]?.getD 0 = l[z] := by simp [hz]
    rw [h2, ← List.drop_eq_getElem_cons hz, List.take_append_drop]
  have e2 : trim (k - 1) l = l.take z ++ [l[z]?.getD 0] := by
    conv => lhs; rw [e]
    exact trim_at _ _ _ ha _
  rw [e2, bump_snoc]
theorem nextL_none {k : Int} {l : List Int} (h : ∀ j, j < l.length → l[j]?.getD 0 = k - 1) : nextL k l l.length = [] := by
  unfold nextL
  rw [round_self, rep_of h, trim_rep]
  rfl

theorem nextof_any (k : Int) (v : Value) (l : List Int) (w : World) (hl : Sl w v l) (h1 : 1 ≤ k) (h2 : k ≤ 10) (hs : SmK k l) (hly : Lex.lynB l = true) (hlen : l.length ≤ 4096) :
    Calls Try.prog 29 #[.int .i64 k, v] w fun e w' => (∃ u, e = .returned (.tuple #[u, .int .i64 (nextErr (nextL k l l.length).length)]) ∧ OI w.heap.size w' u (nextL k l l.length)) ∧ Below w.heap.size w w' := by
  obtain ⟨a, c, N, rfl, hN, hl1, hl2⟩ := hl.open
  have hpos : 0 < N := by rw [← hN.out]; exact List.length_pos_iff.2 ((Lex.lynB_iff l).1 hly).1
  obtain ⟨b, off, rfl, hbl, hc⟩ := hl2 hpos
  have HC := hid hc
  have HA := hid (fun z => nextL_at (k := k) (l := l) (z := z))
  have HO := hid (nextL_none (k := k) (l := l))
  have HLY : Hid (∀ R, nextL k l l.length = R → R ≠ [] → Lex.lynB R = true) := by
    intro R hR hne
    rcases nextL_lyn ((Lex.lynB_iff l).1 hly) (fun x hx => (hs x hx).2) with ⟨_, h⟩ | ⟨p, a, m, _, _, h, h4, _⟩
    · rw [h] at hR; exact absurd hR.symm hne
    · rw [← hR, h]; exact (Lex.lynB_iff _).2 h4
  have HS : Hid (∀ z, z < N → 0 ≤ l[z]?.getD 0 ∧ l[z]?.getD 0 ≤ k - 1) := by
    intro z hz
    have hz' : z < l.length := by rw [hN.out]; exact hz
    have := hs l[z] (List.getElem_mem hz')
    simpa [hz'] using this
  rw [hN.out] at HA HO HLY hlen ⊢
  have HR : Hid (∀ z, z < N → (∀ j, z < j → j < N → l[j]?.getD 0 = k - 1) → l[z]?.getD 0 ≠ k - 1 → nextL k l N = l.take z ++ [l[z]?.getD 0 + 1]) := fun z a b c => HA.out z a b c
  clear HA hc hl2 hs hly
  generalize nextL k l N = R at *
  go_enter Try.func29, Try.ntmps29
  go_wp2
  go_loop [6, 7, 8, 9, 10] (fun i _ _ _ _ => ∃ z : Nat, z ≤ N ∧ i = .int .i64 ((z : Int) - 1) ∧ Hid (∀ j, z ≤ j → j < N → l[j]?.getD 0 = k - 1)) (fun i _ _ _ _ => (intOf i + 1).toNat)
  case atStart => exact ⟨N, Nat.le_refl _, by go_num, hid (fun j hj hj2 => by omega)⟩
  case round =>
    obtain ⟨z, hz, rfl, hend⟩ := hrel
    cases z with
    | zero =>
      have hRn : R = [] := HO.out (fun j hj => hend.out j (Nat.zero_le _) hj)
      have HRn := hid hRn
      clear hRn
      go_wp2
      go_ret2
      exact ⟨⟨_, by rw [HRn.out]; rfl, by rw [HRn.out]; exact OI.nil _ _⟩, Below.refl _ _⟩
    | succ z =>
      rw [show ((z + 1 : Nat) : Int) - 1 = (z : Int) by omega]
      have hcell := HC.out z (by omega)
      obtain ⟨hx0, hx1⟩ := HS.out z (by omega)
      by_cases hlt : l[z]?.getD 0 = k - 1
      · have hge : ¬ l[z]?.getD 0 + 1 < k := by omega
        have HLT := hid hlt
        clear hlt
        go_wp2
        refine wp_loop_rounds 1 ?_
        rw [rounds_succ]
        go_wp2
        go_round
        case rel => exact ⟨z, by omega, rfl, hid (fun j hj hj2 => by
          by_cases e : j = z
          · rw [e]; exact HLT.out
          · exact hend.out j (by omega) hj2)⟩
        case measure => simp [intOf] <;> omega
      · have hltk : l[z]?.getD 0 + 1 < k := by omega
        have hRe := HR.out z (by omega) (fun j hj hj2 => hend.out j (by omega) hj2) hlt
        have HRe := hid hRe
        have hne : R ≠ [] := by rw [hRe]; simp
        have HL := hid (HLY.out R rfl hne)
        have HE := hid (show nextErr R.length = 0 from if_neg (by rw [hRe]; simp))
        clear hlt hRe hne hcell
        have hcell := HC.out z (by omega)
        have hb0 : Below w.heap.size w (w.alloc (.cells #[] 3)) := (Below.refl _ _).alloc (Nat.le_refl _) _
        have hpre := (hl.upto (i := z) (by omega)).below hb0
        have hpl : (l.take z).length ≤ 1000000000 := by rw [List.length_take]; omega
        have hone := ints_one (l.take z)
        go_wp2
        refine wp_loop_rounds 1 ?_
        rw [rounds_succ]
        have hbg : ∀ (w1 : World), (w.alloc (.cells #[] 3)).grownBy w1 (some w.heap.size) → Below w.heap.size w w1 := fun w1 h => hb0.grown h (by simp) (fun k e => by cases e; exact Nat.le_refl _)
        have hpl2 : ([] ++ l.take z).length ≤ 1000000000000 := by rw [List.nil_append]; omega
        have hpl3 : (List.map (Value.int .i64) ([] : List Int)).length + (List.map (Value.int .i64) (l.take z)).length ≤ 1000000000000 := by simp only [List.length_map, List.length_nil]; omega
        have hsz : w.heap.size ≤ (w.alloc (.cells #[] 3)).heap.size := by simp
        go_wp2_with (first
          | (at_builtin; refine wpList_apps (w := w.alloc (.cells #[] 3)) (.tmp 28) (.tmp 31) 23 3 (.int .i64 0) 8 rfl rfl Try.underlying23 Try.info3 rfl (by decide) w.heap.size _ _ _ _ rfl (OI.lit0 w.heap.size w (Nat.le_refl _)) rfl hpre hone hpl3 hsz ?_; intro v1 w1 ho1 hg1 hg2; have ho1' := OI.ofApp (l := []) ho1; have hb1 := hbg _ hg1; have hB1 := hb1.size; clear ho1 hg1 hg2)
          | (at_builtin; refine wpList_appi w1 (.tmp 33) (.tmp 35) 23 rfl rfl Try.underlying23 Try.info3 w.heap.size _ _ rfl ho1' rfl hpl2 hB1 ?_; intro g c2 w2 ho2 hg3 hg4 hg5; have hb2 := ho1'.grown hb1 hg3 hB1; clear hg3 hg4 ho1' hb1))
        rw [List.nil_append, ← HRe.out] at ho2
        have hlt2 : (l.take z).length = z := by rw [List.length_take, hN.out]; omega
        rw [hlt2] at ho2
        have hRl : R.length ≤ 17592186044416 := by rw [HRe.out, List.length_append, hlt2]; simp; omega
        rw [show min z l.length = z by rw [hN.out]; omega]
        refine (least_lyn k _ _ R _ (ho2.sl hRl) HL.out).mono ?_
        rintro e w3 ⟨rfl, ⟨n, rfl⟩⟩
        clear hlt2 hRl
        go_wp2
        go_ret2
        exact ⟨⟨_, by rw [HE.out]; rfl, ho2.drewN _⟩, below_drewN hb2 _⟩
end Go.Proofs.Ytiohfgofoklncaa
