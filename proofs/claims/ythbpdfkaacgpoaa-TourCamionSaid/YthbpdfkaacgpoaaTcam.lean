/-
  Camion: where all come to all there is a cycle of all; and only there. No program in sight.
-/
import Derived.Test.YthbpdfkaacgpoaaTpeq
import Derived.Test.YthbpdfkaacgpoaaTcyc2
namespace Go.Proofs.Ythbpdfkaacgpoaa
set_option linter.unusedVariables false
open Go.RowKit

/-- Closed: the last beats the first, where there are two. -/
def cycP (b : Rel) (C : List Nat) : Prop := chn b C ∧ ∀ x y, C.getLast? = some x → C.head? = some y → 1 < C.length → b x y = true
/-- A cycle can be turned so that a player stands first. -/
theorem cyc_turn {b : Rel} {C : List Nat} (hc : cycP b C) {y : Nat} (hy : y ∈ C) : ∃ C', cycP b C' ∧ C'.Perm C ∧ C'.head? = some y := by
  obtain ⟨A, B, rfl⟩ := List.append_of_mem hy
  refine ⟨(y :: B) ++ A, ⟨?_, fun u v hu hv hl => ?_⟩, List.perm_append_comm, rfl⟩
  · refine chn_app _ _ (chn_right A (y :: B) hc.1) (chn_left A (y :: B) hc.1) (fun u v hu hv => ?_)
    refine hc.2 u v (by rw [List.getLast?_append, hu]; rfl) (by rw [List.head?_append, hv]; rfl) ?_
    cases A with
    | nil => cases hv
    | cons a A => simp; omega
  · have : v = y := by simpa using hv.symm
    subst this
    cases hA : A.getLast? with
    | none =>
      have hA : A = [] := List.getLast?_eq_none_iff.1 hA
      subst hA
      exact hc.2 u v (by simpa using hu) rfl (by simpa using hl)
    | some x =>
      rw [List.getLast?_append, hA] at hu
      have hxu : x = u := by simpa using hu
      subst hxu
      -- x stands ahead of v
      obtain ⟨A', rfl⟩ : ∃ A', A = A' ++ [x] := by
        rcases List.eq_nil_or_concat A with h | ⟨A', z, h⟩
        · rw [h] at hA; cases hA
        · have h : A = A' ++ [z] := by rw [h]; simp
          rw [h] at hA
          have : z = x := by simpa using hA
          exact ⟨A', by rw [h, this]⟩
      have := chn_right A' ([x] ++ v :: B) (by simpa using hc.1)
      exact this.1
section
variable {S : Nat} {b : Rel} (ht : ∀ i j, i < S → j < S → i ≠ j → b j i = !b i j)
include ht
/-- One more is put in where the one ahead beats him and he beats the one behind. -/
theorem chn_put {v : Nat} (hv : v < S) : ∀ (P : List Nat), chn b P → (∀ x ∈ P, x < S ∧ x ≠ v) → P.Nodup → (∃ x ∈ P, b x v = true) → (∀ x, P.getLast? = some x → b x v = false) → ∃ P', chn b P' ∧ P'.Perm (v :: P) ∧ P'.head? = P.head? ∧ P'.getLast? = P.getLast?
  | [], _, _, _, ⟨x, hx, _⟩, _ => by cases hx
  | [x], _, _, _, ⟨y, hy, hb⟩, hl => by
    have : y = x := by simpa using hy
    subst this
    rw [hl y rfl] at hb
    cases hb
  | x :: x' :: P, hc, hin, hn, hex, hl => by
    by_cases hz : ∃ z ∈ x' :: P, b z v = true
    · obtain ⟨P', p1, p2, p3, p4⟩ := chn_put hv (x' :: P) hc.2 (fun y hy => hin y (by simp [hy])) (List.nodup_cons.1 hn).2 hz (fun y hy => hl y (by rw [List.getLast?_cons_cons]; exact hy))
      cases P' with
      | nil => cases p3
      | cons p P' =>
        have : p = x' := by simpa using p3
        subst this
        exact ⟨x :: p :: P', ⟨hc.1, p1⟩, (p2.cons x).trans (List.Perm.swap v x _), rfl, by rw [List.getLast?_cons_cons, p4, List.getLast?_cons_cons]⟩
    · obtain ⟨z, hzm, hzb⟩ := hex
      have hzx : z = x := by
        rcases List.mem_cons.1 hzm with e | e
        · exact e
        · exact absurd ⟨z, e, hzb⟩ hz
      subst hzx
      have hx' := hin x' (by simp)
      have hvx : b v x' = true := by
        rw [ht x' v hx'.1 hv hx'.2]
        cases hb : b x' v with
        | false => rfl
        | true => exact absurd ⟨x', by simp, hb⟩ hz
      exact ⟨z :: v :: x' :: P, ⟨hzb, hvx, hc.2⟩, List.Perm.swap v z _, rfl, by rw [List.getLast?_cons_cons, List.getLast?_cons_cons, List.getLast?_cons_cons]⟩
/-- A cycle that has not all grows. -/
theorem cyc_grow (hi : ∀ i, i < S → b i i = false) {R : Rel} (hcl : ∀ X : Nat → Prop, (∀ x y, x < S → y < S → X x → b x y = true → X y) → ∀ x y, x < S → y < S → X x → R x y = true → X y) (hst : ∀ x y, x < S → y < S → x ≠ y → R x y = true) {C : List Nat} (hc : cycP b C) (hne : C ≠ []) (hn : C.Nodup) (hin : ∀ x ∈ C, x < S) (hlt : C.length < S) : ∃ C', cycP b C' ∧ C' ≠ [] ∧ C'.Nodup ∧ (∀ x ∈ C', x < S) ∧ C.length < C'.length := by
  obtain ⟨v0, hv0, hv0C⟩ : ∃ v, v < S ∧ v ∉ C := by
    refine Classical.byContradiction fun hh => ?_
    have : ∀ z, z < S → z ∈ C := fun z hz => Classical.byContradiction fun hz2 => hh ⟨z, hz, hz2⟩
    have h1 := List.nodup_range (n := S)
    have h2 : (List.range S).length ≤ C.length := by
      have hsub : ∀ (X Y : List Nat), X.Nodup → (∀ z ∈ X, z ∈ Y) → X.length ≤ Y.length := fun X => by
        induction X with
        | nil => intro Y _ _; simp
        | cons x X ih =>
          intro Y hX hXY
          rw [List.nodup_cons] at hX
          have := ih (Y.erase x) hX.2 (fun z hz => (List.mem_erase_of_ne (fun e => hX.1 (by rw [← e]; exact hz))).2 (hXY z (by simp [hz])))
          have h3 := List.length_erase_of_mem (hXY x (by simp))
          have h4 := List.length_pos_of_mem (hXY x (by simp))
          simp
          omega
      exact hsub _ _ h1 (fun z hz => this z (List.mem_range.1 hz))
    rw [List.length_range] at h2
    omega
  by_cases hA : ∃ v, v < S ∧ v ∉ C ∧ (∃ x ∈ C, b x v = true) ∧ (∃ y ∈ C, b v y = true)
  · obtain ⟨v, hv, hvC, ⟨x, hx, hxv⟩, ⟨y, hy, hvy⟩⟩ := hA
    obtain ⟨C1, k1, k2, k3⟩ := cyc_turn hc hy
    have hin1 : ∀ z ∈ C1, z < S ∧ z ≠ v := fun z hz => ⟨hin z (k2.mem_iff.1 hz), fun e => hvC (e ▸ k2.mem_iff.1 hz)⟩
    have hn1 := k2.nodup_iff.2 hn
    cases hl : C1.getLast? with
    | none =>
      have : C1 = [] := List.getLast?_eq_none_iff.1 hl
      rw [this] at k3; cases k3
    | some z =>
      have hzC : z ∈ C1 := List.mem_of_getLast? hl
      cases hzv : b z v with
      | true =>
        refine ⟨C1 ++ [v], ⟨chn_snoc C1 k1.1 (fun u hu => by rw [hl] at hu; cases hu; exact hzv), fun u w hu hw _ => ?_⟩, by simp, ?_, ?_, by rw [List.length_append, k2.length_eq]; simp⟩
        · rw [List.getLast?_append] at hu
          have hu : v = u := by simpa using hu
          rw [List.head?_append, k3] at hw
          have hw : y = w := by simpa using hw
          rw [← hu, ← hw]
          exact hvy
        · rw [List.nodup_append]
          exact ⟨hn1, by simp, fun p hp q hq e => by
            have : q = v := by simpa using hq
            exact (hin1 p hp).2 (e.trans this)⟩
        · intro p hp
          rcases List.mem_append.1 hp with h | h
          · exact (hin1 p h).1
          · have : p = v := by simpa using h
            rw [this]; exact hv
      | false =>
        obtain ⟨P', p1, p2, p3, p4⟩ := chn_put ht hv C1 k1.1 hin1 hn1 ⟨x, k2.mem_iff.2 hx, hxv⟩ (fun u hu => by rw [hl] at hu; cases hu; exact hzv)
        refine ⟨P', ⟨p1, fun u w hu hw _ => ?_⟩, (fun e => by rw [e, k3] at p3; cases p3), p2.nodup_iff.2 (List.nodup_cons.2 ⟨fun h => (hin1 v h).2 rfl, hn1⟩), fun p hp => ?_, by rw [p2.length_eq, List.length_cons, k2.length_eq]; omega⟩
        · refine k1.2 u w (by rw [← p4]; exact hu) (by rw [← p3]; exact hw) ?_
          rcases Nat.lt_or_ge 1 C1.length with h | h
          · exact h
          · exfalso
            -- one alone: y stands first and last, v beats y, x = y
            match C1, k3, hl, h with
            | [q], k3, hl, _ =>
              have e1 : q = y := by simpa using k3
              have e2 : q = z := by simpa using hl
              have hxq : x = q := by simpa using k2.mem_iff.2 hx
              rw [hxq, e2, hzv] at hxv
              exact absurd hxv (by decide)
        · rcases List.mem_cons.1 (p2.mem_iff.1 hp) with e | e
          · rw [e]; exact hv
          · exact (hin1 p e).1
  · -- each outside beats all in it, or is beaten by all
    have hAB : ∀ v, v < S → v ∉ C → (∀ x ∈ C, b v x = true) ∨ (∀ x ∈ C, b x v = true) := fun v hv hvC => by
      refine Classical.byContradiction fun hh => hA ⟨v, hv, hvC, ?_, ?_⟩
      · refine Classical.byContradiction fun h2 => hh (.inl fun x hx => ?_)
        have hxv : b x v = false := by
          cases h : b x v with
          | false => rfl
          | true => exact absurd ⟨x, hx, h⟩ h2
        rw [ht x v (hin x hx) hv (fun e => hvC (e ▸ hx)), hxv]
        rfl
      · refine Classical.byContradiction fun h2 => hh (.inr fun x hx => ?_)
        have hvx : b v x = false := by
          cases h : b v x with
          | false => rfl
          | true => exact absurd ⟨x, hx, h⟩ h2
        rw [ht v x hv (hin x hx) (fun e => hvC (e ▸ hx)), hvx]
        rfl
    obtain ⟨c0, hc0⟩ : ∃ c0, c0 ∈ C := by
      cases C with
      | nil => exact absurd rfl hne
      | cons c C => exact ⟨c, by simp⟩
    have hc0S := hin c0 hc0
    have hno : ∀ x y, x < S → y < S → b x y = true → b y x = true → False := fun x y hx hy h1 h2 => by
      by_cases e : x = y
      · subst e
        rw [hi x hx] at h1; cases h1
      · rw [ht x y hx hy e, h1] at h2; cases h2
    have hBA : ∃ u v, u < S ∧ v < S ∧ u ∉ C ∧ v ∉ C ∧ (∀ x ∈ C, b x u = true) ∧ (∀ x ∈ C, b v x = true) ∧ b u v = true := by
      refine Classical.byContradiction fun hh => ?_
      by_cases hAe : ∃ v, v < S ∧ v ∉ C ∧ ∀ x ∈ C, b v x = true
      · obtain ⟨v, hv, hvC, hva⟩ := hAe
        have hX := hcl (fun x => x ∈ C ∨ (x < S ∧ x ∉ C ∧ ∀ z ∈ C, b z x = true)) (fun x y hx hy hxX hb => by
          by_cases hyC : y ∈ C
          · exact .inl hyC
          · right
            refine ⟨hy, hyC, ?_⟩
            rcases hAB y hy hyC with h | h
            · exfalso
              rcases hxX with hx2 | ⟨hx1, hx2, hx3⟩
              · exact hno x y hx hy hb (h x hx2)
              · exact hh ⟨x, y, hx, hy, hx2, hyC, hx3, h, hb⟩
            · exact h) c0 v hc0S hv (.inl hc0) (hst c0 v hc0S hv (fun e => hvC (e ▸ hc0)))
        rcases hX with h | ⟨_, _, h⟩
        · exact hvC h
        · exact hno v c0 hv hc0S (hva c0 hc0) (h c0 hc0)
      · have hX := hcl (fun x => x ∉ C) (fun x y hx hy hxX hb => fun hyC => by
          rcases hAB x hx hxX with h | h
          · exact hAe ⟨x, hx, hxX, h⟩
          · exact hno x y hx hy hb (h y hyC)) v0 c0 hv0 hc0S hv0C (hst v0 c0 hv0 hc0S (fun e => hv0C (e ▸ hc0)))
        exact hX hc0
    obtain ⟨u, v, hu, hv, huC, hvC, hu2, hv2, huv⟩ := hBA
    have huv2 : u ≠ v := fun e => by rw [e, hi v hv] at huv; cases huv
    refine ⟨C ++ [u, v], ⟨chn_app C [u, v] hc.1 ⟨huv, trivial⟩ (fun x y hx hy => ?_), fun x y hx hy _ => ?_⟩, by simp, ?_, ?_, by simp⟩
    · have : u = y := by simpa using hy
      rw [← this]
      exact hu2 x (List.mem_of_getLast? hx)
    · rw [List.getLast?_append] at hx
      have hx : v = x := by simpa using hx
      rw [← hx]
      cases C with
      | nil => exact absurd rfl hne
      | cons c C =>
        have hy : c = y := by simpa using hy
        rw [← hy]
        exact hv2 c (by simp)
    · rw [List.nodup_append]
      refine ⟨hn, by simp [huv2], fun p hp q hq e => ?_⟩
      rcases List.mem_cons.1 hq with h | h
      · exact huC (h ▸ e ▸ hp)
      · have : q = v := by simpa using h
        exact hvC (this ▸ e ▸ hp)
    · intro p hp
      rcases List.mem_append.1 hp with h | h
      · exact hin p h
      · rcases List.mem_cons.1 h with h | h
        · rw [h]; exact hu
        · have : p = v := by simpa using h
          rw [this]; exact hv
theorem cyc_full (hi : ∀ i, i < S → b i i = false) {R : Rel} (hcl : ∀ X : Nat → Prop, (∀ x y, x < S → y < S → X x → b x y = true → X y) → ∀ x y, x < S → y < S → X x → R x y = true → X y) (hst : ∀ x y, x < S → y < S → x ≠ y → R x y = true) (hS : 1 ≤ S) : ∀ d, d < S → ∃ C, cycP b C ∧ C ≠ [] ∧ C.Nodup ∧ (∀ x ∈ C, x < S) ∧ d < C.length ∧ C.length ≤ S
  | 0, _ => ⟨[0], ⟨trivial, fun x y _ _ h => by simp at h⟩, by simp, by simp, fun x hx => (by have h : x = 0 := (by simpa using hx); omega), by simp, by simpa using hS⟩
  | d + 1, hd => by
    obtain ⟨C, k1, k2, k3, k4, k5, k6⟩ := cyc_full hi hcl hst hS d (by omega)
    by_cases h : d + 1 < C.length
    · exact ⟨C, k1, k2, k3, k4, h, k6⟩
    · obtain ⟨C', q1, q2, q3, q4, q5⟩ := cyc_grow ht hi hcl hst k1 k2 k3 k4 (by omega)
      exact ⟨C', q1, q2, q3, q4, by omega, nodup_le S C' q3 q4⟩
end
/-- All come to all: there is a cycle of all. -/
theorem camion_yes {S : Nat} {SB : Nat → Bool} (hS : 1 ≤ S) (ht : ∀ i j, i < S → j < S → i ≠ j → SB (j * 9 + i) = !SB (i * 9 + j)) (hi : ∀ i, i < S → SB (i * 9 + i) = false) (hst : ∀ x y, x < S → y < S → slf (c1 S (fun x y => SB (x * 9 + y)) S) x y = true) : ∃ M, M ∈ comp S SB S [] ∧ clB SB M = true := by
  obtain ⟨C, k1, k2, k3, k4, k5, k6⟩ := cyc_full (b := fun x y => SB (x * 9 + y)) ht hi (R := c1 S (fun x y => SB (x * 9 + y)) S) (fun X hX => c1_closed hX S (Nat.le_refl _)) (fun x y hx hy hxy => by
    have := hst x y hx hy
    unfold slf at this
    rw [decide_eq_false hxy, Bool.or_false] at this
    exact this) hS (S - 1) (by omega)
  have hlen : C.length = S := by omega
  have hm := comp_mem (N := S) (SB := SB) C [] (by simpa using k1.1) (by simpa using k3) k4
  rw [hlen] at hm
  refine ⟨_, by simpa using hm, ?_⟩
  cases hl : C.getLast? with
  | none => exact absurd (List.getLast?_eq_none_iff.1 hl) k2
  | some x =>
    cases hh : C.head? with
    | none => exact absurd (List.head?_eq_none_iff.1 hh) k2
    | some y =>
      rw [clB_map C hl hh]
      by_cases h1 : C.length = 1
      · rw [h1]; rfl
      · have h9 : SB (x * 9 + y) = true := k1.2 x y hl hh (by have := List.length_pos_iff.2 k2; omega)
        rw [h9, Bool.or_true]
/-- Along a list of all one comes on. -/
theorem chn_reach {S : Nat} {b Q : Rel} (hb : ∀ x y, x < S → y < S → b x y = true → Q x y = true) (htr : ∀ x y z, x < S → y < S → z < S → Q x y = true → Q y z = true → Q x z = true) : ∀ (L : List Nat), chn b L → (∀ x ∈ L, x < S) → ∀ x, L.head? = some x → ∀ y ∈ L, y = x ∨ Q x y = true
  | [], _, _, x, hx, _, _ => by cases hx
  | [z], _, _, x, hx, y, hy => by
    have e1 : z = x := by simpa using hx
    have e2 : y = z := by simpa using hy
    exact .inl (e2.trans e1)
  | z :: z' :: L, hc, hin, x, hx, y, hy => by
    have e1 : z = x := by simpa using hx
    subst e1
    rcases List.mem_cons.1 hy with e | e
    · exact .inl e
    · right
      have h1 := hb z z' (hin z (by simp)) (hin z' (by simp)) hc.1
      rcases chn_reach hb htr (z' :: L) hc.2 (fun u hu => hin u (by simp [hu])) z' rfl y e with h | h
      · rw [h]; exact h1
      · exact htr z z' y (hin z (by simp)) (hin z' (by simp)) (hin y hy) h1 h
theorem chn_to_last {S : Nat} {b Q : Rel} (hb : ∀ x y, x < S → y < S → b x y = true → Q x y = true) (htr : ∀ x y z, x < S → y < S → z < S → Q x y = true → Q y z = true → Q x z = true) : ∀ (L : List Nat), chn b L → (∀ x ∈ L, x < S) → ∀ x, L.getLast? = some x → ∀ y ∈ L, y = x ∨ Q y x = true
  | [], _, _, x, hx, _, _ => by cases hx
  | [z], _, _, x, hx, y, hy => by
    have e1 : z = x := by simpa using hx
    have e2 : y = z := by simpa using hy
    exact .inl (e2.trans e1)
  | z :: z' :: L, hc, hin, x, hx, y, hy => by
    rw [List.getLast?_cons_cons] at hx
    have hin' : ∀ u ∈ z' :: L, u < S := fun u hu => hin u (by simp [hu])
    rcases List.mem_cons.1 hy with e | e
    · right
      subst e
      have h1 := hb y z' (hin y (by simp)) (hin z' (by simp)) hc.1
      rcases chn_to_last hb htr (z' :: L) hc.2 hin' x hx z' (by simp) with h | h
      · rw [← h]; exact h1
      · exact htr y z' x (hin y (by simp)) (hin z' (by simp)) (hin' x (List.mem_of_getLast? hx)) h1 h
    · exact chn_to_last hb htr (z' :: L) hc.2 hin' x hx y e
/-- How many parts there are. -/
theorem parts_one {S : Nat} {R : Rel} (hS : 1 ≤ S) (htr : ∀ x y z, x < S → y < S → z < S → slf R x y = true → slf R y z = true → slf R x z = true) : ((∀ x y, x < S → y < S → slf R x y = true) → (srtL R S).length = 1) ∧ (¬ (∀ x y, x < S → y < S → slf R x y = true) → 1 < (srtL R S).length) := by
  have hl : (srtL R S).length = (ptL R S S).length := by unfold srtL; rw [insI_len]
  rw [hl]
  constructor
  · intro hall
    have hone : ∀ m ∈ ptL R S S, m = clP (slf R) 0 S := fun m hm => by
      obtain ⟨a, ha, ra, rfl⟩ := (ptL_mem2 S m).1 hm
      by_cases e : a = 0
      · rw [e]
      · exact absurd ⟨hall a 0 ha (by omega), hall 0 a (by omega) ha⟩ (rep_apart htr ha (by omega) ra (clP_head hS) e)
    have hpos := ptL_pos (R := R) hS S hS
    have hnd := ptL_nodup (R := R) (S := S) S
    match hp : ptL R S S with
    | [] => rw [hp] at hpos; simp at hpos
    | [x] => rfl
    | x :: y :: L =>
      rw [hp] at hone hnd
      have e1 := hone x (by simp)
      have e2 := hone y (by simp)
      rw [List.nodup_cons] at hnd
      exact absurd (by rw [e1, e2]; simp) hnd.1
  · intro hno
    obtain ⟨x, y, hx, hy, hxy⟩ : ∃ x y, x < S ∧ y < S ∧ ¬ slf R x y = true := by
      refine Classical.byContradiction fun hh => hno fun x y hx hy => ?_
      refine Classical.byContradiction fun h2 => hh ⟨x, y, hx, hy, h2⟩
    -- each one's first
    have hfirst : ∀ x, x < S → ∃ a, a < S ∧ repB (slf R) S a = true ∧ slf R x a = true ∧ slf R a x = true := fun x hx => by
      have hpos := clP_pos (T := slf R) hx (by simp [slf])
      obtain ⟨z, hz⟩ : ∃ z, (clP (slf R) x S).head? = some z := by
        cases h : clP (slf R) x S with
        | nil => rw [h] at hpos; simp at hpos
        | cons z L => exact ⟨z, rfl⟩
      have hzm : z ∈ clP (slf R) x S := List.mem_of_head? hz
      obtain ⟨a, ha, rfl⟩ := List.mem_map.1 hzm
      rw [List.mem_filter, Bool.and_eq_true] at ha
      have haS := List.mem_range.1 ha.1
      refine ⟨a, haS, ?_, ha.2.1, ha.2.2⟩
      unfold repB
      rw [clP_same htr haS hx ha.2.2 ha.2.1, List.getD_eq_getElem?_getD, ← List.head?_eq_getElem?, hz]
      simp
    obtain ⟨a, ha, ra, a1, a2⟩ := hfirst x hx
    obtain ⟨c, hc, rc, c1, c2⟩ := hfirst y hy
    have hac : a ≠ c := fun e => by
      subst e
      exact hxy (htr x a y hx ha hy a1 c2)
    have h1 : clP (slf R) a S ∈ ptL R S S := (ptL_mem2 S _).2 ⟨a, ha, ra, rfl⟩
    have h2 : clP (slf R) c S ∈ ptL R S S := (ptL_mem2 S _).2 ⟨c, hc, rc, rfl⟩
    have hne : clP (slf R) a S ≠ clP (slf R) c S := fun e => hac (by rw [← kfL_rep ra, e, kfL_rep rc])
    match hp : ptL R S S with
    | [] => rw [hp] at h1; cases h1
    | [q] =>
      rw [hp, List.mem_singleton] at h1 h2
      exact absurd (h1.trans h2.symm) hne
    | q :: q' :: L => simp
/-- A cycle of all: all come to all. -/
theorem camion_no {S : Nat} {l : List Int} (hS9 : S ≤ 9) (h0 : l.any off01 = false) (hB : tB S l = false) {M : List Int} (hM : M ∈ comp S (beB S l (S * S)) S []) (hc : clB (beB S l (S * S)) M = true) : ∀ x y, x < S → y < S → slf (c1 S (b0R S l) S) x y = true := by
  obtain ⟨_, htr, _⟩ := tour_closed hS9 h0 hB
  obtain ⟨Q, rfl, q2, q3, q4, q5⟩ := comp_sound (N := S) (SB := beB S l (S * S)) S [] trivial (by simp) (fun z hz => by cases hz) M hM
  rw [List.length_nil, Nat.zero_add] at q5
  have hbb : ∀ x y, x < S → y < S → (fun i j => beB S l (S * S) (i * 9 + j)) x y = true → slf (c1 S (b0R S l) S) x y = true := fun x y hx hy h => by
    unfold slf
    rw [c1_mono (b0R S l) hx hy h S]
    rfl
  intro x y hx hy
  have hxm := nodup_full q3 q4 q5 hx
  have hym := nodup_full q3 q4 q5 hy
  have hrefl : ∀ z, slf (c1 S (b0R S l) S) z z = true := fun z => by simp [slf]
  cases hl : Q.getLast? with
  | none => rw [List.getLast?_eq_none_iff.1 hl] at hxm; cases hxm
  | some e =>
    cases hh : Q.head? with
    | none => rw [List.head?_eq_none_iff.1 hh] at hxm; cases hxm
    | some s =>
      have heS := q4 e (List.mem_of_getLast? hl)
      have hsS := q4 s (List.mem_of_head? hh)
      have h1 : slf (c1 S (b0R S l) S) x e = true := by
        rcases chn_to_last hbb htr Q q2 q4 e hl x hxm with h | h
        · rw [h]; exact hrefl e
        · exact h
      have h2 : slf (c1 S (b0R S l) S) s y = true := by
        rcases chn_reach hbb htr Q q2 q4 s hh y hym with h | h
        · rw [h]; exact hrefl s
        · exact h
      have h3 : slf (c1 S (b0R S l) S) e s = true := by
        rw [clB_map Q hl hh, Bool.or_eq_true, beq_iff_eq] at hc
        rcases hc with h | h
        · match Q, h, hl, hh with
          | [q], _, hl, hh =>
            have e1 : q = e := by simpa using hl
            have e2 : q = s := by simpa using hh
            rw [← e1, ← e2]
            exact hrefl q
        · exact hbb e s heS hsS h
      exact htr x e y hx heS hy h1 (htr e s y heS hsS hy h3 h2)
end Go.Proofs.Ythbpdfkaacgpoaa
