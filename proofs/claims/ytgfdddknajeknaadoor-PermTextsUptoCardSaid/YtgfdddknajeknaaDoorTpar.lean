/-
  Texts of permutations read again, plain: what the two readers do, and that what was written is read. No program in sight.
-/
import Derived.Test.YtgfdddknajeknaaDoorTxp
namespace Go.Proofs.YtgfdddknajeknaaDoor
set_option linter.unusedVariables false
open Go

/-- A text read cycle by cycle: st reads one cycle, and hands on the list and what is left. -/
inductive PR (st : List Nat → List UInt8 → Option (List Nat × List UInt8) → Prop) : List UInt8 → List Nat → Option (List Nat) → Prop
  | done (out : List Nat) : PR st [] out (some out)
  | bad {T : List UInt8} {out : List Nat} (h : T ≠ []) (hs : st out T none) : PR st T out none
  | go {T T' : List UInt8} {out out' : List Nat} {r : Option (List Nat)} (h : T ≠ []) (hs : st out T (some (out', T'))) (ht : PR st T' out' r) : PR st T out r
theorem PR.uniq {st : List Nat → List UInt8 → Option (List Nat × List UInt8) → Prop} (hd : ∀ o T a b, st o T a → st o T b → a = b) : ∀ {T : List UInt8} {out : List Nat} {r : Option (List Nat)}, PR st T out r → ∀ {s : Option (List Nat)}, PR st T out s → r = s := by
  intro T out r h
  induction h with
  | done out => intro s hs; cases hs with
    | done => rfl
    | bad h _ => exact absurd rfl h
    | go h _ _ => exact absurd rfl h
  | bad h hb => intro s hs; cases hs with
    | done => exact absurd rfl h
    | bad _ _ => rfl
    | go _ h1 _ => cases hd _ _ _ _ hb h1
  | go h h1 _ ih => intro s hs; cases hs with
    | done => exact absurd rfl h
    | bad _ h2 => cases hd _ _ _ _ h1 h2
    | go _ h2 h3 =>
      have e := hd _ _ _ _ h1 h2
      simp only [Option.some.injEq, Prod.mk.injEq] at e
      obtain ⟨e1, e2⟩ := e
      subst e1; subst e2
      exact ih h3

/-- The words of a cycle, read. -/
def rdW (n : Nat) (out : List Nat) : List (List UInt8) → List Nat → Option (List Nat)
  | [], l => some l
  | w :: ws, l => match Lib.atoiAll w with
    | .ok k => if 0 ≤ k ∧ k < (n : Int) ∧ out.getD k.toNat 0 = k.toNat ∧ k.toNat ∉ l then rdW n out ws (l ++ [k.toNat]) else none
    | _ => none
/-- Each point of a cycle goes to the next one: the first t of them. -/
def asg (l : List Nat) : Nat → List Nat → List Nat
  | 0, out => out
  | t + 1, out => (asg l t out).set (l.getD t 0) (l.getD ((t + 1) % l.length) 0)
theorem asg_len (l : List Nat) : ∀ t out, (asg l t out).length = out.length
  | 0, _ => rfl
  | t + 1, out => by
    show ((asg l t out).set _ _).length = _
    rw [List.length_set, asg_len l t out]
/-- One cycle as the program reads it. -/
def stepP (n : Nat) (out : List Nat) (T : List UInt8) : Option (List Nat × List UInt8) :=
  if (Lib.cut T [41]).2.2 = true ∧ Lib.hasPrefix (Lib.cut T [41]).1 [40] = true then
    (rdW n out (Lib.splitK [32] 0 (Lib.count (Lib.trimPrefix (Lib.cut T [41]).1 [40]) [32]) (Lib.trimPrefix (Lib.cut T [41]).1 [40])) []).map fun l => (asg l l.length out, (Lib.cut T [41]).2.1)
  else none

theorem rdW_num (n : Nat) (hn : n ≤ 12) (out : List Nat) : ∀ (c l : List Nat), (∀ x ∈ c, x < n ∧ out.getD x 0 = x) → (l ++ c).Nodup → rdW n out (c.map Lib.decDigits) l = some (l ++ c)
  | [], l, _, _ => by rw [List.append_nil]; rfl
  | x :: c, l, h, hd => by
    obtain ⟨h1, h2⟩ := h x (by simp)
    have hx : x ∉ l := fun hm => by
      have := List.nodup_append.1 hd
      exact this.2.2 x hm x (by simp) rfl
    have ih := rdW_num n hn out c (l ++ [x]) (fun y hy => h y (by simp [hy])) (by simpa using hd)
    show (match Lib.atoiAll (Lib.decDigits x) with
      | .ok k => if 0 ≤ k ∧ k < (n : Int) ∧ out.getD k.toNat 0 = k.toNat ∧ k.toNat ∉ l then rdW n out (c.map Lib.decDigits) (l ++ [k.toNat]) else none
      | _ => none) = _
    rw [num_atoi x (by omega)]
    simp only [Int.toNat_natCast]
    rw [if_pos ⟨by omega, by omega, h2, hx⟩, ih, List.append_assoc]
    rfl
theorem stepP_cyc {n : Nat} (hn : n ≤ 12) {out c : List Nat} {R : List UInt8} (h : ∀ x ∈ c, x < n ∧ out.getD x 0 = x) (hd : c.Nodup) (hne : c ≠ []) : stepP n out (cycT c ++ R) = some (asg c c.length out, R) := by
  have h100 : ∀ x ∈ c, x < 100 := fun x hx => by have := (h x hx).1; omega
  have e1 : cycT c ++ R = (40 :: inT c) ++ 41 :: R := by simp [cycT]
  have hc : Lib.cut (cycT c ++ R) [41] = (40 :: inT c, R, true) := by
    rw [e1]
    refine cut_at fun hm => ?_
    rcases List.mem_cons.1 hm with e | hm
    · exact absurd e (by decide)
    · exact in_no h100 (by decide) (by decide) hm
  have hp : Lib.hasPrefix (40 :: inT c) [40] = true := by simp [Lib.hasPrefix]
  have ht : Lib.trimPrefix (40 :: inT c) [40] = inT c := by
    unfold Lib.trimPrefix
    rw [hp]
    rfl
  have hs := split_join (c := 32) (c.map Lib.decDigits) (by simpa using hne) fun w hw => by
    obtain ⟨x, hx, rfl⟩ := List.mem_map.1 hw
    exact num_no (h100 x hx) (by decide)
  have hcnt : Lib.count (inT c) [32] = (c.map Lib.decDigits).length - 1 := by
    rw [Lib.count_one]
    exact hs.2
  unfold stepP
  rw [hc]
  simp only
  rw [if_pos ⟨trivial, hp⟩, ht, hcnt]
  have h3 : Lib.splitK [32] 0 ((c.map Lib.decDigits).length - 1) (inT c) = c.map Lib.decDigits := hs.1
  rw [h3, rdW_num n hn out c [] h (by simpa using hd)]
  rfl

theorem asg_get (f : Nat → Nat) (l out : List Nat) (hnx : ∀ t, t < l.length → l.getD ((t + 1) % l.length) 0 = f (l.getD t 0)) (hlt : ∀ x ∈ l, x < out.length) : ∀ t, t ≤ l.length → ∀ x, (asg l t out).getD x 0 = if x ∈ l.take t then f x else out.getD x 0
  | 0, _, x => by simp [asg]
  | t + 1, ht, x => by
    have ih := asg_get f l out hnx hlt t (by omega) x
    show ((asg l t out).set (l.getD t 0) _).getD x 0 = _
    rw [hnx t (by omega)]
    have ht' : t < l.length := by omega
    have hg : l.getD t 0 = l[t] := by simp [ht']
    have htk : l.take (t + 1) = l.take t ++ [l.getD t 0] := by
      rw [List.take_add_one, hg]
      simp [ht']
    rw [htk]
    by_cases e : l.getD t 0 = x
    · subst e
      have hl : l.getD t 0 < (asg l t out).length := by
        rw [asg_len]
        exact hlt _ (by rw [hg]; exact List.getElem_mem _)
      rw [if_pos (by simp), List.getD_eq_getElem?_getD, List.getElem?_set_self hl]
      rfl
    · rw [List.getD_eq_getElem?_getD, List.getElem?_set_ne e, ← List.getD_eq_getElem?_getD, ih]
      have hm : x ∈ l.take t ++ [l.getD t 0] ↔ x ∈ l.take t := by
        rw [List.mem_append, List.mem_singleton]
        exact ⟨fun h => h.resolve_right fun h => e h.symm, .inl⟩
      by_cases hx : x ∈ l.take t
      · rw [if_pos hx, if_pos (hm.2 hx)]
      · rw [if_neg hx, if_neg fun h => hx (hm.1 h)]

/-- What cycles are read to, from the points that stay. -/
theorem PR_cycles {n : Nat} {f : Nat → Nat} {st : List Nat → List UInt8 → Option (List Nat × List UInt8) → Prop} (hst : ∀ (out c : List Nat) (R : List UInt8), (∀ x ∈ c, x < n ∧ out.getD x 0 = x) → out.length = n → c.Nodup → c ≠ [] → st out (cycT c ++ R) (some (asg c c.length out, R))) :
    ∀ (cs : List (List Nat)) (out : List Nat), (∀ c ∈ cs, ∀ x ∈ c, x < n) → cs.flatten.Nodup → (∀ c ∈ cs, 2 ≤ c.length) → (∀ c ∈ cs, ∀ t, t < c.length → c.getD ((t + 1) % c.length) 0 = f (c.getD t 0)) → out.length = n → (∀ x ∈ cs.flatten, out.getD x 0 = x) → ∃ o, PR st (bodyT cs) out (some o) ∧ o.length = n ∧ ∀ x, o.getD x 0 = if x ∈ cs.flatten then f x else out.getD x 0
  | [], out, _, _, _, _, hl, _ => ⟨out, .done out, hl, fun x => by simp⟩
  | c :: cs, out, h1, h2, h3, h4, hl, h5 => by
    rw [List.flatten_cons] at h2 h5
    obtain ⟨n1, n2, n3⟩ := List.nodup_append.1 h2
    have hc1 := h1 c (by simp)
    have hl3 := h3 c (by simp)
    have hne : c ≠ [] := by rintro rfl; simp at hl3
    have hag := asg_get f c out (h4 c (by simp)) (fun x hx => by rw [hl]; exact hc1 x hx) c.length (Nat.le_refl _)
    rw [List.take_length] at hag
    obtain ⟨o, p1, p2, p3⟩ := PR_cycles hst cs (asg c c.length out) (fun d hd => h1 d (by simp [hd])) n2 (fun d hd => h3 d (by simp [hd])) (fun d hd => h4 d (by simp [hd])) (by rw [asg_len, hl]) (fun x hx => by
      rw [hag x, if_neg (fun hm => n3 x hm x hx rfl)]
      exact h5 x (List.mem_append.2 (.inr hx)))
    refine ⟨o, ?_, p2, fun x => ?_⟩
    · rw [bodyT_cons]
      exact .go (by simp [cycT]) (hst out c _ (fun x hx => ⟨hc1 x hx, h5 x (List.mem_append.2 (.inl hx))⟩) hl n1 hne) p1
    · rw [p3 x, hag x, List.flatten_cons]
      by_cases hx : x ∈ cs.flatten
      · rw [if_pos hx, if_pos (List.mem_append.2 (.inr hx))]
      · rw [if_neg hx]
        by_cases hy : x ∈ c
        · rw [if_pos hy, if_pos (List.mem_append.2 (.inl hy))]
        · rw [if_neg hy, if_neg (fun h => (List.mem_append.1 h).elim hy hx)]
/-- A whole text read: '()' leaves all as it was. -/
def PRT (st : List Nat → List UInt8 → Option (List Nat × List UInt8) → Prop) (n : Nat) (T : List UInt8) (r : Option (List Nat)) : Prop :=
  if T = [40, 41] then r = some (List.range n) else PR st T (List.range n) r
theorem PRT.uniq {st : List Nat → List UInt8 → Option (List Nat × List UInt8) → Prop} (hd : ∀ o T a b, st o T a → st o T b → a = b) {n : Nat} {T : List UInt8} {r s : Option (List Nat)} (h : PRT st n T r) (g : PRT st n T s) : r = s := by
  unfold PRT at h g
  by_cases e : T = [40, 41]
  · rw [if_pos e] at h g
    rw [h, g]
  · rw [if_neg e] at h g
    exact h.uniq hd g
theorem PRT_wr {n : Nat} {f : Nat → Nat} {st : List Nat → List UInt8 → Option (List Nat × List UInt8) → Prop} (P : Pm n f) (hn : n ≤ 12) (hst : ∀ (out c : List Nat) (R : List UInt8), (∀ x ∈ c, x < n ∧ out.getD x 0 = x) → out.length = n → c.Nodup → c ≠ [] → st out (cycT c ++ R) (some (asg c c.length out, R))) : PRT st n (wrT f n) (some ((List.range n).map f)) := by
  have H := longs_cs P
  unfold PRT wrT allT
  have hidr : ∀ x, x < n → (List.range n).getD x 0 = x := fun x hx => by simp [hx]
  by_cases hb : bodyT (longs f n n) = []
  · rw [if_pos hb, if_pos rfl]
    have hnil : longs f n n = [] := by
      apply Classical.byContradiction
      intro hne
      exact bodyT_ne hne hb
    congr 1
    refine List.ext_getElem (by simp) fun i h1 h2 => ?_
    simp only [List.getElem_range, List.getElem_map]
    rw [H.fix i (by simpa using h1) (by rw [hnil]; simp)]
  · rw [if_neg hb]
    have hne2 : bodyT (longs f n n) ≠ [40, 41] := by
      intro e
      cases hl : longs f n n with
      | nil => rw [hl] at e; simp [bodyT] at e
      | cons c cs =>
        rw [hl] at e
        have h2 := H.len c (by rw [hl]; simp)
        have h12 := H.lt c (by rw [hl]; simp)
        rw [bodyT_cons] at e
        have h3 : inT c ≠ [] := by
          unfold inT
          cases c with
          | nil => simp at h2
          | cons x r =>
            rw [List.map_cons, Lib.join_cons]
            have h4 := h12 x (by simp)
            have h5 := (num_fact x (by omega)).2.1
            intro e0
            have e1 := congrArg List.length e0
            rw [List.length_append] at e1
            simp only [List.length_nil] at e1
            omega
        cases hi : inT c with
        | nil => exact h3 hi
        | cons b r =>
          unfold cycT at e
          rw [hi] at e
          have := congrArg List.length e
          simp at this
    rw [if_neg hne2]
    obtain ⟨o, p1, p2, p3⟩ := PR_cycles hst (f := f) (longs f n n) (List.range n) H.lt H.nd H.len H.nx (by simp) (fun x hx => hidr x (by
      rw [List.mem_flatten] at hx
      obtain ⟨c, hc, hx⟩ := hx
      exact H.lt c hc x hx))
    have eo : o = (List.range n).map f := by
      refine List.ext_getElem (by simp [p2]) fun i h1 h2 => ?_
      have hi : i < n := by rw [← p2]; exact h1
      have h4 := p3 i
      rw [List.getD_eq_getElem?_getD, List.getElem?_eq_getElem h1, Option.getD_some] at h4
      rw [h4]
      simp only [List.getElem_map, List.getElem_range]
      by_cases hm : i ∈ (longs f n n).flatten
      · rw [if_pos hm]
      · rw [if_neg hm, hidr i hi, H.fix i hi hm]
    rw [← eo]
    exact p1

/-- Up to k digits, read. -/
def dgs : Nat → Nat → List UInt8 → Nat × List UInt8
  | 0, x, T => (x, T)
  | _ + 1, x, [] => (x, [])
  | k + 1, x, b :: T => if 48 ≤ b.toNat ∧ b.toNat ≤ 57 then dgs k (x * 10 + (b.toNat - 48)) T else (x, b :: T)
/-- One number and what stands behind it (true: a cycle's end). -/
def numS (n : Nat) (T : List UInt8) : Option (Nat × Bool × List UInt8) :=
  if (dgs 3 0 T).2.length = T.length ∨ n ≤ (dgs 3 0 T).1 then none else
    match (dgs 3 0 T).2 with
    | [] => none
    | b :: R => if b = 41 then some ((dgs 3 0 T).1, true, R) else if b = 32 then some ((dgs 3 0 T).1, false, R) else none
inductive RN (n : Nat) : List UInt8 → List Nat → Option (List Nat × List UInt8) → Prop
  | bad {T l} (h : numS n T = none) : RN n T l none
  | last {T l x R} (h : numS n T = some (x, true, R)) : RN n T l (some (l ++ [x], R))
  | more {T l x R r} (h : numS n T = some (x, false, R)) (ht : RN n R (l ++ [x]) r) : RN n T l r
theorem RN.uniq {n : Nat} : ∀ {T l r}, RN n T l r → ∀ {s}, RN n T l s → r = s := by
  intro T l r h
  induction h with
  | bad h => intro s hs; cases hs with
    | bad _ => rfl
    | last h2 => rw [h] at h2; cases h2
    | more h2 _ => rw [h] at h2; cases h2
  | last h => intro s hs; cases hs with
    | bad h2 => rw [h] at h2; cases h2
    | last h2 => rw [h] at h2; cases h2; rfl
    | more h2 _ => rw [h] at h2; cases h2
  | more h _ ih => intro s hs; cases hs with
    | bad h2 => rw [h] at h2; cases h2
    | last h2 => rw [h] at h2; cases h2
    | more h2 h3 => rw [h] at h2; cases h2; exact ih h3
/-- One cycle as the document reads it. -/
inductive stepR (n : Nat) : List Nat → List UInt8 → Option (List Nat × List UInt8) → Prop
  | off {out T} (h : T.head? ≠ some 40) : stepR n out T none
  | bad {out T} (h : RN n T [] none) : stepR n out (40 :: T) none
  | ok {out T l R} (h : RN n T [] (some (l, R))) : stepR n out (40 :: T) (some (asg l l.length out, R))
theorem stepR.uniq {n : Nat} (o : List Nat) (T : List UInt8) (a b : Option (List Nat × List UInt8)) (h : stepR n o T a) (g : stepR n o T b) : a = b := by
  cases h with
  | off h => cases g with
    | off _ => rfl
    | bad _ => exact absurd rfl h
    | ok _ => exact absurd rfl h
  | bad h => cases g with
    | off h => exact absurd rfl h
    | bad _ => rfl
    | ok h2 => have := h.uniq h2; cases this
  | ok h => cases g with
    | off h => exact absurd rfl h
    | bad h2 => have := h.uniq h2; cases this
    | ok h2 => have := h.uniq h2; cases this; rfl
theorem dgs_num : ∀ k, k < 12 → ∀ (b : UInt8) (R : List UInt8), b.toNat < 48 → dgs 3 0 (Lib.decDigits k ++ b :: R) = (k, b :: R) := by
  intro k hk b R hb
  have hn : ¬ (48 ≤ b.toNat ∧ b.toNat ≤ 57) := by omega
  have h : k = 0 ∨ k = 1 ∨ k = 2 ∨ k = 3 ∨ k = 4 ∨ k = 5 ∨ k = 6 ∨ k = 7 ∨ k = 8 ∨ k = 9 ∨ k = 10 ∨ k = 11 := by omega
  rcases h with rfl | rfl | rfl | rfl | rfl | rfl | rfl | rfl | rfl | rfl | rfl | rfl
  all_goals first
    | (rw [Lib.decDigits_one (by omega)]; simp [dgs, hn])
    | (rw [Lib.decDigits_two (by omega) (by omega)]; simp [dgs, hn])
theorem numS_num {n k : Nat} (hk : k < n) (hn : n ≤ 12) {b : UInt8} {R : List UInt8} (hb : b = 41 ∨ b = 32) : numS n (Lib.decDigits k ++ b :: R) = some (k, decide (b = 41), R) := by
  have h1 := (num_fact k (by omega)).2.1
  have hd := dgs_num k (by omega) b R (by rcases hb with rfl | rfl <;> decide)
  unfold numS
  rw [hd]
  simp only
  rw [if_neg (by
    rintro (e | e)
    · rw [List.length_append] at e; omega
    · omega)]
  rcases hb with rfl | rfl
  · simp
  · simp
theorem RN_in {n : Nat} (hn : n ≤ 12) (R : List UInt8) : ∀ (c : List Nat), c ≠ [] → (∀ x ∈ c, x < n) → ∀ l, RN n (inT c ++ 41 :: R) l (some (l ++ c, R))
  | [], h, _, _ => absurd rfl h
  | [x], _, h, l => by
    have e : inT [x] ++ 41 :: R = Lib.decDigits x ++ 41 :: R := by
      unfold inT
      rw [List.map_cons, List.map_nil, Lib.join_one]
    rw [e]
    exact .last (numS_num (h x (by simp)) hn (.inl rfl))
  | x :: y :: c, _, h, l => by
    have e : inT (x :: y :: c) ++ 41 :: R = Lib.decDigits x ++ 32 :: (inT (y :: c) ++ 41 :: R) := by
      unfold inT
      rw [List.map_cons, List.map_cons, Lib.join_cons, Lib.join_cons]
      unfold Lib.joinTail
      simp
    rw [e]
    have ih := RN_in hn R (y :: c) (by simp) (fun z hz => h z (List.mem_cons_of_mem _ hz)) (l ++ [x])
    rw [List.append_assoc] at ih
    exact .more (numS_num (h x (by simp)) hn (.inr rfl)) ih
/-- What is written tells which permutation it was. -/
theorem wr_inj {n : Nat} (hn : n ≤ 12) {f g : Nat → Nat} (P : Pm n f) (Q : Pm n g) (h : wrT f n = wrT g n) : (List.range n).map f = (List.range n).map g := by
  have h1 := PRT_wr (st := fun o T r => stepP n o T = r) P hn fun out c R h _ hd hne => stepP_cyc hn h hd hne
  have h2 := PRT_wr (st := fun o T r => stepP n o T = r) Q hn fun out c R h _ hd hne => stepP_cyc hn h hd hne
  rw [h] at h1
  have := PRT.uniq (fun o T a b h1 h2 => by rw [← h1, ← h2]) h1 h2
  simpa using this
theorem stepR_cyc {n : Nat} (hn : n ≤ 12) {out c : List Nat} {R : List UInt8} (h : ∀ x ∈ c, x < n) (hne : c ≠ []) : stepR n out (cycT c ++ R) (some (asg c c.length out, R)) := by
  have e : cycT c ++ R = 40 :: (inT c ++ 41 :: R) := by simp [cycT]
  rw [e]
  exact .ok (RN_in hn R c hne h [])
end Go.Proofs.YtgfdddknajeknaaDoor
