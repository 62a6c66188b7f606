/-
  Plain laws of words: the order of the dictionary, Lyndon words, Duval's steps, Chen, Fox and Lyndon's factors. No program in sight, no condition.
-/
namespace Go.Proofs.Ytiohfgofoklncaa.Lex

/-- The order of the dictionary. -/
def ahead : List Int → List Int → Bool
  | [], [] => false
  | [], _ :: _ => true
  | _ :: _, [] => false
  | x :: l, y :: m => if x = y then ahead l m else decide (x < y)

theorem ahead_irrefl : ∀ l, ahead l l = false
  | [] => rfl
  | x :: l => by simp [ahead, ahead_irrefl l]

theorem ahead_trans : ∀ {a b c : List Int}, ahead a b = true → ahead b c = true → ahead a c = true
  | [], [], _, h, _ => by simp [ahead] at h
  | [], _ :: _, [], _, h => by simp [ahead] at h
  | [], _ :: _, _ :: _, _, _ => rfl
  | _ :: _, [], _, h, _ => by simp [ahead] at h
  | _ :: _, _ :: _, [], _, h => by simp [ahead] at h
  | x :: a, y :: b, z :: c, h, k => by
    simp only [ahead] at h k ⊢
    by_cases e1 : x = y
    · by_cases e2 : y = z
      · rw [if_pos e1] at h; rw [if_pos e2] at k; rw [if_pos (e1.trans e2)]; exact ahead_trans h k
      · rw [if_neg e2] at k; rw [if_neg (by omega)]; rw [e1]; exact k
    · rw [if_neg e1] at h
      have h' : x < y := by simpa using h
      by_cases e2 : y = z
      · rw [if_neg (by omega)]; subst e2; exact h
      · rw [if_neg e2] at k
        have k' : y < z := by simpa using k
        rw [if_neg (by omega)]; simp; omega

theorem ahead_pre (p l m : List Int) : ahead (p ++ l) (p ++ m) = ahead l m := by
  induction p with
  | nil => rfl
  | cons x p ih => simp [ahead, ih]

theorem ahead_asymm {a b : List Int} (h : ahead a b = true) : ahead b a = false := by
  cases h2 : ahead b a with
  | false => rfl
  | true => have := ahead_trans h h2; rw [ahead_irrefl] at this; exact this.symm

/-- What goes on is not ahead of its beginning. -/
theorem ahead_app (l m : List Int) : ahead (l ++ m) l = false := by
  have := ahead_pre l m []
  simp at this
  rw [this]
  cases m <;> rfl
theorem app_ahead (l m : List Int) (h : m ≠ []) : ahead l (l ++ m) = true := by
  have := ahead_pre l [] m
  simp at this
  rw [this]
  cases m with
  | nil => exact absurd rfl h
  | cons x m => rfl
theorem ahead_at (p x y : List Int) {a b : Int} (h : a < b) : ahead (p ++ a :: x) (p ++ b :: y) = true := by
  rw [ahead_pre]
  simp only [ahead]
  rw [if_neg (by omega)]
  simpa using h
theorem ahead_total {a b : List Int} (h : a ≠ b) : ahead a b = true ∨ ahead b a = true := by
  induction a generalizing b with
  | nil => cases b with
    | nil => exact absurd rfl h
    | cons => exact .inl rfl
  | cons x a ih => cases b with
    | nil => exact .inr rfl
    | cons y b =>
      simp only [ahead]
      by_cases e : x = y
      · subst e
        simp only [if_true]
        exact ih (fun e => h (by rw [e]))
      · rw [if_neg e, if_neg (fun h => e h.symm)]
        simp; omega

/-- A Lyndon word: ahead of each of its true ends. -/
def Lyn (w : List Int) : Prop := w ≠ [] ∧ ∀ p s, w = p ++ s → p ≠ [] → s ≠ [] → ahead w s = true

theorem lyn_one (x : Int) : Lyn [x] := by
  refine ⟨by simp, fun p s h hp hs => ?_⟩
  cases p with
  | nil => exact absurd rfl hp
  | cons y p => cases s with
    | nil => exact absurd rfl hs
    | cons z s => simp at h

/-- The same list again and again. -/
def rep (u : List Int) : Nat → List Int
  | 0 => []
  | n + 1 => u ++ rep u n
theorem rep_add (u : List Int) (m n : Nat) : rep u (m + n) = rep u m ++ rep u n := by
  induction m with
  | zero => simp [rep]
  | succ m ih => rw [Nat.succ_add]; simp [rep, ih]
theorem rep_len (u : List Int) (n : Nat) : (rep u n).length = n * u.length := by
  induction n with
  | zero => simp [rep]
  | succ n ih => simp [rep, ih, Nat.succ_mul]; omega
theorem rep_snoc (u : List Int) (n : Nat) : rep u (n + 1) = rep u n ++ u := by
  rw [rep_add]; simp [rep]
theorem flatten_replicate (u : List Int) (n : Nat) : (List.replicate n u).flatten = rep u n := by
  induction n with
  | zero => rfl
  | succ n ih => simp [List.replicate_succ, rep, ih]

theorem ahead_raise : ∀ {x y z W : List Int} {b c : Int}, ahead x (y ++ b :: z) = true → b < c → y.length < x.length → ahead (x ++ W) (y ++ [c]) = true
  | [], y, _, _, _, _, _, _, h => by simp at h
  | x0 :: xs, [], z, W, b, c, h, hbc, _ => by
    simp only [List.nil_append, ahead, List.cons_append] at h ⊢
    by_cases e : x0 = b
    · rw [if_neg (by omega)]; simp; omega
    · rw [if_neg e] at h
      have : x0 < b := by simpa using h
      rw [if_neg (by omega)]; simp; omega
  | x0 :: xs, y0 :: ys, z, W, b, c, h, hbc, hl => by
    simp only [List.cons_append, ahead] at h ⊢
    by_cases e : x0 = y0
    · rw [if_pos e] at h ⊢
      exact ahead_raise h hbc (by simp at hl; exact hl)
    · rw [if_neg e] at h ⊢
      exact h
theorem ahead_more : ∀ {u x W R : List Int}, ahead u x = true → x.length ≤ u.length → ahead (u ++ W) (x ++ R) = true
  | [], x, _, _, h, hl => by
    have : x = [] := List.eq_nil_of_length_eq_zero (by simpa using hl)
    subst this
    simp [ahead] at h
  | u0 :: us, [], _, _, h, _ => by simp [ahead] at h
  | u0 :: us, x0 :: xs, W, R, h, hl => by
    simp only [List.cons_append, ahead] at h ⊢
    by_cases e : u0 = x0
    · rw [if_pos e] at h ⊢
      exact ahead_more h (by simpa using hl)
    · rw [if_neg e] at h ⊢
      exact h

/-- Two ways to part one list. -/
theorem parts {a b p s : List Int} (h : a ++ b = p ++ s) : (∃ x, a = p ++ x ∧ s = x ++ b) ∨ (∃ p', p = a ++ p' ∧ b = p' ++ s) := by
  rcases List.append_eq_append_iff.1 h with ⟨c, h1, h2⟩ | ⟨c, h1, h2⟩
  · exact .inr ⟨c, h1, h2⟩
  · exact .inl ⟨c, h1, h2⟩

/-- Duval: a greater letter behind repeated Lyndon words and a beginning makes one Lyndon word. -/
theorem lyn_grow {u u' z : List Int} {b c : Int} (hu : Lyn u) (he : u = u' ++ b :: z) (hbc : b < c) (m : Nat) : Lyn (rep u (m + 1) ++ u' ++ [c]) := by
  refine ⟨by simp, ?_⟩
  have key : ∀ j, j ≤ m + 1 → ∀ p s, rep u j ++ u' ++ [c] = p ++ s → s ≠ [] → (p ≠ [] ∨ j < m + 1) → ahead (rep u (m + 1) ++ u' ++ [c]) s = true := by
    intro j
    induction j with
    | zero =>
      intro _ p s h hs hpj
      simp only [rep, List.nil_append] at h
      obtain ⟨y, hy, rfl⟩ : ∃ y, u' = p ++ y ∧ s = y ++ [c] := by
        rcases parts h with ⟨x, h1, h2⟩ | ⟨p', h1, h2⟩
        · exact ⟨x, h1, h2⟩
        · cases p' with
          | nil => exact ⟨[], by simpa using h1.symm, by simpa using h2.symm⟩
          | cons q p' =>
            have : s = [] := by
              have := congrArg List.length h2
              simp only [List.length_cons, List.length_nil, List.length_append] at this
              exact List.eq_nil_of_length_eq_zero (by omega)
            exact absurd this hs
      rw [show rep u (m + 1) ++ u' ++ [c] = u ++ (rep u m ++ u' ++ [c]) by simp [rep]]
      cases hp : p with
      | nil =>
        subst hp
        simp only [List.nil_append] at hy
        rw [← hy, he]
        simp only [List.append_assoc, List.cons_append]
        exact ahead_at _ _ _ hbc
      | cons q p2 =>
        refine ahead_raise (b := b) (z := z) ?_ hbc ?_
        · refine hu.2 p (y ++ b :: z) ?_ (by rw [hp]; simp) (by simp)
          rw [he, hy]; simp
        · rw [he, hy, hp]; simp; omega
    | succ j ih =>
      intro hj p s h hs hpj
      have h' : u ++ (rep u j ++ u' ++ [c]) = p ++ s := by rw [← h]; simp [rep]
      rcases parts h' with ⟨x, h1, h2⟩ | ⟨p', h1, h2⟩
      · by_cases hp : p = []
        · subst hp
          simp only [List.nil_append] at h1
          subst h1
          have hlt : j + 1 < m + 1 := by
            rcases hpj with hpj | hpj
            · exact absurd rfl hpj
            · exact hpj
          obtain ⟨d, hd⟩ : ∃ d, m = j + 1 + d := ⟨m - j - 1, by omega⟩
          rw [h2, show rep u (m + 1) = rep u (j + 1) ++ (u ++ rep u d) by rw [hd, show j + 1 + d + 1 = (j + 1) + (d + 1) by omega, rep_add]; rfl]
          rw [show u ++ (rep u j ++ u' ++ [c]) = rep u (j + 1) ++ (u' ++ [c]) by simp [rep]]
          simp only [List.append_assoc]
          rw [ahead_pre]
          rw [he]
          simp only [List.append_assoc, List.cons_append]
          exact ahead_at _ _ _ hbc
        · by_cases hx : x = []
          · subst hx
            simp only [List.nil_append] at h2
            exact ih (by omega) [] s (by rw [h2]; rfl) hs (.inr (by omega))
          · rw [h2, show rep u (m + 1) ++ u' ++ [c] = u ++ (rep u m ++ u' ++ [c]) by simp [rep]]
            refine ahead_more (hu.2 p x h1 hp hx) ?_
            rw [h1]; simp
      · exact ih (by omega) p' s h2 hs (.inr (by omega))
  intro p s h hp hs
  exact key (m + 1) (Nat.le_refl _) p s h hs (.inl hp)

/-- None ahead of the one behind it: each word of a list against the first. -/
def Falls : List (List Int) → Prop
  | [] => True
  | f :: G => (∀ g ∈ G, ahead f g = false) ∧ Falls G

/-- What a word is made of. -/
def Made (w : List Int) (F : List (List Int)) : Prop := w = F.flatten ∧ (∀ f ∈ F, Lyn f) ∧ Falls F

theorem le_trans' {a b c : List Int} (h : ahead b a = false) (k : ahead c b = false) : ahead c a = false := by
  cases h2 : ahead c a with
  | false => rfl
  | true =>
    by_cases e : b = a
    · subst e; rw [k] at h2; cases h2
    · rcases ahead_total e with e | e
      · rw [h] at e; cases e
      · have := ahead_trans h2 e
        rw [k] at this; cases this

/-- The last piece of a beginning of a list of words. -/
theorem piece : ∀ {G : List (List Int)} {x q : List Int}, G.flatten = x ++ q → x ≠ [] → (∀ g ∈ G, g ≠ []) → ∃ a y t g, x = a ++ y ∧ y ≠ [] ∧ g ∈ G ∧ g = y ++ t
  | [], x, q, h, hx, _ => by
    simp at h
    exact absurd h.1 hx
  | g :: G, x, q, h, hx, hG => by
    simp only [List.flatten_cons] at h
    rcases parts h with ⟨y, h1, h2⟩ | ⟨p', h1, h2⟩
    · exact ⟨[], x, y, g, by simp, hx, by simp, h1⟩
    · by_cases hp : p' = []
      · subst hp
        simp at h1
        exact ⟨[], g, [], g, by simpa using h1, hG g (by simp), by simp, by simp⟩
      · obtain ⟨a, y, t, g', e1, e2, e3, e4⟩ := piece h2 hp (fun g hg => hG g (by simp [hg]))
        exact ⟨g ++ a, y, t, g', by rw [h1, e1]; simp, e2, by simp [e3], e4⟩

/-- The first factor is the longest Lyndon word at the beginning. -/
theorem made_longest {f : List Int} {G : List (List Int)} {p q : List Int} (h : Made (p ++ q) (f :: G)) (hp : Lyn p) : p.length ≤ f.length := by
  obtain ⟨h1, h2, h3⟩ := h
  have hf : Lyn f := h2 f (by simp)
  simp only [List.flatten_cons] at h1
  rcases parts h1 with ⟨x, e1, e2⟩ | ⟨p', e1, e2⟩
  · by_cases hx : x = []
    · subst hx; rw [e1]; simp
    · obtain ⟨a, y, t, g, r1, r2, r3, r4⟩ := piece e2 hx (fun g hg => (h2 g (by simp [hg])).1)
      have hl : ahead p y = true := hp.2 (f ++ a) y (by rw [e1, r1]; simp) (by
        intro e
        have := congrArg List.length e
        simp at this
        exact hf.1 this.1) r2
      have hgf := h3.1 g r3
      -- f ≤ p < y ≤ g
      have k1 : ahead p f = false := by rw [e1]; exact ahead_app f x
      have k2 : ahead g y = false := by rw [r4]; exact ahead_app y t
      have k3 : ahead p g = false := le_trans' (le_trans' (ahead_irrefl g) hgf) k1 |> fun _ => by
        cases hh : ahead p g with
        | false => rfl
        | true =>
          exfalso
          by_cases e : p = f
          · subst e; rw [hgf] at hh; cases hh
          · rcases ahead_total e with e | e
            · rw [k1] at e; cases e
            · have := ahead_trans e hh
              rw [hgf] at this; cases this
      exfalso
      by_cases e : y = g
      · subst e; rw [k3] at hl; cases hl
      · rcases ahead_total e with e | e
        · have := ahead_trans hl e
          rw [k3] at this; cases this
        · rw [k2] at e; cases e
  · have := congrArg List.length e1
    simp at this
    omega

/-- Chen, Fox and Lyndon: one way alone. -/
theorem made_one : ∀ {F H : List (List Int)} {w : List Int}, Made w F → Made w H → F = H
  | [], [], _, _, _ => rfl
  | [], g :: H, w, h, k => by
    have := h.1.symm.trans k.1
    simp at this
    exact absurd this.1 (k.2.1 g (by simp)).1
  | f :: F, [], w, h, k => by
    have := k.1.symm.trans h.1
    simp at this
    exact absurd this.1 (h.2.1 f (by simp)).1
  | f :: F, g :: H, w, h, k => by
    have hw : w = f ++ F.flatten := h.1
    have kw : w = g ++ H.flatten := k.1
    have l1 : g.length ≤ f.length := made_longest (q := H.flatten) (by rw [← kw]; exact h) (k.2.1 g (by simp))
    have l2 : f.length ≤ g.length := made_longest (q := F.flatten) (by rw [← hw]; exact k) (h.2.1 f (by simp))
    have e := hw.symm.trans kw
    obtain ⟨e1, e2⟩ := List.append_inj e (by omega)
    subst e1
    have := made_one (F := F) (H := H) (w := F.flatten) ⟨rfl, fun x hx => h.2.1 x (by simp [hx]), h.2.2.2⟩ ⟨e2, fun x hx => k.2.1 x (by simp [hx]), k.2.2.2⟩
    rw [this]

end Go.Proofs.Ytiohfgofoklncaa.Lex
