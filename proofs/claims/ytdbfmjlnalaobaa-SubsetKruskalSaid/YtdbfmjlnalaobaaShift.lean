/-
  Families of sets, as lists of bits; the head moved to another place; Erdos, Ko and Rado. No program in sight.
-/
import Derived.Test.YtdbfmjlnalaobaaLub
namespace Go.Proofs.Ytdbfmjlnalaobaa
set_option linter.unusedVariables false

def flp : Nat → List Bool → List Bool
  | _, [] => []
  | 0, b :: t => (!b) :: t
  | j + 1, b :: t => b :: flp j t
def on : Nat → List Bool → Bool
  | _, [] => false
  | 0, b :: _ => b
  | j + 1, _ :: t => on j t
def card : List Bool → Nat
  | [] => 0
  | b :: t => b.toNat + card t
def sm : Nat → (List Bool → Nat) → Nat
  | 0, g => g []
  | n + 1, g => sm n (fun t => g (true :: t)) + sm n (fun t => g (false :: t))
/-- A family's number. -/
def cn (n : Nat) (f : List Bool → Bool) : Nat := sm n fun t => (f t).toNat

theorem flp_len : ∀ (j : Nat) (t : List Bool), (flp j t).length = t.length
  | _, [] => by simp [flp]
  | 0, b :: t => by simp [flp]
  | j + 1, b :: t => by simp [flp, flp_len j t]
theorem flp_flp : ∀ (j : Nat) (t : List Bool), flp j (flp j t) = t
  | _, [] => by simp [flp]
  | 0, b :: t => by simp [flp]
  | j + 1, b :: t => by simp [flp, flp_flp j t]
theorem on_flp : ∀ (j : Nat) (t : List Bool), j < t.length → on j (flp j t) = !on j t
  | _, [], h => by simp at h
  | 0, b :: t, _ => by simp [flp, on]
  | j + 1, b :: t, h => by simp only [flp, on]; exact on_flp j t (by simpa using h)
theorem on_other : ∀ (i j : Nat) (t : List Bool), i ≠ j → on i (flp j t) = on i t
  | _, _, [], _ => by simp [flp]
  | 0, 0, b :: t, h => absurd rfl h
  | 0, j + 1, b :: t, _ => by simp [flp, on]
  | i + 1, 0, b :: t, _ => by simp [flp, on]
  | i + 1, j + 1, b :: t, h => by simp only [flp, on]; exact on_other i j t (by omega)
theorem flp_comm : ∀ (i j : Nat) (t : List Bool), flp i (flp j t) = flp j (flp i t)
  | _, _, [] => by simp [flp]
  | 0, 0, b :: t => rfl
  | 0, j + 1, b :: t => by simp [flp]
  | i + 1, 0, b :: t => by simp [flp]
  | i + 1, j + 1, b :: t => by simp [flp, flp_comm i j t]
theorem on_lt : ∀ (i : Nat) (t : List Bool), on i t = true → i < t.length
  | _, [], h => by simp [on] at h
  | 0, b :: t, _ => by simp
  | i + 1, b :: t, h => by have := on_lt i t h; simp; omega
theorem card_flp : ∀ (j : Nat) (t : List Bool), j < t.length → on j t = false → card (flp j t) = card t + 1
  | _, [], h, _ => by simp at h
  | 0, b :: t, _, h => by
    have : b = false := h
    subst this
    simp [flp, card]; omega
  | j + 1, b :: t, h, h2 => by
    have := card_flp j t (by simpa using h) h2
    simp only [flp, card, this]; omega
theorem card_le : ∀ t : List Bool, card t ≤ t.length
  | [] => Nat.le_refl _
  | b :: t => by
    have := card_le t
    simp only [card, List.length_cons]
    cases b <;> simp <;> omega
theorem both_off : ∀ s t : List Bool, s.length = t.length → card s + card t < s.length → ∃ x, x < s.length ∧ on x s = false ∧ on x t = false
  | [], _, _, h => by simp at h
  | a :: s, [], h, _ => by simp at h
  | a :: s, b :: t, h, h2 => by
    by_cases e : a = false ∧ b = false
    · exact ⟨0, by simp, e.1, e.2⟩
    · have : card s + card t < s.length := by
        simp only [card, List.length_cons] at h2
        cases a <;> cases b <;> simp at e h2 <;> omega
      obtain ⟨x, h3, h4, h5⟩ := both_off s t (by simpa using h) this
      exact ⟨x + 1, by simp; omega, h4, h5⟩

theorem sm_congr : ∀ {n : Nat} {g h : List Bool → Nat}, (∀ t, t.length = n → g t = h t) → sm n g = sm n h
  | 0, g, h, e => e [] rfl
  | n + 1, g, h, e => by
    simp only [sm]
    rw [sm_congr (g := fun t => g (true :: t)) (h := fun t => h (true :: t)) (fun t ht => e _ (by simp [ht])), sm_congr (g := fun t => g (false :: t)) (h := fun t => h (false :: t)) (fun t ht => e _ (by simp [ht]))]
theorem sm_le : ∀ {n : Nat} {g h : List Bool → Nat}, (∀ t, t.length = n → g t ≤ h t) → sm n g ≤ sm n h
  | 0, g, h, e => e [] rfl
  | n + 1, g, h, e => by
    have h1 := sm_le (n := n) (g := fun t => g (true :: t)) (h := fun t => h (true :: t)) (fun t ht => e _ (by simp [ht]))
    have h2 := sm_le (n := n) (g := fun t => g (false :: t)) (h := fun t => h (false :: t)) (fun t ht => e _ (by simp [ht]))
    simp only [sm]
    omega
theorem sm_add : ∀ (n : Nat) (g h : List Bool → Nat), sm n (fun t => g t + h t) = sm n g + sm n h
  | 0, g, h => rfl
  | n + 1, g, h => by
    simp only [sm]
    rw [sm_add n (fun t => g (true :: t)) (fun t => h (true :: t)), sm_add n (fun t => g (false :: t)) (fun t => h (false :: t))]
    omega
theorem sm_zero : ∀ (n : Nat), sm n (fun _ => 0) = 0
  | 0 => rfl
  | n + 1 => by simp only [sm, sm_zero n]
theorem sm_flp : ∀ (n j : Nat) (g : List Bool → Nat), j < n → sm n (fun t => g (flp j t)) = sm n g
  | n + 1, 0, g, _ => by simp only [sm, flp, Bool.not_true, Bool.not_false]; omega
  | n + 1, j + 1, g, h => by
    simp only [sm, flp]
    rw [sm_flp n j (fun t => g (true :: t)) (by omega), sm_flp n j (fun t => g (false :: t)) (by omega)]
theorem sm_pos : ∀ {n : Nat} {g : List Bool → Nat} (t : List Bool), t.length = n → 0 < g t → 0 < sm n g
  | 0, g, t, ht, h => by rw [List.eq_nil_of_length_eq_zero ht] at h; exact h
  | n + 1, g, [], ht, h => by simp at ht
  | n + 1, g, b :: t, ht, h => by
    have := sm_pos (n := n) (g := fun t => g (b :: t)) t (by simpa using ht) h
    simp only [sm]
    cases b <;> omega
theorem sm_lt {n : Nat} {g h : List Bool → Nat} (hle : ∀ t, t.length = n → g t ≤ h t) (t : List Bool) (ht : t.length = n) (hlt : g t < h t) : sm n g < sm n h := by
  have h1 : sm n h = sm n g + sm n (fun t => h t - g t) := by
    rw [← sm_add]
    exact sm_congr fun t ht => by have := hle t ht; omega
  have h2 := sm_pos (g := fun t => h t - g t) t ht (by show 0 < h t - g t; omega)
  omega
theorem sm_card : ∀ (n k : Nat), sm n (fun t => if card t = k then 1 else 0) = bin n k
  | 0, 0 => rfl
  | 0, k + 1 => rfl
  | n + 1, 0 => by
    simp only [sm]
    rw [sm_congr (g := fun t => if card (true :: t) = 0 then 1 else 0) (h := fun _ => 0) (fun t _ => by simp [card]), sm_zero, sm_congr (g := fun t => if card (false :: t) = 0 then 1 else 0) (h := fun t => if card t = 0 then 1 else 0) (fun t _ => by simp [card]), sm_card n 0, bin_zero, bin_zero]
  | n + 1, k + 1 => by
    simp only [sm]
    rw [sm_congr (g := fun t => if card (true :: t) = k + 1 then 1 else 0) (h := fun t => if card t = k then 1 else 0) (fun t _ => by simp only [card, Bool.toNat_true, Nat.add_comm 1, Nat.add_right_cancel_iff]),
      sm_congr (g := fun t => if card (false :: t) = k + 1 then 1 else 0) (h := fun t => if card t = k + 1 then 1 else 0) (fun t _ => by simp [card]), sm_card n k, sm_card n (k + 1), bin_succ]
theorem sm_one : ∀ {n : Nat} (c : List Bool), c.length = n → sm n (fun t => if t = c then 1 else 0) = 1
  | 0, c, h => by rw [List.eq_nil_of_length_eq_zero h]; rfl
  | n + 1, [], h => by simp at h
  | n + 1, b :: c, h => by
    have ih := sm_one (n := n) c (by simpa using h)
    simp only [sm]
    cases b
    · rw [sm_congr (g := fun t => if true :: t = false :: c then 1 else 0) (h := fun _ => 0) (fun t _ => by simp), sm_zero, sm_congr (g := fun t => if false :: t = false :: c then 1 else 0) (h := fun t => if t = c then 1 else 0) (fun t _ => by simp), ih]
    · rw [sm_congr (g := fun t => if false :: t = true :: c then 1 else 0) (h := fun _ => 0) (fun t _ => by simp), sm_zero, sm_congr (g := fun t => if true :: t = true :: c then 1 else 0) (h := fun t => if t = c then 1 else 0) (fun t _ => by simp), ih]

theorem cn_succ (n : Nat) (f : List Bool → Bool) : cn (n + 1) f = cn n (fun t => f (true :: t)) + cn n (fun t => f (false :: t)) := rfl
theorem cn_congr {n : Nat} {f g : List Bool → Bool} (h : ∀ t, t.length = n → f t = g t) : cn n f = cn n g := sm_congr fun t ht => by rw [h t ht]
theorem cn_le {n : Nat} {f g : List Bool → Bool} (h : ∀ t, t.length = n → f t = true → g t = true) : cn n f ≤ cn n g := sm_le fun t ht => by
  have := h t ht
  cases hf : f t
  · simp
  · rw [this hf]; exact Nat.le_refl _

/-- The head's state b goes to place x. -/
def sh (b : Bool) (x : Nat) (f : List Bool → Bool) : List Bool → Bool
  | [] => f []
  | c :: t => if c = b then (if on x t = !b then f (b :: t) && f ((!b) :: flp x t) else f (b :: t)) else (if on x t = b then f ((!b) :: t) || f (b :: flp x t) else f ((!b) :: t))
theorem sh_from (b : Bool) (x : Nat) (f : List Bool → Bool) (t : List Bool) : sh b x f (b :: t) = if on x t = !b then f (b :: t) && f ((!b) :: flp x t) else f (b :: t) := by simp [sh]
theorem sh_to (b : Bool) (x : Nat) (f : List Bool → Bool) (t : List Bool) : sh b x f ((!b) :: t) = if on x t = b then f ((!b) :: t) || f (b :: flp x t) else f ((!b) :: t) := by cases b <;> simp [sh]
theorem cn_two (b : Bool) (n : Nat) (f : List Bool → Bool) : cn (n + 1) f = cn n (fun t => f (b :: t)) + cn n (fun t => f ((!b) :: t)) := by
  rw [cn_succ]
  cases b
  · exact Nat.add_comm _ _
  · rfl
theorem sh_cn (b : Bool) (n x : Nat) (hx : x < n) (f : List Bool → Bool) : cn (n + 1) (sh b x f) = cn (n + 1) f := by
  rw [cn_two b, cn_two b n f]
  have h1 : ∀ g : List Bool → Bool, cn n (fun t => g t) = sm n (fun t => if on x t = b then (g t).toNat else 0) + sm n (fun t => if on x t = b then 0 else (g t).toNat) := fun g => by
    rw [← sm_add]
    exact sm_congr fun t _ => by by_cases e : on x t = b <;> simp [e]
  have h2 : ∀ g : List Bool → Nat, sm n (fun t => if on x t = b then g t else 0) = sm n (fun t => if on x t = b then 0 else g (flp x t)) := fun g => by
    rw [← sm_flp n x (fun t => if on x t = b then g t else 0) hx]
    refine sm_congr fun t ht => ?_
    rw [on_flp x t (by omega)]
    cases b <;> cases on x t <;> rfl
  rw [h1 (fun t => sh b x f (b :: t)), h1 (fun t => sh b x f ((!b) :: t)), h1 (fun t => f (b :: t)), h1 (fun t => f ((!b) :: t))]
  have e1 : sm n (fun t => if on x t = b then (sh b x f (b :: t)).toNat else 0) = sm n (fun t => if on x t = b then (f (b :: t)).toNat else 0) := sm_congr fun t _ => by
    rw [sh_from]
    cases b <;> cases on x t <;> rfl
  have e2 : sm n (fun t => if on x t = b then 0 else (sh b x f ((!b) :: t)).toNat) = sm n (fun t => if on x t = b then 0 else (f ((!b) :: t)).toNat) := sm_congr fun t _ => by
    rw [sh_to]
    by_cases e : on x t = b <;> simp [e]
  have e3 : sm n (fun t => if on x t = b then 0 else (sh b x f (b :: t)).toNat) + sm n (fun t => if on x t = b then (sh b x f ((!b) :: t)).toNat else 0) = sm n (fun t => if on x t = b then 0 else (f (b :: t)).toNat) + sm n (fun t => if on x t = b then (f ((!b) :: t)).toNat else 0) := by
    rw [h2 (fun t => (sh b x f ((!b) :: t)).toNat), h2 (fun t => (f ((!b) :: t)).toNat), ← sm_add, ← sm_add]
    refine sm_congr fun t ht => ?_
    have e4 : on x (flp x t) = !on x t := on_flp x t (by omega)
    rw [sh_from, sh_to, e4, flp_flp]
    cases b <;> cases on x t <;> simp <;> cases f (_ :: t) <;> cases f (_ :: flp x t) <;> rfl
  omega
/-- Nothing more to move. -/
def done (b : Bool) (n : Nat) (f : List Bool → Bool) : Prop := ∀ x, x < n → ∀ t : List Bool, t.length = n → on x t = (!b) → f (b :: t) = true → f ((!b) :: flp x t) = true
theorem sh_end (b : Bool) (n : Nat) (P : (List Bool → Bool) → Prop) (hP : ∀ f x, x < n → P f → P (sh b x f)) : ∀ (m : Nat) (f : List Bool → Bool), cn n (fun t => f (b :: t)) ≤ m → P f → ∃ f', P f' ∧ cn (n + 1) f' = cn (n + 1) f ∧ done b n f' := by
  intro m
  induction m with
  | zero =>
    intro f hm hf
    refine ⟨f, hf, rfl, fun x hx t ht ho h => ?_⟩
    have : 0 < cn n (fun t => f (b :: t)) := sm_pos t ht (by show 0 < (f (b :: t)).toNat; rw [h]; decide)
    omega
  | succ m ih =>
    intro f hm hf
    by_cases hd : done b n f
    · exact ⟨f, hf, rfl, hd⟩
    · simp only [done, Classical.not_forall] at hd
      obtain ⟨x, hx, t, ht, ho, h1, h2⟩ := hd
      obtain ⟨f', q1, q2, q3⟩ := ih (sh b x f) (by
        have : cn n (fun t => sh b x f (b :: t)) < cn n (fun t => f (b :: t)) := by
          refine sm_lt (fun t _ => ?_) t ht ?_
          · show (sh b x f (b :: t)).toNat ≤ (f (b :: t)).toNat
            rw [sh_from]
            by_cases e : on x t = !b
            · rw [if_pos e]
              cases f (b :: t)
              · simp
              · cases f ((!b) :: flp x t) <;> simp
            · rw [if_neg e]; exact Nat.le_refl _
          · show (sh b x f (b :: t)).toNat < (f (b :: t)).toNat
            rw [sh_from, if_pos ho, h1]
            rw [Bool.not_eq_true] at h2
            rw [h2]
            decide
        omega) (hP f x hx hf)
      exact ⟨f', q1, by rw [q2, sh_cn b n x hx], q3⟩

/-- Sets of k; each two have something in both. -/
def uni (n k : Nat) (f : List Bool → Bool) : Prop := ∀ t : List Bool, t.length = n → f t = true → card t = k
def meet (n : Nat) (f : List Bool → Bool) : Prop := ∀ s t : List Bool, s.length = n → t.length = n → f s = true → f t = true → ∃ i, i < n ∧ on i s = true ∧ on i t = true
theorem sh_uni {b : Bool} {n k x : Nat} {f : List Bool → Bool} (hx : x < n) (h : uni (n + 1) k f) : uni (n + 1) k (sh b x f) := by
  intro t ht hf
  match t, ht with
  | c :: t, ht =>
    have ht' : t.length = n := by simpa using ht
    by_cases e : c = b
    · subst e
      rw [sh_from] at hf
      split at hf
      · simp only [Bool.and_eq_true] at hf; exact h _ ht hf.1
      · exact h _ ht hf
    · obtain rfl : c = !b := by cases c <;> cases b <;> simp_all
      rw [sh_to] at hf
      split at hf
      · rename_i ho
        simp only [Bool.or_eq_true] at hf
        rcases hf with hf | hf
        · exact h _ ht hf
        · have h1 := h _ (by simp [flp_len, ht']) hf
          simp only [card] at h1 ⊢
          cases b
          · have := card_flp x t (by omega) ho
            simp at h1 ⊢
            omega
          · have := card_flp x (flp x t) (by rw [flp_len]; omega) (by rw [on_flp x t (by omega), ho]; rfl)
            rw [flp_flp] at this
            simp at h1 ⊢
            omega
      · exact h _ ht hf
theorem sh_meet {n x : Nat} {f : List Bool → Bool} (hx : x < n) (h : meet (n + 1) f) : meet (n + 1) (sh true x f) := by
  -- who is new, and who stays
  have key : ∀ a : List Bool, a.length = n + 1 → sh true x f a = true → (f a = true ∧ ∀ t, a = true :: t → on x t = false → f (false :: flp x t) = true) ∨ (∃ t, a = false :: t ∧ on x t = true ∧ f (true :: flp x t) = true) := by
    intro a ha hf
    match a, ha with
    | true :: t, ha =>
      have := sh_from true x f t
      rw [this] at hf
      split at hf
      · simp only [Bool.and_eq_true] at hf
        exact .inl ⟨hf.1, fun t' e _ => by cases e; exact hf.2⟩
      · rename_i hn
        refine .inl ⟨hf, fun t' e ho => ?_⟩
        cases e
        exact absurd ho hn
    | false :: t, ha =>
      have := sh_to true x f t
      simp only [Bool.not_true] at this
      rw [this] at hf
      split at hf
      · rename_i ho
        simp only [Bool.or_eq_true] at hf
        rcases hf with hf | hf
        · exact .inl ⟨hf, fun t' e _ => by cases e⟩
        · exact .inr ⟨t, rfl, ho, hf⟩
      · exact .inl ⟨hf, fun t' e _ => by cases e⟩
  have mix : ∀ (t b : List Bool), t.length = n → b.length = n + 1 → on x t = true → f (true :: flp x t) = true → f b = true → (∀ s, b = true :: s → on x s = false → f (false :: flp x s) = true) → ∃ i, i < n + 1 ∧ on i (false :: t) = true ∧ on i b = true := by
    intro t b ht hb ho h1 h2 h3
    match b, hb with
    | true :: s, hb =>
      have hs : s.length = n := by simpa using hb
      by_cases e : on x s = true
      · exact ⟨x + 1, by omega, ho, e⟩
      · rw [Bool.not_eq_true] at e
        obtain ⟨i, hi, p1, p2⟩ := h _ _ (by simp [flp_len, ht]) (by simp [flp_len, hs]) h1 (h3 s rfl e)
        match i, hi, p1, p2 with
        | 0, _, _, p2 => simp [on] at p2
        | i + 1, hi, p1, p2 =>
          simp only [on] at p1 p2
          have hix : i ≠ x := fun e2 => by
            rw [e2, on_flp x t (by omega), ho] at p1
            cases p1
          rw [on_other i x t hix] at p1
          rw [on_other i x s hix] at p2
          exact ⟨i + 1, hi, p1, p2⟩
    | false :: s, hb =>
      obtain ⟨i, hi, p1, p2⟩ := h _ _ (by simp [flp_len, ht]) hb h1 h2
      match i, hi, p1, p2 with
      | 0, _, _, p2 => simp [on] at p2
      | i + 1, hi, p1, p2 =>
        have p1' : on i (flp x t) = true := p1
        have hix : i ≠ x := fun e2 => by
          rw [e2, on_flp x t (by omega), ho] at p1'
          cases p1'
        rw [on_other i x t hix] at p1'
        exact ⟨i + 1, hi, p1', p2⟩
  intro a b ha hb fa fb
  rcases key a ha fa with ⟨h1, h2⟩ | ⟨t, rfl, h1, h2⟩
  · rcases key b hb fb with ⟨h3, h4⟩ | ⟨t, rfl, h3, h4⟩
    · exact h a b ha hb h1 h3
    · obtain ⟨i, hi, p1, p2⟩ := mix t a (by simpa using hb) ha h3 h4 h1 h2
      exact ⟨i, hi, p2, p1⟩
  · rcases key b hb fb with ⟨h3, h4⟩ | ⟨s, rfl, h3, h4⟩
    · exact mix t b (by simpa using ha) hb h1 h2 h3 h4
    · exact ⟨x + 1, by omega, h1, h3⟩

def cmp (t : List Bool) : List Bool := t.map not
theorem sm_cmp : ∀ (n : Nat) (g : List Bool → Nat), sm n (fun t => g (cmp t)) = sm n g
  | 0, g => rfl
  | n + 1, g => by
    simp only [sm, cmp, List.map_cons, Bool.not_true, Bool.not_false]
    have h1 := sm_cmp n (fun t => g (false :: t))
    have h2 := sm_cmp n (fun t => g (true :: t))
    simp only [cmp] at h1 h2
    rw [h1, h2]
    omega
theorem on_cmp : ∀ (i : Nat) (t : List Bool), on i t = true → on i (cmp t) = false
  | _, [], h => by simp [on] at h
  | 0, b :: t, h => by
    have : b = true := h
    subst this
    rfl
  | i + 1, b :: t, h => on_cmp i t h
theorem cmp_card : ∀ t : List Bool, card (cmp t) + card t = t.length
  | [] => rfl
  | b :: t => by
    have := cmp_card t
    simp only [cmp, List.map_cons, card, List.length_cons] at this ⊢
    cases b <;> simp <;> omega

theorem ekr : ∀ (n k : Nat) (f : List Bool → Bool), 2 * (k + 1) ≤ n + 1 → uni (n + 1) (k + 1) f → meet (n + 1) f → cn (n + 1) f ≤ bin n k
  | n, k, f, h2, hu, hm => by
    by_cases he : 2 * (k + 1) = n + 1
    · -- one of two opposites
      rw [cn_succ]
      unfold cn
      rw [← sm_cmp n (fun t => (f (false :: t)).toNat), ← sm_add, ← sm_card n k]
      refine sm_le fun t ht => ?_
      have hlc : (cmp t).length = n := by simp [cmp, ht]
      show (f (true :: t)).toNat + (f (false :: cmp t)).toNat ≤ if card t = k then 1 else 0
      by_cases h1 : f (true :: t) = true
      · have hc := hu _ (by simp [ht]) h1
        simp only [card, Bool.toNat_true] at hc
        have h3 : f (false :: cmp t) = false := by
          rw [← Bool.not_eq_true]
          intro h3
          obtain ⟨i, hi, p1, p2⟩ := hm _ _ (by simp [ht]) (by simp [hlc]) h1 h3
          match i, p1, p2 with
          | 0, _, p2 => simp [on] at p2
          | i + 1, p1, p2 =>
            have := on_cmp i t p1
            simp only [on] at p2
            rw [this] at p2
            cases p2
        rw [h1, h3, if_pos (by omega)]
        decide
      · rw [Bool.not_eq_true] at h1
        rw [h1]
        by_cases h3 : f (false :: cmp t) = true
        · have hc := hu _ (by simp [hlc]) h3
          have hcc := cmp_card t
          simp only [card, Bool.toNat_false] at hc
          rw [h3, if_pos (by omega)]
          decide
        · rw [Bool.not_eq_true] at h3
          rw [h3]
          simp
    · obtain ⟨f', ⟨hu', hm'⟩, hc', hd⟩ := sh_end true n (fun f => uni (n + 1) (k + 1) f ∧ meet (n + 1) f) (fun f x hx h => ⟨sh_uni hx h.1, sh_meet hx h.2⟩) _ f (Nat.le_refl _) ⟨hu, hm⟩
      rw [← hc', cn_succ]
      match n, h2, he, hu', hm', hd with
      | 0, h2, he, _, _, _ => omega
      | n + 1, h2, he, hu', hm', hd =>
        have u0 : uni (n + 1) (k + 1) (fun t => f' (false :: t)) := fun t ht h => by
          have := hu' _ (by simp [ht]) h
          simpa [card] using this
        have m0 : meet (n + 1) (fun t => f' (false :: t)) := fun s t hs ht h1 h3 => by
          obtain ⟨i, hi, p1, p2⟩ := hm' _ _ (by simp [hs]) (by simp [ht]) h1 h3
          match i, hi, p1, p2 with
          | 0, _, p1, _ => simp [on] at p1
          | i + 1, hi, p1, p2 => exact ⟨i, by omega, p1, p2⟩
        have u1 : uni (n + 1) k (fun t => f' (true :: t)) := fun t ht h => by
          have := hu' _ (by simp [ht]) h
          simp [card] at this
          omega
        have m1 : meet (n + 1) (fun t => f' (true :: t)) := fun s t hs ht h1 h3 => by
          obtain ⟨x, hx, o1, o2⟩ := both_off s t (by omega) (by have := u1 s hs h1; have := u1 t ht h3; omega)
          obtain ⟨i, hi, p1, p2⟩ := hm' _ _ (by simp [hs]) (by simp [flp_len, ht]) h1 (hd x (by omega) t ht o2 h3)
          match i, hi, p1, p2 with
          | 0, _, _, p2 => simp [on] at p2
          | i + 1, hi, p1, p2 =>
            simp only [on] at p1 p2
            have hix : i ≠ x := fun e2 => by rw [e2, o1] at p1; cases p1
            rw [on_other i x t hix] at p2
            exact ⟨i, by omega, p1, p2⟩
        have i0 := ekr n k _ (by omega) u0 m0
        match k, h2, he, u1, i0 with
        | 0, h2, he, u1, i0 =>
          have : cn (n + 1) (fun t => f' (true :: t)) = 0 := by
            have : cn (n + 1) (fun t => f' (true :: t)) = sm (n + 1) (fun _ => 0) := sm_congr fun t ht => by
              show (f' (true :: t)).toNat = 0
              cases h : f' (true :: t)
              · rfl
              · obtain ⟨i, hi, p1, _⟩ := m1 t t ht ht h h
                have hc := u1 t ht h
                have hcf : ∀ (i : Nat) (t : List Bool), on i t = true → 0 < card t := by
                  intro i t
                  induction t generalizing i with
                  | nil => intro h; simp [on] at h
                  | cons b t ih =>
                    intro h
                    cases i with
                    | zero =>
                      have : b = true := h
                      subst this
                      simp [card]; omega
                    | succ i => have := ih i h; simp only [card]; omega
                have := hcf i t p1
                omega
            rw [this, sm_zero]
          rw [this, bin_zero]
          rw [bin_zero] at i0
          omega
        | k + 1, h2, he, u1, i0 =>
          have i1 := ekr n k _ (by omega) u1 m1
          rw [bin_succ]
          omega
end Go.Proofs.Ytdbfmjlnalaobaa
