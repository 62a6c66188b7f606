/-
  Plain laws of periods: the codes of a row's windows; the first window that comes again; tables of what came first. No program in sight; conditions as each law states.
-/
import Derived.Test.YtgfdddknajeknaaDoorRow
namespace Go.Proofs.YtgfdddknajeknaaDoor
set_option linter.unusedVariables false

/-- A list's number, the highest first. -/
def codeH (p : Int) (l : List Int) : Int := l.foldl (fun n x => n * p + x) 0
theorem codeH_snoc (p : Int) (l : List Int) (x : Int) : codeH p (l ++ [x]) = codeH p l * p + x := by simp [codeH]
theorem foldl_off (p : Int) : ∀ (l : List Int) (z : Int), l.foldl (fun n x => n * p + x) z = z * p ^ l.length + codeH p l
  | [], z => by simp [codeH]
  | x :: l, z => by
    simp only [List.foldl_cons, codeH, List.length_cons]
    rw [foldl_off p l (z * p + x), foldl_off p l (0 * p + x), Int.pow_succ, Int.add_mul, Int.zero_mul, Int.zero_add, Int.mul_assoc, Int.mul_comm p]
    omega
theorem codeH_cons (p x : Int) (l : List Int) : codeH p (x :: l) = x * p ^ l.length + codeH p l := by
  have := foldl_off p l (0 * p + x)
  rw [Int.zero_mul, Int.zero_add] at this
  simp only [codeH, List.foldl_cons, Int.zero_mul, Int.zero_add]
  exact this
theorem pow_pos' {p : Int} (hp : 0 < p) (k : Nat) : 0 < p ^ k := Int.pow_pos hp
theorem codeH_bd {p : Int} (hp : 0 < p) : ∀ (l : List Int), (∀ x ∈ l, 0 ≤ x ∧ x < p) → 0 ≤ codeH p l ∧ codeH p l < p ^ l.length
  | [], _ => by simp [codeH]
  | x :: l, h => by
    have ih := codeH_bd hp l fun y hy => h y (by simp [hy])
    have hx := h x (by simp)
    have hpos := pow_pos' hp l.length
    rw [codeH_cons, List.length_cons, Int.pow_succ]
    have h1 : 0 ≤ x * p ^ l.length := Int.mul_nonneg hx.1 (by omega)
    have h2 : x * p ^ l.length ≤ (p - 1) * p ^ l.length := Int.mul_le_mul_of_nonneg_right (by omega) (by omega)
    rw [Int.sub_mul] at h2
    rw [Int.mul_comm (p ^ l.length)]
    omega
theorem codeH_inj {p : Int} (hp : 0 < p) : ∀ (l m : List Int), l.length = m.length → (∀ x ∈ l, 0 ≤ x ∧ x < p) → (∀ x ∈ m, 0 ≤ x ∧ x < p) → codeH p l = codeH p m → l = m
  | [], [], _, _, _, _ => rfl
  | x :: l, y :: m, hl, h1, h2, he => by
    simp only [List.length_cons, Nat.add_right_cancel_iff] at hl
    have b1 := codeH_bd hp l fun y hy => h1 y (by simp [hy])
    have b2 := codeH_bd hp m fun y hy => h2 y (by simp [hy])
    rw [codeH_cons, codeH_cons, hl] at he
    rw [hl] at b1
    have hpos := pow_pos' hp m.length
    have hxy : x = y := by
      rcases Int.lt_trichotomy x y with h | h | h
      · exfalso
        have : (x + 1) * p ^ m.length ≤ y * p ^ m.length := Int.mul_le_mul_of_nonneg_right (by omega) (by omega)
        rw [Int.add_mul] at this
        omega
      · exact h
      · exfalso
        have : (y + 1) * p ^ m.length ≤ x * p ^ m.length := Int.mul_le_mul_of_nonneg_right (by omega) (by omega)
        rw [Int.add_mul] at this
        omega
    subst hxy
    rw [codeH_inj hp l m hl (fun y hy => h1 y (by simp [hy])) (fun y hy => h2 y (by simp [hy])) (by omega)]
/-- The lowest first. -/
def codeL (p : Int) (l : List Int) : Int := codeH p l.reverse
theorem codeL_bd {p : Int} (hp : 0 < p) (l : List Int) (h : ∀ x ∈ l, 0 ≤ x ∧ x < p) : 0 ≤ codeL p l ∧ codeL p l < p ^ l.length := by
  have := codeH_bd hp l.reverse fun x hx => h x (by simpa using hx)
  rwa [List.length_reverse] at this
theorem codeL_inj {p : Int} (hp : 0 < p) {l m : List Int} (hl : l.length = m.length) (h1 : ∀ x ∈ l, 0 ≤ x ∧ x < p) (h2 : ∀ x ∈ m, 0 ≤ x ∧ x < p) (he : codeL p l = codeL p m) : l = m := by
  have := codeH_inj hp l.reverse m.reverse (by simpa using hl) (fun x hx => h1 x (by simpa using hx)) (fun x hx => h2 x (by simpa using hx)) he
  simpa using congrArg List.reverse this

theorem win_mem {p : Int} {taps seed : List Int} (hp : 0 < p) (hs : ∀ x ∈ seed, 0 ≤ x ∧ x < p) (m : Nat) : ∀ x ∈ winL p taps seed m, 0 ≤ x ∧ x < p := fun x hx => row_mem hp hs _ x (List.mem_of_mem_drop hx)

/-- The window's number as the program keeps it. -/
def roll (p S : Int) (f : Nat → Int) : Nat → Int
  | 0 => 0
  | t + 1 => (roll p S f t * p + f t) % S
theorem row_succ (p : Int) (taps seed : List Int) (n : Nat) : rowL p taps seed (n + 1) = rowL p taps seed n ++ [rowF p taps seed n] := by
  rw [row_list, row_list, List.range_succ, List.map_append]; rfl
theorem win_succ (p : Int) (taps seed : List Int) (m : Nat) (hk : 1 ≤ seed.length) : winL p taps seed (m + 1) = (winL p taps seed m).drop 1 ++ [rowF p taps seed (m + seed.length)] := by
  unfold winL
  rw [show m + 1 + seed.length = (m + seed.length) + 1 by omega, row_succ, List.drop_append_of_le_length (by rw [rowL_len]; omega), List.drop_drop]
theorem rowF_bd {p : Int} {taps seed : List Int} (hp : 0 < p) (hs : ∀ x ∈ seed, 0 ≤ x ∧ x < p) (n : Nat) : 0 ≤ rowF p taps seed n ∧ rowF p taps seed n < p := getD_nn hp (row_mem hp hs (n + 1)) n
theorem pow_le' {p : Int} (hp : 1 ≤ p) {a b : Nat} (h : a ≤ b) : p ^ a ≤ p ^ b := by
  obtain ⟨d, rfl⟩ : ∃ d, b = a + d := ⟨b - a, by omega⟩
  rw [Int.pow_add]
  have h1 : 0 < p ^ a := pow_pos' (by omega) a
  have h2 : 0 < p ^ d := pow_pos' (by omega) d
  have : p ^ a * 1 ≤ p ^ a * p ^ d := Int.mul_le_mul_of_nonneg_left (by omega) (by omega)
  omega
theorem roll_lo {p : Int} {taps seed : List Int} (hp : 0 < p) (hs : ∀ x ∈ seed, 0 ≤ x ∧ x < p) : ∀ t, t ≤ seed.length → roll p (p ^ seed.length) (rowF p taps seed) t = codeH p (rowL p taps seed t)
  | 0, _ => rfl
  | t + 1, ht => by
    simp only [roll]
    rw [roll_lo hp hs t (by omega), ← codeH_snoc, ← row_succ]
    have hb := codeH_bd hp _ (row_mem (taps := taps) hp hs (t + 1))
    rw [rowL_len] at hb
    have := pow_le' (p := p) (by omega) ht
    exact Int.emod_eq_of_lt hb.1 (by omega)
theorem roll_win {p : Int} {taps seed : List Int} (hp : 0 < p) (hs : ∀ x ∈ seed, 0 ≤ x ∧ x < p) (hk : 1 ≤ seed.length) : ∀ m, roll p (p ^ seed.length) (rowF p taps seed) (m + seed.length) = codeH p (winL p taps seed m)
  | 0 => by
    rw [Nat.zero_add, roll_lo hp hs _ (Nat.le_refl _), win_zero, row_seed]
  | m + 1 => by
    rw [show m + 1 + seed.length = (m + seed.length) + 1 by omega]
    simp only [roll]
    rw [roll_win hp hs hk m, ← codeH_snoc]
    have hb := codeH_bd hp _ (win_mem (taps := taps) hp hs (m + 1))
    rw [win_len, win_succ p taps seed m hk] at hb
    rw [win_succ p taps seed m hk]
    have hl := win_len p taps seed m
    cases e : winL p taps seed m with
    | nil => rw [e] at hl; simp at hl; omega
    | cons y l =>
      rw [e] at hb hl
      simp only [List.drop_succ_cons, List.drop_zero] at hb ⊢
      rw [List.cons_append, codeH_cons]
      have : (l ++ [rowF p taps seed (m + seed.length)]).length = seed.length := by simp at hl ⊢; omega
      rw [this, Int.add_comm, Int.add_mul_emod_self_right]
      exact Int.emod_eq_of_lt hb.1 hb.2

/-- Pigeons. -/
theorem pigeon : ∀ (n : Nat) (f : Nat → Nat), (∀ i, i ≤ n → f i < n) → ∃ i j, i < j ∧ j ≤ n ∧ f i = f j
  | 0, f, h => by have := h 0 (Nat.le_refl _); omega
  | n + 1, f, h => by
    by_cases hex : ∃ i, i ≤ n ∧ f i = f (n + 1)
    · obtain ⟨i, hi, he⟩ := hex
      exact ⟨i, n + 1, by omega, Nat.le_refl _, he⟩
    · -- swap the value f (n+1) with n
      have hne : ∀ i, i ≤ n → f i ≠ f (n + 1) := fun i hi e => hex ⟨i, hi, e⟩
      have hl := h (n + 1) (Nat.le_refl _)
      obtain ⟨i, j, h1, h2, h3⟩ := pigeon n (fun i => if f i = n then f (n + 1) else f i) (fun i hi => by
        have h4 := h i (by omega)
        have h5 := hne i hi
        show (if f i = n then f (n + 1) else f i) < n
        split
        · omega
        · omega)
      refine ⟨i, j, h1, by omega, ?_⟩
      have h5 := hne i (by omega)
      have h6 := hne j h2
      split at h3 <;> split at h3 <;> omega

/-- When the first window comes again. -/
structure PerOf (p : Int) (taps seed : List Int) (a b : Nat) : Prop where
  pos : 1 ≤ b
  same : winL p taps seed a = winL p taps seed (a + b)
  alone : ∀ i j, i < j → j < a + b → winL p taps seed i ≠ winL p taps seed j
theorem PerOf.unique {p : Int} {taps seed : List Int} {a b a' b' : Nat} (h : PerOf p taps seed a b) (h' : PerOf p taps seed a' b') : a = a' ∧ b = b' := by
  have hm : a + b = a' + b' := by
    rcases Nat.lt_trichotomy (a + b) (a' + b') with h1 | h1 | h1
    · exact absurd h.same (h'.alone a (a + b) (by have := h.pos; omega) h1)
    · exact h1
    · exact absurd h'.same (h.alone a' (a' + b') (by have := h'.pos; omega) h1)
  have ha : a = a' := by
    have e : winL p taps seed a = winL p taps seed a' := by rw [h.same, h'.same, hm]
    rcases Nat.lt_trichotomy a a' with h1 | h1 | h1
    · exact absurd e (h'.alone a a' h1 (by have := h'.pos; omega))
    · exact h1
    · exact absurd e.symm (h.alone a' a h1 (by have := h.pos; omega))
  omega
theorem least_of {P : Nat → Prop} (h : ∃ n, P n) : ∃ n, P n ∧ ∀ m, m < n → ¬ P m := by
  obtain ⟨n, hn⟩ := h
  induction n using Nat.strongRecOn with
  | _ n ih =>
    by_cases hm : ∃ m, m < n ∧ P m
    · obtain ⟨m, hlt, hp⟩ := hm
      exact ih m hlt hp
    · exact ⟨n, hn, fun m hlt hp => hm ⟨m, hlt, hp⟩⟩
theorem per_ex {p : Int} {taps seed : List Int} (hp : 0 < p) (hs : ∀ x ∈ seed, 0 ≤ x ∧ x < p) : ∃ a b, PerOf p taps seed a b ∧ ((a + b : Nat) : Int) ≤ p ^ seed.length := by
  have hb : ∀ i, 0 ≤ codeH p (winL p taps seed i) ∧ codeH p (winL p taps seed i) < p ^ seed.length := fun i => by
    have := codeH_bd hp _ (win_mem (taps := taps) hp hs i)
    rwa [win_len] at this
  have hpos := pow_pos' hp seed.length
  obtain ⟨i, j, h1, h2, h3⟩ := pigeon (p ^ seed.length).toNat (fun i => (codeH p (winL p taps seed i)).toNat) (fun i _ => by have := hb i; show (codeH p (winL p taps seed i)).toNat < _; omega)
  have e : winL p taps seed i = winL p taps seed j := by
    refine codeH_inj hp _ _ (by rw [win_len, win_len]) (win_mem hp hs i) (win_mem hp hs j) ?_
    have a1 := hb i
    have a2 := hb j
    omega
  obtain ⟨m, ⟨i', hi', he⟩, hm⟩ := least_of (P := fun m => ∃ i, i < m ∧ winL p taps seed i = winL p taps seed m) ⟨j, i, h1, e⟩
  have hmj : m ≤ j := by
    rcases Nat.lt_or_ge j m with h | h
    · exact absurd ⟨i, h1, e⟩ (hm j h)
    · exact h
  refine ⟨i', m - i', ⟨by omega, by rw [show i' + (m - i') = m by omega]; exact he, fun x y hxy hy e2 => ?_⟩, by omega⟩
  exact hm y (by omega) ⟨x, hxy, e2⟩

/-- A table of what came first: z where nothing came, else its number and d. -/
def tab (z d : Int) (code : Nat → Int) (S : Nat) : Nat → List Int
  | 0 => List.replicate S z
  | m + 1 => (tab z d code S m).set (code m).toNat ((m : Int) + d)
theorem tab_len (z d : Int) (code : Nat → Int) (S : Nat) : ∀ m, (tab z d code S m).length = S
  | 0 => by simp [tab]
  | m + 1 => by simp [tab, tab_len z d code S m]
theorem tab_none {z d : Int} {code : Nat → Int} {S c : Nat} (hc : c < S) : ∀ m, (∀ j, j < m → (code j).toNat ≠ c) → (tab z d code S m).getD c 0 = z
  | 0, _ => by simp [tab, hc, List.getD_eq_getElem?_getD]
  | m + 1, h => by
    simp only [tab]
    rw [List.getD_eq_getElem?_getD, List.getElem?_set_ne (h m (by omega)), ← List.getD_eq_getElem?_getD]
    exact tab_none hc m fun j hj => h j (by omega)
theorem tab_some {z d : Int} {code : Nat → Int} {S j : Nat} : ∀ m, (∀ i, i < m → (code i).toNat < S) → (∀ i k, i < k → k < m → (code i).toNat ≠ (code k).toNat) → j < m → (tab z d code S m).getD (code j).toNat 0 = (j : Int) + d
  | 0, _, _, h => by omega
  | m + 1, hS, hu, hj => by
    simp only [tab]
    by_cases e : j = m
    · subst e
      rw [List.getD_eq_getElem?_getD, List.getElem?_set_self (by rw [tab_len]; exact hS j (by omega))]
      rfl
    · rw [List.getD_eq_getElem?_getD, List.getElem?_set_ne (fun h => hu j m (by omega) (by omega) h.symm), ← List.getD_eq_getElem?_getD]
      exact tab_some m (fun i hi => hS i (by omega)) (fun i k h1 h2 => hu i k h1 (by omega)) (by omega)

theorem win_mid {p : Int} {taps seed : List Int} {n i : Nat} (h : i + seed.length ≤ n) : ((rowL p taps seed n).drop i).take seed.length = winL p taps seed i := by
  unfold winL
  have := row_take p taps seed (i + seed.length) (n - (i + seed.length))
  rw [show i + seed.length + (n - (i + seed.length)) = n by omega] at this
  rw [← this, List.drop_take]
  congr 1
  omega
theorem codeL_drop {p : Int} {l : List Int} {m : Nat} (h : m < l.length) : codeL p (l.drop m) = codeL p (l.drop (m + 1)) * p + l[m]?.getD 0 := by
  unfold codeL
  rw [List.drop_eq_getElem_cons h, List.reverse_cons, codeH_snoc]
  simp [h]
end Go.Proofs.YtgfdddknajeknaaDoor
