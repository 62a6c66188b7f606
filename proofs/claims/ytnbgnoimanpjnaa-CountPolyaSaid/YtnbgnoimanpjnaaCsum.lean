/-
  Sums over a group's kinds: as many terms as there are permutations. No program in sight.
-/
import Derived.Test.YtnbgnoimanpjnaaCkinds
import Derived.Test.YtnbgnoimanpjnaaGcom
namespace Go.Proofs.Ytnbgnoimanpjnaa
set_option linter.unusedVariables false

theorem sum_zero {α : Type} (l : List α) : (l.map fun _ => 0).sum = 0 := by
  induction l with
  | nil => rfl
  | cons a l ih => simp only [List.map_cons, List.sum_cons, ih]
theorem sum_add {α : Type} (g h : α → Nat) (l : List α) : (l.map fun x => g x + h x).sum = (l.map g).sum + (l.map h).sum := by
  induction l with
  | nil => rfl
  | cons a l ih => simp only [List.map_cons, List.sum_cons, ih]; omega
theorem sum_one {α : Type} [DecidableEq α] (h : α → Nat) {a : α} : ∀ l : List α, l.Nodup → a ∈ l → (l.map fun y => if a = y then h y else 0).sum = h a
  | [], _, hm => by simp at hm
  | b :: l, hn, hm => by
    obtain ⟨h1, h2⟩ := List.nodup_cons.1 hn
    simp only [List.map_cons, List.sum_cons]
    by_cases e : a = b
    · subst e
      have : (l.map fun y => if a = y then h y else 0) = l.map fun _ => 0 := List.map_congr_left fun y hy => if_neg (fun e => h1 (by rw [e]; exact hy))
      rw [this, sum_zero, if_pos rfl, Nat.add_zero]
    · rw [if_neg e, sum_one h l h2 ((List.mem_cons.1 hm).resolve_left e), Nat.zero_add]
/-- As many of each kind. -/
theorem sum_kinds {α κ : Type} [DecidableEq κ] [BEq κ] [LawfulBEq κ] (kd : α → κ) (h : κ → Nat) (S : List κ) (hS : S.Nodup) : ∀ L : List α, (∀ x ∈ L, kd x ∈ S) → (S.map fun y => (L.filter fun x => kd x == y).length * h y).sum = (L.map fun x => h (kd x)).sum
  | [], _ => by simp only [List.filter_nil, List.length_nil, Nat.zero_mul]; exact sum_zero S
  | x :: L, hL => by
    have ih := sum_kinds kd h S hS L fun y hy => hL y (by simp [hy])
    simp only [List.map_cons, List.sum_cons]
    rw [← ih, ← sum_one h S hS (hL x (by simp)), ← sum_add]
    congr 1
    refine List.map_congr_left fun y _ => ?_
    by_cases e : kd x = y
    · rw [if_pos e, List.filter_cons_of_pos (by simp [e]), List.length_cons, Nat.succ_mul, Nat.add_comm]
    · rw [if_neg e, List.filter_cons_of_neg (by simp [e]), Nat.zero_add]
theorem sum_erase {α : Type} [BEq α] [LawfulBEq α] [DecidableEq α] (h : α → Nat) {a : α} : ∀ l : List α, a ∈ l → ((l.erase a).map h).sum + h a = (l.map h).sum
  | [], hm => by simp at hm
  | b :: l, hm => by
    by_cases e : b = a
    · subst e
      rw [List.erase_cons_head, List.map_cons, List.sum_cons]
      omega
    · rw [List.erase_cons_tail (by simpa using e), List.map_cons, List.sum_cons, List.map_cons, List.sum_cons]
      have := sum_erase h l ((List.mem_cons.1 hm).resolve_left (fun h => e h.symm))
      omega
theorem sum_mem {α : Type} (h : α → Nat) {a : α} : ∀ l : List α, a ∈ l → h a ≤ (l.map h).sum
  | [], hm => by simp at hm
  | b :: l, hm => by
    rw [List.map_cons, List.sum_cons]
    rcases List.mem_cons.1 hm with rfl | hm
    · omega
    · have := sum_mem h l hm
      omega
theorem sum_le_all {α : Type} {h : α → Nat} {A : Nat} : ∀ l : List α, (∀ x ∈ l, h x ≤ A) → (l.map h).sum ≤ l.length * A
  | [], _ => by simp
  | b :: l, hl => by
    have := sum_le_all l fun x hx => hl x (by simp [hx])
    have := hl b (by simp)
    rw [List.map_cons, List.sum_cons, List.length_cons, Nat.succ_mul]
    omega
theorem sum_le_but {α : Type} {h : α → Nat} {A B : Nat} (a : α) : ∀ l : List α, l.Nodup → (∀ x ∈ l, x ≠ a → h x ≤ A) → (∀ x ∈ l, h x ≤ B) → (l.map h).sum ≤ l.length * A + B
  | [], _, _, _ => by simp
  | b :: l, hn, h1, h2 => by
    obtain ⟨h3, h4⟩ := List.nodup_cons.1 hn
    rw [List.map_cons, List.sum_cons, List.length_cons, Nat.succ_mul]
    rcases Classical.em (b = a) with rfl | e
    · have := sum_le_all (h := h) (A := A) l fun x hx => h1 x (by simp [hx]) (fun e => h3 (by rw [← e]; exact hx))
      have := h2 b (by simp)
      omega
    · have := sum_le_but a l h4 (fun x hx => h1 x (by simp [hx])) (fun x hx => h2 x (by simp [hx]))
      have := h1 b (by simp) e
      omega

/-- How many cycles there are. -/
def cyK (n : Nat) (x : Nat → Nat) : Nat := sumN (kdF x n n) 8
theorem cyc_lead {n : Nat} (hn : n ≤ 7) {x : Nat → Nat} (P : Pm n x) : cyK n x = sumN (fun j => if leadB x n j = true then 1 else 0) n := by
  unfold cyK kdF
  rw [sumN_swap]
  refine sumN_congr n fun j hj => ?_
  obtain ⟨_, h1, h2, _⟩ := P.per_spec hj
  by_cases hl : leadB x n j = true
  · rw [if_pos hl]
    have := sumN_one (k := 8) (a := per x n j) (by omega) (fun _ => 1)
    refine Eq.trans (sumN_congr 8 fun c _ => ?_) this
    by_cases e : c = per x n j
    · rw [if_pos ⟨hl, e.symm⟩, if_pos e]
    · rw [if_neg (fun h => e h.2.symm), if_neg e]
  · rw [if_neg hl, sumN_congr 8 (h := fun _ => 0) (fun c _ => if_neg (fun h => hl h.1)), sumN_zero]
theorem sumN_lt (g : Nat → Nat) (h : ∀ i, g i ≤ 1) {a : Nat} (ha : g a = 0) : ∀ k, a < k → sumN g k + 1 ≤ k
  | 0, hk => by omega
  | k + 1, hk => by
    have := h k
    simp only [sumN]
    by_cases e : a = k
    · subst e
      have := sumN_le g h a
      omega
    · have := sumN_lt g h ha k (by omega)
      omega
theorem cyc_le {n : Nat} (hn : n ≤ 7) {x : Nat → Nat} (P : Pm n x) : cyK n x ≤ n := by
  rw [cyc_lead hn P]
  exact sumN_le _ (fun i => by split <;> omega) n
theorem cyc_lt {n : Nat} (hn : n ≤ 7) {x : Nat → Nat} (P : Mv n x) (h : x ≠ id) : cyK n x + 1 ≤ n := by
  rw [cyc_lead hn P.pm]
  have hex : ∃ j, j < n ∧ leadB x n j = false := by
    apply Classical.byContradiction
    intro hno
    apply h
    funext j
    show x j = j
    by_cases hj : j < n
    · have hall : ∀ j, j < n → leadB x n j = true := fun j hj => by
        cases e : leadB x n j with
        | true => rfl
        | false => exact absurd ⟨j, hj, e⟩ hno
      have hxj := P.pm.lt j hj
      rcases Nat.lt_trichotomy (x j) j with e | e | e
      · exact absurd (P.pm.reach_symm hj ⟨1, rfl⟩) ((P.pm.lead_iff hj).1 (hall j hj) (x j) e)
      · exact e
      · exact absurd ⟨1, rfl⟩ ((P.pm.lead_iff hxj).1 (hall (x j) hxj) j e)
    · exact P.st j (by omega)
  obtain ⟨j, hj, e⟩ := hex
  exact sumN_lt _ (fun i => by split <;> omega) (by rw [if_neg (by rw [e]; decide)]) n hj
theorem pow_bd {k : Nat} (hk1 : 1 ≤ k) (hk : k ≤ 200) {e E : Nat} (h : e ≤ E) : k ^ e ≤ 200 ^ E := Nat.le_trans (Nat.pow_le_pow_left hk e) (Nat.pow_le_pow_right (by omega) h)
/-- Of all colourings as often as it stays. -/
def colS (n : Nat) (L : List (Nat → Nat)) (k : Nat) : Nat := (L.map fun x => k ^ cyK n x).sum
theorem colS_bd {n k : Nat} {L : List (Nat → Nat)} (hn : n ≤ 7) (hL : ∀ x ∈ L, Mv n x) (hnd : L.Nodup) (hlen : L.length ≤ 5040) (hk1 : 1 ≤ k) (hk : k ≤ 200) : colS n L k ≤ 400000000000000000 := by
  have p6 : 200 ^ 6 = 64000000000000 := by decide
  have p7 : 200 ^ 7 = 12800000000000000 := by decide
  have h1 := sum_le_but (h := fun x => k ^ cyK n x) (A := 64000000000000) (B := 12800000000000000) id L hnd (fun x hx hne => by rw [← p6]; exact pow_bd hk1 hk (by have := cyc_lt hn (hL x hx) hne; omega)) (fun x hx => by rw [← p7]; exact pow_bd hk1 hk (by have := cyc_le hn (hL x hx).pm; omega))
  have h2 : L.length * 64000000000000 ≤ 5040 * 64000000000000 := Nat.mul_le_mul hlen (Nat.le_refl _)
  unfold colS
  omega
section
variable {n : Nat} {L : List (Nat → Nat)}
theorem skS_nodup (n : Nat) (L : List (Nat → Nat)) : ∀ k, (skS n L k).Nodup
  | 0 => List.nodup_nil
  | k + 1 => ins_nodup (skS_nodup n L k)
theorem mem_skS (y : List Int) : ∀ k, y ∈ skS n L k ↔ ∃ j, j < k ∧ y = kdL n (L.getD j id)
  | 0 => by simp [skS]
  | k + 1 => by
    rw [skS, mem_ins, mem_skS y k]
    constructor
    · rintro (h | ⟨j, hj, h⟩)
      · exact ⟨k, by omega, h⟩
      · exact ⟨j, by omega, h⟩
    · rintro ⟨j, hj, h⟩
      by_cases e : j = k
      · exact .inl (by rw [← e]; exact h)
      · exact .inr ⟨j, by omega, h⟩
theorem skS_of {y : List Int} (h : y ∈ skS n L L.length) : ∃ x ∈ L, y = kdL n x := by
  obtain ⟨j, hj, e⟩ := (mem_skS y _).1 h
  exact ⟨_, getD_mem hj id, e⟩
theorem of_skS {x : Nat → Nat} (h : x ∈ L) : kdL n x ∈ skS n L L.length := by
  obtain ⟨j, hj, e⟩ := List.mem_iff_getElem.1 h
  refine (mem_skS _ _).2 ⟨j, hj, ?_⟩
  rw [List.getD_eq_getElem?_getD, List.getElem?_eq_getElem hj, Option.getD_some, e]
/-- How many cycles a kind has; how many there are of a kind. -/
def cyI (y : List Int) : Nat := sumN (fun i => (y.getD i 0).toNat) 8
def cnN (n : Nat) (L : List (Nat → Nat)) (y : List Int) : Nat := (L.filter fun x => kdL n x == y).length
theorem ckN_all (y : List Int) : ckN n L L.length y = ((cnN n L y : Nat) : Int) := by
  unfold ckN cnN
  rw [List.take_length]
theorem cyI_kd (n : Nat) (x : Nat → Nat) : cyI (kdL n x) = cyK n x := by
  unfold cyI cyK kdL
  exact sumN_congr 8 fun i hi => by simp [kdI, hi]
theorem sum_col (k : Nat) : ((skS n L L.length).map fun y => cnN n L y * k ^ cyI y).sum = colS n L k := by
  have := sum_kinds (kdL n) (fun y => k ^ cyI y) (skS n L L.length) (skS_nodup n L _) L (fun x hx => of_skS hx)
  unfold cnN colS
  refine Eq.trans this ?_
  refine congrArg List.sum (List.map_congr_left fun x _ => ?_)
  rw [cyI_kd]
end
end Go.Proofs.Ytnbgnoimanpjnaa
