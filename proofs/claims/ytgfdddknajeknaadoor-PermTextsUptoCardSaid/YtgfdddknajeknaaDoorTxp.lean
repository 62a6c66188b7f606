/-
  Permutations as texts: numbers, cycles written; cut, split and read again. No program in sight.
-/
import Derived.Test.YtgfdddknajeknaaDoorPm
import Derived.Lib.SplitLaws
import Derived.Lib.ItoaNum
import Derived.Lib.AtoiAll
import Derived.Lib.Join
import Derived.Lib.IndexMore
import Derived.Lib.Strings
namespace Go.Proofs.YtgfdddknajeknaaDoor
set_option linter.unusedVariables false
open Go

/-- Bytes as a string. -/
def str (l : List UInt8) : ByteArray := ⟨l.toArray⟩
theorem str_data (l : List UInt8) : (str l).data.toList = l := rfl
theorem str_size (l : List UInt8) : (str l).size = l.length := by simp [str, ByteArray.size]
theorem str_of (s : ByteArray) : str s.data.toList = s := rfl
theorem str_inj {a b : List UInt8} : str a = str b ↔ a = b := by
  constructor
  · intro h
    have := congrArg (fun s => s.data.toList) h
    simpa [str] using this
  · rintro rfl; rfl
theorem str_app (a b : List UInt8) : str a ++ str b = str (a ++ b) := by
  have h1 : (str a ++ str b).data = (str (a ++ b)).data := by
    rw [ByteArray.data_append]
    simp [str]
  exact ByteArray.ext h1
theorem str_empty (l : List UInt8) : (str l).toList.isEmpty = l.isEmpty := by rw [Lib.toList_data, str_data]
theorem index_one {c : UInt8} : ∀ {a b : List UInt8}, c ∉ a → Lib.index (a ++ c :: b) [c] = a.length
  | [], b, _ => by
    show (if [c].isPrefixOf (c :: b) then (0 : Int) else _) = 0
    rw [if_pos (by simp [List.isPrefixOf])]
  | x :: a, b, h => by
    have hx : ¬ c = x := fun e => h (by simp [e])
    have ih := index_one (a := a) (b := b) fun hm => h (List.mem_cons_of_mem _ hm)
    show (if [c].isPrefixOf (x :: (a ++ c :: b)) then (0 : Int) else if Lib.index (a ++ c :: b) [c] == -1 then -1 else Lib.index (a ++ c :: b) [c] + 1) = _
    rw [if_neg (by simp [List.isPrefixOf, hx]), ih, if_neg (by simp), List.length_cons]
    omega
theorem index_none {c : UInt8} : ∀ {a : List UInt8}, c ∉ a → Lib.index a [c] = -1
  | [], _ => rfl
  | x :: a, h => by
    have hx : ¬ c = x := fun e => h (by simp [e])
    have ih := index_none (a := a) fun hm => h (List.mem_cons_of_mem _ hm)
    show (if [c].isPrefixOf (x :: a) then (0 : Int) else if Lib.index a [c] == -1 then -1 else Lib.index a [c] + 1) = _
    rw [if_neg (by simp [List.isPrefixOf, hx]), ih]
    rfl
theorem cut_at {c : UInt8} {a b : List UInt8} (h : c ∉ a) : Lib.cut (a ++ c :: b) [c] = (a, b, true) := by
  unfold Lib.cut
  rw [index_one h, if_pos (by omega)]
  simp only [Int.toNat_natCast, List.length_singleton]
  rw [List.take_left, show (a ++ c :: b).drop (a.length + 1) = b by simp]
theorem split_join {c : UInt8} : ∀ (ws : List (List UInt8)), ws ≠ [] → (∀ w ∈ ws, c ∉ w) → Lib.splitK [c] 0 (ws.length - 1) (Lib.join ws [c]) = ws ∧ (Lib.join ws [c]).count c = ws.length - 1
  | [], h, _ => absurd rfl h
  | [w], _, hw => by
    rw [Lib.join_one]
    exact ⟨rfl, List.count_eq_zero.2 (hw w (by simp))⟩
  | w :: v :: ws, _, hw => by
    have ih := split_join (v :: ws) (by simp) fun x hx => hw x (by simp at hx ⊢; exact .inr hx)
    have hj : Lib.join (w :: v :: ws) [c] = w ++ c :: Lib.join (v :: ws) [c] := by
      rw [Lib.join_cons, Lib.join_cons]
      unfold Lib.joinTail
      simp
    have hc : c ∉ w := hw w (by simp)
    rw [hj]
    constructor
    · show Lib.splitK [c] 0 (ws.length + 1) _ = _
      unfold Lib.splitK
      rw [index_one hc, if_neg (by simp)]
      simp only [Int.toNat_natCast, List.length_singleton, Nat.add_zero]
      rw [List.take_left, show (w ++ c :: Lib.join (v :: ws) [c]).drop (w.length + 1) = Lib.join (v :: ws) [c] by simp]
      have e2 : ws.length = (v :: ws).length - 1 := rfl
      rw [e2, ih.1]
    · rw [List.count_append, List.count_eq_zero.2 hc, List.count_cons_self, ih.2]
      simp
theorem map_str {xs : List ByteArray} {ws : List (List UInt8)} (h : xs.map (·.data.toList) = ws) : xs = ws.map str := by
  rw [← h, List.map_map]
  symm
  exact (List.map_congr_left fun x _ => str_of x).trans (List.map_id _)
theorem splitB_join {c : UInt8} {ws : List (List UInt8)} (h0 : ws ≠ []) (hw : ∀ w ∈ ws, c ∉ w) : Lib.countB (str (Lib.join ws [c])) (str [c]) = ws.length - 1 ∧ Lib.splitB (str [c]) 0 (ws.length - 1) (str (Lib.join ws [c])) = ws.map str := by
  obtain ⟨h1, h2⟩ := split_join ws h0 hw
  constructor
  · show Lib.count _ _ = _
    rw [str_data, str_data, Lib.count_one, h2]
  · refine map_str ?_
    rw [Lib.splitB_data, str_data, str_data, h1]
/-- Pieces are no longer than the whole. -/
theorem piece_le (sep : ByteArray) : ∀ (k : Nat) (s : ByteArray), ∀ x ∈ Lib.splitB sep 0 k s, x.size ≤ s.size
  | 0, s, x, h => by
    rw [Lib.splitB_zero, List.mem_singleton] at h
    rw [h]; exact Nat.le_refl _
  | k + 1, s, x, h => by
    unfold Lib.splitB at h
    split at h
    · rw [List.mem_singleton] at h
      rw [h]; exact Nat.le_refl _
    · rcases List.mem_cons.1 h with rfl | h
      · rw [ByteArray.size_extract]; omega
      · have := piece_le sep k _ x h
        rw [ByteArray.size_extract] at this
        omega

/-- A small number's digits. -/
theorem num_fact : ∀ k, k < 100 → (∀ x ∈ Lib.decDigits k, 48 ≤ x.toNat ∧ x.toNat ≤ 57) ∧ 1 ≤ (Lib.decDigits k).length ∧ (Lib.decDigits k).length ≤ 2 := by
  intro k hk
  have hb : ∀ d, d < 10 → (UInt8.ofNat (48 + d)).toNat = 48 + d := fun d hd => by simp; omega
  by_cases h : k < 10
  · rw [Lib.decDigits_one h]
    refine ⟨fun x hx => ?_, by simp, by simp⟩
    rw [List.mem_singleton.1 hx, hb k h]
    omega
  · rw [Lib.decDigits_two h hk]
    refine ⟨fun x hx => ?_, by simp, by simp⟩
    have h1 := hb (k / 10) (by omega)
    have h2 := hb (k % 10) (by omega)
    have : x = UInt8.ofNat (48 + k / 10) ∨ x = UInt8.ofNat (48 + k % 10) := by simpa using hx
    rcases this with rfl | rfl
    · rw [h1]; omega
    · rw [h2]; omega
theorem num_no {k : Nat} (hk : k < 100) {c : UInt8} (hc : c.toNat < 48) : c ∉ Lib.decDigits k := fun h => by
  have := (num_fact k hk).1 c h
  omega
theorem num_atoi : ∀ k, k < 12 → Lib.atoiAll (Lib.decDigits k) = .ok ((k : Nat) : Int) := by
  intro k hk
  have h : k = 0 ∨ k = 1 ∨ k = 2 ∨ k = 3 ∨ k = 4 ∨ k = 5 ∨ k = 6 ∨ k = 7 ∨ k = 8 ∨ k = 9 ∨ k = 10 ∨ k = 11 := by omega
  rcases h with rfl | rfl | rfl | rfl | rfl | rfl | rfl | rfl | rfl | rfl | rfl | rfl
  all_goals first
    | (rw [Lib.decDigits_one (by omega)]; rfl)
    | (rw [Lib.decDigits_two (by omega) (by omega)]; rfl)

/-- A cycle written; all cycles; a permutation. -/
def inT (c : List Nat) : List UInt8 := Lib.join (c.map Lib.decDigits) [32]
def cycT (c : List Nat) : List UInt8 := 40 :: (inT c ++ [41])
def bodyT (cs : List (List Nat)) : List UInt8 := cs.flatMap cycT
def allT (cs : List (List Nat)) : List UInt8 := if bodyT cs = [] then [40, 41] else bodyT cs
/-- The cycles of two points or more, led by those below k. -/
def longs (f : Nat → Nat) (n k : Nat) : List (List Nat) := (cycL f n k).filter fun c => decide (2 ≤ c.length)
def wrT (f : Nat → Nat) (n : Nat) : List UInt8 := allT (longs f n n)
theorem bodyT_nil : bodyT [] = [] := rfl
theorem bodyT_cons (c : List Nat) (cs : List (List Nat)) : bodyT (c :: cs) = cycT c ++ bodyT cs := by simp [bodyT]
theorem bodyT_snoc (cs : List (List Nat)) (c : List Nat) : bodyT (cs ++ [c]) = bodyT cs ++ cycT c := by simp [bodyT]
theorem bodyT_ne {cs : List (List Nat)} (h : cs ≠ []) : bodyT cs ≠ [] := by
  cases cs with
  | nil => exact absurd rfl h
  | cons c cs => rw [bodyT_cons]; simp [cycT]
theorem longs_succ (f : Nat → Nat) (n k : Nat) : longs f n (k + 1) = longs f n k ++ (if leadB f n k = true ∧ 2 ≤ per f n k then [orb f (per f n k) k] else []) := by
  unfold longs
  rw [cycL_succ, List.filter_append]
  congr 1
  by_cases h : leadB f n k = true
  · by_cases h2 : 2 ≤ per f n k
    · rw [if_pos h, if_pos ⟨h, h2⟩, List.filter_cons_of_pos (by simp [orb_len, h2])]
      rfl
    · rw [if_pos h, if_neg (fun e => h2 e.2), List.filter_cons_of_neg (by simp [orb_len, h2])]
      rfl
  · rw [if_neg h, if_neg (fun e => h e.1)]
    rfl
theorem join_snoc (ws : List (List UInt8)) (w sep : List UInt8) (h : ws ≠ []) : Lib.join (ws ++ [w]) sep = Lib.join ws sep ++ sep ++ w := by
  cases ws with
  | nil => exact absurd rfl h
  | cons x r =>
    rw [List.cons_append, Lib.join_cons, Lib.join_cons]
    unfold Lib.joinTail
    simp
theorem in_no {c : List Nat} (hc : ∀ x ∈ c, x < 100) {b : UInt8} (hb : b.toNat < 48) (h32 : b ≠ 32) : b ∉ inT c := by
  unfold inT
  cases c with
  | nil => simp [Lib.join_nil]
  | cons x r =>
    rw [List.map_cons, Lib.join_cons]
    unfold Lib.joinTail
    intro h
    rcases List.mem_append.1 h with h | h
    · exact num_no (hc x (by simp)) hb h
    · rw [List.mem_flatten] at h
      obtain ⟨l, hl, hm⟩ := h
      obtain ⟨w, hw, rfl⟩ := List.mem_map.1 hl
      obtain ⟨y, hy, rfl⟩ := List.mem_map.1 hw
      rcases List.mem_append.1 hm with hm | hm
      · exact h32 (List.mem_singleton.1 hm)
      · exact num_no (hc y (by simp [hy])) hb hm
/-- What the cycles of a permutation are. -/
structure CS (n : Nat) (f : Nat → Nat) (cs : List (List Nat)) : Prop where
  lt : ∀ c ∈ cs, ∀ x ∈ c, x < n
  nd : cs.flatten.Nodup
  len : ∀ c ∈ cs, 2 ≤ c.length
  nx : ∀ c ∈ cs, ∀ t, t < c.length → c.getD ((t + 1) % c.length) 0 = f (c.getD t 0)
  fix : ∀ x, x < n → x ∉ cs.flatten → f x = x
theorem orb_get {f : Nat → Nat} {m i t : Nat} (h : t < m) : (orb f m i).getD t 0 = it f t i := by simp [orb, h]
theorem mem_longs {f : Nat → Nat} {n k : Nat} {c : List Nat} (h : c ∈ longs f n k) : ∃ i, i < k ∧ leadB f n i = true ∧ c = orb f (per f n i) i ∧ 2 ≤ per f n i := by
  unfold longs cycL at h
  obtain ⟨h1, h2⟩ := List.mem_filter.1 h
  obtain ⟨i, hi, rfl⟩ := List.mem_map.1 h1
  obtain ⟨h3, h4⟩ := List.mem_filter.1 hi
  rw [decide_eq_true_eq, orb_len] at h2
  exact ⟨i, List.mem_range.1 h3, h4, rfl, h2⟩
theorem longs_cs {n : Nat} {f : Nat → Nat} (P : Pm n f) : CS n f (longs f n n) where
  lt c hc x hx := by
    obtain ⟨i, hi, _, rfl, _⟩ := mem_longs hc
    exact P.orb_lt hi x hx
  nd := by
    unfold List.Nodup
    rw [List.pairwise_flatten]
    constructor
    · intro c hc
      obtain ⟨i, hi, _, rfl, _⟩ := mem_longs hc
      exact P.orb_nodup hi
    · unfold longs cycL
      refine List.Pairwise.sublist List.filter_sublist ?_
      rw [List.pairwise_map]
      have hlt : ((List.range n).filter (leadB f n)).Pairwise (· < ·) := List.Pairwise.sublist List.filter_sublist List.pairwise_lt_range
      refine List.Pairwise.imp_of_mem ?_ hlt
      intro i j hi hj hij x hx y hy e
      subst e
      obtain ⟨hi1, hi2⟩ := List.mem_filter.1 hi
      obtain ⟨hj1, hj2⟩ := List.mem_filter.1 hj
      have hin := List.mem_range.1 hi1
      have hjn := List.mem_range.1 hj1
      have r1 := (P.mem_orb hin).1 hx
      have r2 := (P.mem_orb hjn).1 hy
      exact (P.lead_iff hjn).1 hj2 i hij (r1.trans (P.reach_symm hjn r2))
  len c hc := by
    obtain ⟨i, _, _, rfl, h⟩ := mem_longs hc
    rw [orb_len]; exact h
  nx c hc t ht := by
    obtain ⟨i, hi, _, rfl, h⟩ := mem_longs hc
    rw [orb_len] at ht ⊢
    have hm := Nat.mod_lt (t + 1) (show 0 < per f n i by omega)
    rw [orb_get hm, orb_get ht, ← P.it_mod hi (t + 1)]
    rfl
  fix x hx hno := by
    obtain ⟨i, hi, hu⟩ := P.one_lead hx
    obtain ⟨h1, h2⟩ := (hu i hi).2 rfl
    apply Classical.byContradiction
    intro hne
    apply hno
    have hp : 2 ≤ per f n i := by
      have hs := P.per_spec hi
      apply Classical.byContradiction
      intro h
      have h1 : per f n i = 1 := by omega
      obtain ⟨k, hk, rfl⟩ := P.reach_small hi h2
      rw [h1] at hk
      obtain rfl : k = 0 := by omega
      rw [h1] at hs
      exact hne hs.1
    rw [List.mem_flatten]
    refine ⟨orb f (per f n i) i, ?_, (P.mem_orb hi).2 h2⟩
    unfold longs cycL
    refine List.mem_filter.2 ⟨List.mem_map.2 ⟨i, List.mem_filter.2 ⟨List.mem_range.2 hi, h1⟩, rfl⟩, ?_⟩
    rw [decide_eq_true_eq, orb_len]
    exact hp
theorem flat_le {n : Nat} {f : Nat → Nat} {cs : List (List Nat)} (H : CS n f cs) : cs.flatten.length ≤ n := by
  have := List.Nodup.length_le_of_subset H.nd (l₂ := List.range n) fun x hx => by
    rw [List.mem_flatten] at hx
    obtain ⟨c, hc, hx⟩ := hx
    exact List.mem_range.2 (H.lt c hc x hx)
  simpa using this
theorem in_len {c : List Nat} (hc : ∀ x ∈ c, x < 100) : (inT c).length ≤ 3 * c.length := by
  unfold inT
  cases c with
  | nil => simp [Lib.join_nil]
  | cons x r =>
    rw [List.map_cons, Lib.join_cons]
    have h1 := (num_fact x (hc x (by simp))).2.2
    have h2 : ∀ r : List Nat, (∀ x ∈ r, x < 100) → (Lib.joinTail [32] (r.map Lib.decDigits)).length ≤ 3 * r.length := by
      intro r
      induction r with
      | nil => intro _; simp [Lib.joinTail]
      | cons y r ih =>
        intro h
        have h3 := ih fun z hz => h z (by simp [hz])
        have h4 := (num_fact y (h y (by simp))).2.2
        unfold Lib.joinTail at h3 ⊢
        simp only [List.map_cons, List.flatten_cons, List.length_append, List.length_cons, List.length_nil]
        simp only [List.map_map] at h3 ⊢
        omega
    have h5 := h2 r fun z hz => hc z (by simp [hz])
    simp only [List.length_append, List.length_cons]
    omega
theorem body_len {cs : List (List Nat)} (h : ∀ c ∈ cs, ∀ x ∈ c, x < 100) (h2 : ∀ c ∈ cs, 2 ≤ c.length) : (bodyT cs).length ≤ 5 * cs.flatten.length := by
  induction cs with
  | nil => simp [bodyT]
  | cons c cs ih =>
    have h3 := ih (fun d hd => h d (by simp [hd])) fun d hd => h2 d (by simp [hd])
    have h4 := in_len (h c (by simp))
    have h5 := h2 c (by simp)
    rw [bodyT_cons, List.flatten_cons, List.length_append, List.length_append]
    unfold cycT
    simp only [List.length_cons, List.length_append, List.length_nil]
    omega
end Go.Proofs.YtgfdddknajeknaaDoor
