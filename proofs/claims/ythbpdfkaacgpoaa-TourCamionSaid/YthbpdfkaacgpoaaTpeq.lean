/-
  The parts that the program gives are those of the document. No program in sight.
-/
import Derived.Test.YthbpdfkaacgpoaaTprtM
import Derived.Test.YthbpdfkaacgpoaaTkng
namespace Go.Proofs.Ythbpdfkaacgpoaa
set_option linter.unusedVariables false
open Go.RowKit Go.Maps

theorem eq_of_both {α : Type} {r : α → α → Prop} (has : ∀ a b, r a b → r b a → False) : ∀ (X Y : List α), X.Pairwise r → Y.Pairwise r → (∀ m, m ∈ X ↔ m ∈ Y) → X = Y
  | [], [], _, _, _ => rfl
  | [], b :: Y, _, _, h => by have := (h b).2 (by simp); cases this
  | a :: X, [], _, _, h => by have := (h a).1 (by simp); cases this
  | a :: X, b :: Y, hX, hY, h => by
    rw [List.pairwise_cons] at hX hY
    have ha := (h a).1 (by simp)
    have hb := (h b).2 (by simp)
    have hab : a = b := by
      rcases List.mem_cons.1 ha with e | e
      · exact e
      · rcases List.mem_cons.1 hb with e2 | e2
        · exact e2.symm
        · exact (has a b (hX.1 b e2) (hY.1 a e)).elim
    subst hab
    have hnX : a ∉ X := fun e => has a a (hX.1 a e) (hX.1 a e)
    have hnY : a ∉ Y := fun e => has a a (hY.1 a e) (hY.1 a e)
    rw [eq_of_both has X Y hX.2 hY.2 fun m => ⟨fun hm => by
      rcases List.mem_cons.1 ((h m).1 (by simp [hm])) with e | e
      · exact absurd (e ▸ hm) hnX
      · exact e, fun hm => by
      rcases List.mem_cons.1 ((h m).2 (by simp [hm])) with e | e
      · exact absurd (e ▸ hm) hnY
      · exact e⟩]
section
variable {S : Nat} {Q R : Rel} (hq : Q = slf R) (htr : ∀ x y z, x < S → y < S → z < S → Q x y = true → Q y z = true → Q x z = true) (htt : ∀ x y, x < S → y < S → Q x y = true ∨ Q y x = true)
def repB (Q : Rel) (S a : Nat) : Bool := (clP Q a S).getD 0 0 == (a : Int)
include htt in
theorem q_refl {x : Nat} (hx : x < S) : Q x x = true := by rcases htt x x hx hx with h | h <;> exact h
include htr in
theorem clP_same {p q : Nat} (hp : p < S) (hq2 : q < S) (h1 : Q p q = true) (h2 : Q q p = true) : clP Q p S = clP Q q S := by
  unfold clP
  congr 1
  refine List.filter_congr fun b hb => ?_
  have hb := List.mem_range.1 hb
  rw [Bool.eq_iff_iff, Bool.and_eq_true, Bool.and_eq_true]
  constructor
  · rintro ⟨a1, a2⟩; exact ⟨htr q p b hq2 hp hb h2 a1, htr b p q hb hp hq2 a2 h1⟩
  · rintro ⟨a1, a2⟩; exact ⟨htr p q b hp hq2 hb h1 a1, htr b q p hb hq2 hp a2 h2⟩
include htr in
theorem rep_apart {p q : Nat} (hp : p < S) (hq2 : q < S) (rp : repB Q S p = true) (rq : repB Q S q = true) (hne : p ≠ q) : ¬ (Q p q = true ∧ Q q p = true) := by
  rintro ⟨h1, h2⟩
  have he := clP_same htr hp hq2 h1 h2
  unfold repB at rp rq
  rw [beq_iff_eq] at rp rq
  rw [he, rq] at rp
  omega
include htr htt in
theorem cn_less {p q : Nat} (hp : p < S) (hq2 : q < S) (h1 : Q p q = true) (h2 : ¬ Q q p = true) : cnP Q q S < cnP Q p S := by
  unfold cnP
  exact cnt_lt (p := fun b => Q q b) (q := fun b => Q p b) (fun x hx h => htr p q x hp hq2 (List.mem_range.1 hx) h1 h) (List.mem_range.2 hp) (q_refl htt hp) (by simpa using h2)
include hq htr in
theorem mn_less {p q : Nat} (hp : p < S) (hq2 : q < S) (h1 : Q p q = true) (h2 : ¬ Q q p = true) : mnR R q S < mnR R p S := by
  have he : ∀ x j, (R x j && !R j x) = (Q x j && !Q j x) := fun x j => by
    rw [hq]
    unfold slf
    by_cases e : x = j
    · subst e; simp
    · have e2 : ¬ j = x := fun h => e h.symm
      simp [e, e2]
  unfold mnR
  refine cnt_lt (p := fun j => R q j && !R j q) (q := fun j => R p j && !R j p) (fun x hx h => ?_) (List.mem_range.2 hq2) (by show (R p q && !R q p) = true; rw [he, h1]; simpa using h2) (by show (R q q && !R q q) = false; cases R q q <;> rfl)
  have hx := List.mem_range.1 hx
  replace h : (R q x && !R x q) = true := h
  show (R p x && !R x p) = true
  rw [he, Bool.and_eq_true, Bool.not_eq_true'] at h ⊢
  refine ⟨htr p q x hp hq2 hx h1 h.1, ?_⟩
  cases hc : Q x p with
  | false => rfl
  | true => rw [htr x p q hx hp hq2 hc h1] at h; cases h.2
include hq htr htt in
/-- Two parts: one reaches more, either way. -/
theorem rep_order {p q : Nat} (hp : p < S) (hq2 : q < S) (rp : repB Q S p = true) (rq : repB Q S q = true) (hne : p ≠ q) : (cnP Q q S < cnP Q p S ∧ mnR R q S < mnR R p S) ∨ (cnP Q p S < cnP Q q S ∧ mnR R p S < mnR R q S) := by
  have hap := rep_apart htr hp hq2 rp rq hne
  rcases htt p q hp hq2 with h | h
  · have h2 : ¬ Q q p = true := fun e => hap ⟨h, e⟩
    exact .inl ⟨cn_less htr htt hp hq2 h h2, mn_less hq htr hp hq2 h h2⟩
  · have h2 : ¬ Q p q = true := fun e => hap ⟨e, h⟩
    exact .inr ⟨cn_less htr htt hq2 hp h h2, mn_less hq htr hq2 hp h h2⟩
theorem kfL_rep {a : Nat} (h : repB Q S a = true) : kfL (clP Q a S) = a := by
  unfold repB at h
  rw [beq_iff_eq] at h
  unfold kfL
  rw [h, Int.toNat_natCast]
/-- Who reaches more goes ahead. -/
def keyG (Q : Rel) (S : Nat) (m m' : List Int) : Prop := cnP Q (kfL m') S < cnP Q (kfL m) S
theorem prI_mem (reach : Nat) : ∀ k m, m ∈ prI Q S reach k ↔ ∃ a, a < k ∧ takR Q S reach a = true ∧ m = clP Q a S
  | 0, m => by simp [prI]
  | k + 1, m => by
    rw [prI, List.mem_append, prI_mem reach k m]
    constructor
    · rintro (⟨a, ha, h⟩ | h)
      · exact ⟨a, by omega, h⟩
      · split at h
        · rename_i ht
          exact ⟨k, by omega, ht, by simpa using h⟩
        · cases h
    · rintro ⟨a, ha, ht, he⟩
      by_cases e : a = k
      · subst e
        right
        rw [if_pos ht, he]
        simp
      · exact .inl ⟨a, by omega, ht, he⟩
theorem takR_iff {reach a : Nat} : takR Q S reach a = true ↔ cnP Q a S = reach ∧ repB Q S a = true := by
  unfold takR repB
  rw [Bool.and_eq_true, decide_eq_true_iff]
include hq htr htt in
theorem prI_pair (reach : Nat) : ∀ k, k ≤ S → (prI Q S reach k).Pairwise (keyG Q S)
  | 0, _ => List.Pairwise.nil
  | k + 1, hk => by
    rw [prI, List.pairwise_append]
    refine ⟨prI_pair reach k (by omega), by split <;> simp, fun m hm m' hm' => ?_⟩
    obtain ⟨a, ha, ht, rfl⟩ := (prI_mem reach k m).1 hm
    split at hm'
    · rename_i ht2
      rw [List.mem_singleton] at hm'
      subst hm'
      obtain ⟨c1, r1⟩ := takR_iff.1 ht
      obtain ⟨c2, r2⟩ := takR_iff.1 ht2
      rcases rep_order hq htr htt (by omega) (by omega) r1 r2 (show a ≠ k by omega) with h | h <;> omega
    · cases hm'
theorem prO_mem : ∀ d m, m ∈ prO Q S d ↔ ∃ e a, e < d ∧ a < S ∧ takR Q S (S - e) a = true ∧ m = clP Q a S
  | 0, m => by simp [prO]
  | d + 1, m => by
    rw [prO, List.mem_append, prO_mem d m, prI_mem]
    constructor
    · rintro (⟨e, a, he, h⟩ | ⟨a, h⟩)
      · exact ⟨e, a, by omega, h⟩
      · exact ⟨d, a, by omega, h⟩
    · rintro ⟨e, a, he, h⟩
      by_cases hh : e = d
      · subst hh; exact .inr ⟨a, h⟩
      · exact .inl ⟨e, a, by omega, h⟩
include hq htr htt in
theorem prO_pair : ∀ d, d ≤ S → (prO Q S d).Pairwise (keyG Q S)
  | 0, _ => List.Pairwise.nil
  | d + 1, hd => by
    rw [prO, List.pairwise_append]
    refine ⟨prO_pair d (by omega), prI_pair hq htr htt _ S (Nat.le_refl _), fun m hm m' hm' => ?_⟩
    obtain ⟨e, a, he, ha, ht, rfl⟩ := (prO_mem d m).1 hm
    obtain ⟨a2, ha2, ht2, rfl⟩ := (prI_mem _ S m').1 hm'
    obtain ⟨c1, r1⟩ := takR_iff.1 ht
    obtain ⟨c2, r2⟩ := takR_iff.1 ht2
    unfold keyG
    rw [kfL_rep r1, kfL_rep r2, c1, c2]
    omega
theorem ptL_mem2 : ∀ k m, m ∈ ptL R S k ↔ ∃ a, a < k ∧ repB (slf R) S a = true ∧ m = clP (slf R) a S
  | 0, m => by simp [ptL]
  | k + 1, m => by
    rw [ptL, List.mem_append, ptL_mem2 k m]
    constructor
    · rintro (⟨a, ha, h⟩ | h)
      · exact ⟨a, by omega, h⟩
      · split at h
        · rename_i ht
          exact ⟨k, by omega, ht, by simpa using h⟩
        · cases h
    · rintro ⟨a, ha, ht, he⟩
      by_cases e : a = k
      · subst e
        right
        rw [if_pos (show hdB R S a = true from ht), he]
        simp
      · exact .inl ⟨a, by omega, ht, he⟩
theorem ptL_nodup : ∀ k, (ptL R S k).Nodup
  | 0 => List.nodup_nil
  | k + 1 => by
    rw [ptL, List.nodup_append]
    refine ⟨ptL_nodup k, by split <;> simp, fun m hm m' hm' e => ?_⟩
    obtain ⟨a, ha, ht, rfl⟩ := (ptL_mem2 k m).1 hm
    split at hm'
    · rename_i ht2
      rw [List.mem_singleton] at hm'
      have h1 := kfL_rep ht
      have h2 := kfL_rep (Q := slf R) (S := S) (a := k) ht2
      rw [e, hm', h2] at h1
      omega
    · cases hm'
theorem mpL_look : ∀ k a, a < k → repB (slf R) S a = true → lookL (mpL R S k) a = mnR R a S
  | 0, a, h, _ => by omega
  | k + 1, a, h, ht => by
    rw [mpL]
    by_cases e : a = k
    · subst e
      rw [if_pos (show hdB R S a = true from ht), lookL, if_pos rfl]
    · split
      · rw [lookL, if_neg (fun e2 => e e2.symm)]
        exact mpL_look k a (by omega) ht
      · exact mpL_look k a (by omega) ht
include hq htr htt in
theorem srt_same : srtL R S = prO Q S S := by
  obtain ⟨hpm, hord⟩ := insI_sorts (lt := ltP (mpL R S S)) (d := ([] : List Int)) (fun a b h => by unfold ltP at *; simp at h ⊢; omega) (fun a b c h1 h2 => by unfold ltP at *; simp at h1 h2 ⊢; omega) (ptL R S S)
  have hnd : (srtL R S).Nodup := hpm.nodup_iff.2 (ptL_nodup S)
  have hmem : ∀ m, m ∈ srtL R S ↔ ∃ a, a < S ∧ repB (slf R) S a = true ∧ m = clP (slf R) a S := fun m => (hpm.mem_iff).trans (ptL_mem2 S m)
  refine eq_of_both (r := keyG Q S) (fun a b h1 h2 => by unfold keyG at h1 h2; omega) _ _ ?_ (prO_pair hq htr htt S (Nat.le_refl _)) fun m => ?_
  · have h2 : (srtL R S).Pairwise fun a b => ltP (mpL R S S) b a = false ∧ a ≠ b ∧ a ∈ srtL R S ∧ b ∈ srtL R S := by
      refine List.Pairwise.imp_of_mem (R := fun a b => ltP (mpL R S S) b a = false ∧ a ≠ b) ?_ (hord.and hnd)
      intro a b ha hb h
      exact ⟨h.1, h.2, ha, hb⟩
    refine h2.imp fun {m m'} h => ?_
    obtain ⟨h3, h4, h5, h6⟩ := h
    obtain ⟨a, ha, ra, rfl⟩ := (hmem m).1 h5
    obtain ⟨b, hb, rb, rfl⟩ := (hmem m').1 h6
    unfold ltP at h3
    rw [decide_eq_false_iff_not, kfL_rep ra, kfL_rep rb, mpL_look S a ha ra, mpL_look S b hb rb] at h3
    have hab : a ≠ b := fun e => h4 (by rw [e])
    unfold keyG
    rw [kfL_rep ra, kfL_rep rb]
    rw [← hq] at ra rb
    rcases rep_order hq htr htt ha hb ra rb hab with h | h <;> omega
  · rw [hmem, prO_mem, ← hq]
    constructor
    · rintro ⟨a, ha, ra, rfl⟩
      have h1 : 1 ≤ cnP Q a S := List.length_pos_of_mem (List.mem_filter.2 ⟨List.mem_range.2 ha, q_refl htt ha⟩)
      have h2 := cnP_le Q a S
      exact ⟨S - cnP Q a S, a, by omega, ha, takR_iff.2 ⟨by omega, ra⟩, rfl⟩
    · rintro ⟨e, a, he, ha, ht, rfl⟩
      exact ⟨a, ha, (takR_iff.1 ht).2, rfl⟩
end
theorem clP_congr {T Q : Rel} {S a : Nat} (h : ∀ x y, x < S → y < S → T x y = Q x y) (ha : a < S) : clP T a S = clP Q a S := by
  unfold clP
  congr 1
  exact List.filter_congr fun b hb => by rw [h a b ha (List.mem_range.1 hb), h b a (List.mem_range.1 hb) ha]
theorem cnP_congr {T Q : Rel} {S a : Nat} (h : ∀ x y, x < S → y < S → T x y = Q x y) (ha : a < S) : cnP T a S = cnP Q a S := by
  unfold cnP
  congr 1
  exact List.filter_congr fun b hb => h a b ha (List.mem_range.1 hb)
theorem prI_congr {T Q : Rel} {S reach : Nat} (h : ∀ x y, x < S → y < S → T x y = Q x y) : ∀ k, k ≤ S → prI T S reach k = prI Q S reach k
  | 0, _ => rfl
  | k + 1, hk => by
    rw [prI, prI, prI_congr h k (by omega)]
    unfold takR
    rw [clP_congr h (by omega), cnP_congr h (by omega)]
theorem prO_congr {T Q : Rel} {S : Nat} (h : ∀ x y, x < S → y < S → T x y = Q x y) : ∀ d, prO T S d = prO Q S d
  | 0 => rfl
  | d + 1 => by rw [prO, prO, prO_congr h d, prI_congr h S (Nat.le_refl _)]
/-- What the closure is of a tournament. -/
theorem tour_closed {S : Nat} {l : List Int} (hS9 : S ≤ 9) (h0 : l.any off01 = false) (hB : tB S l = false) : (∀ x y, x < S → y < S → c1 S (t0R S l) S x y = slf (c1 S (b0R S l) S) x y) ∧ (∀ x y z, x < S → y < S → z < S → slf (c1 S (b0R S l) S) x y = true → slf (c1 S (b0R S l) S) y z = true → slf (c1 S (b0R S l) S) x z = true) ∧ (∀ x y, x < S → y < S → slf (c1 S (b0R S l) S) x y = true ∨ slf (c1 S (b0R S l) S) y x = true) := by
  refine ⟨fun x y hx hy => c1_self (fun x y hx hy => ?_) S (Nat.le_refl _) x y hx hy, fun x y z hx hy hz h1 h2 => ?_, fun x y hx hy => ?_⟩
  · unfold t0R b0R
    rw [beB_at hS9 hx hy]
    rfl
  · unfold slf at *
    rw [Bool.or_eq_true, decide_eq_true_iff] at *
    rcases h1 with h1 | h1
    · rcases h2 with h2 | h2
      · exact .inl (c1_trans _ hx hy hz h1 h2)
      · subst h2; exact .inl h1
    · subst h1; exact h2
  · unfold slf
    by_cases e : x = y
    · left; simp [e]
    · rcases tot_one hS9 h0 hB hx hy e with h | h
      · left; rw [c1_mono _ hx hy h S]; rfl
      · right; rw [c1_mono _ hy hx h S]; rfl
theorem parts_same {S : Nat} {l : List Int} (hS9 : S ≤ 9) (h0 : l.any off01 = false) (hB : tB S l = false) : srtL (c1 S (b0R S l) S) S = prO (c1 S (t0R S l) S) S S := by
  obtain ⟨h1, h2, h3⟩ := tour_closed hS9 h0 hB
  rw [prO_congr h1, srt_same rfl h2 h3]
end Go.Proofs.Ythbpdfkaacgpoaa
