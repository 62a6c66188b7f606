/-
  What makers make, as functions; the list of it by ranks. No program in sight.
-/
import Derived.Test.YtnbgnoimanpjnaaGrank
namespace Go.Proofs.Ytnbgnoimanpjnaa
set_option linter.unusedVariables false

/-- First x, then m. -/
def compF (x m : Nat → Nat) (i : Nat) : Nat := m (x i)
theorem comp_id (x : Nat → Nat) : compF x id = x := rfl
theorem id_comp (x : Nat → Nat) : compF id x = x := rfl
theorem comp_assoc (x y z : Nat → Nat) : compF (compF x y) z = compF x (compF y z) := rfl
theorem id_mv (n : Nat) : Mv n id := ⟨⟨fun i h => h, fun i j _ _ h => h⟩, fun i _ => rfl⟩
theorem comp_mv {n : Nat} {x y : Nat → Nat} (P : Mv n x) (Q : Mv n y) : Mv n (compF x y) :=
  ⟨⟨fun i hi => Q.pm.lt _ (P.pm.lt i hi), fun i j hi hj h => P.pm.inj i j hi hj (Q.pm.inj _ _ (P.pm.lt i hi) (P.pm.lt j hj) h)⟩, fun i hi => by unfold compF; rw [P.st i hi, Q.st i hi]⟩
theorem mv_inj {n : Nat} {x : Nat → Nat} (P : Mv n x) : ∀ i j, x i = x j → i = j := fun i j h => by
  by_cases hi : i < n <;> by_cases hj : j < n
  · exact P.pm.inj i j hi hj h
  · have := P.pm.lt i hi
    rw [h, P.st j (by omega)] at this
    omega
  · have := P.pm.lt j hj
    rw [← h, P.st i (by omega)] at this
    omega
  · rw [P.st i (by omega), P.st j (by omega)] at h; exact h
inductive GenF (ms : List (Nat → Nat)) : (Nat → Nat) → Prop
  | one : GenF ms id
  | step {x m : Nat → Nat} : GenF ms x → m ∈ ms → GenF ms (compF x m)
section
variable {n : Nat} {ms : List (Nat → Nat)} {x y : Nat → Nat}
theorem GenF.mv (hms : ∀ m ∈ ms, Mv n m) (h : GenF ms x) : Mv n x := by
  induction h with
  | one => exact id_mv n
  | step _ hm ih => exact comp_mv ih (hms _ hm)
theorem GenF.closed {G : (Nat → Nat) → Prop} (h1 : G id) (h2 : ∀ x, G x → ∀ m ∈ ms, G (compF x m)) (h : GenF ms x) : G x := by
  induction h with
  | one => exact h1
  | step _ hm ih => exact h2 _ ih _ hm
theorem GenF.maker (h : x ∈ ms) : GenF ms x := by
  have := GenF.step (ms := ms) GenF.one h
  exact this
theorem GenF.mul (hx : GenF ms x) (hy : GenF ms y) : GenF ms (compF x y) := by
  induction hy with
  | one => exact hx
  | @step x' m _ hm ih => exact (GenF.step ih hm : GenF ms (compF (compF x x') m))
/-- x, k times. -/
def powF (x : Nat → Nat) : Nat → Nat → Nat
  | 0 => id
  | k + 1 => compF (powF x k) x
theorem pow_add (x : Nat → Nat) (a : Nat) : ∀ b, powF x (a + b) = compF (powF x a) (powF x b)
  | 0 => rfl
  | b + 1 => by
    rw [← Nat.add_assoc]
    show compF (powF x (a + b)) x = _
    rw [pow_add x a b]
    rfl
theorem pow_mv (P : Mv n x) : ∀ k, Mv n (powF x k)
  | 0 => id_mv n
  | k + 1 => comp_mv (pow_mv P k) P
theorem GenF.pow (hx : GenF ms x) : ∀ k, GenF ms (powF x k)
  | 0 => GenF.one
  | k + 1 => (GenF.pow hx k).mul hx
/-- It comes back. -/
theorem pow_back (P : Mv n x) : ∃ k, 1 ≤ k ∧ powF x k = id := by
  obtain ⟨a, b, hab, hb, he⟩ := pigeon (fac n) (fun k => rkF n (powF x k)) (fun k _ => rk_lt (pow_mv P k).pm)
  have h1 : powF x a = powF x b := rk_inj (pow_mv P a) (pow_mv P b) he
  refine ⟨b - a, by omega, ?_⟩
  have h2 : powF x b = compF (powF x (b - a)) (powF x a) := by rw [← pow_add]; congr 1; omega
  rw [h2] at h1
  funext i
  have := congrFun h1 i
  exact (mv_inj (pow_mv P a) _ _ this).symm
/-- What undoes it is made, too. -/
theorem GenF.inv (hms : ∀ m ∈ ms, Mv n m) (hx : GenF ms x) : ∃ y, GenF ms y ∧ compF x y = id ∧ compF y x = id := by
  obtain ⟨k, hk, he⟩ := pow_back (hx.mv hms)
  refine ⟨powF x (k - 1), hx.pow _, ?_, ?_⟩
  · have h1 := pow_add x 1 (k - 1)
    rw [show 1 + (k - 1) = k by omega, he] at h1
    exact h1.symm
  · have h1 := pow_add x (k - 1) 1
    rw [show k - 1 + 1 = k by omega, he] at h1
    exact h1.symm
end
/-- Two lists that rise, of the same members, are one. -/
theorem rise_eq {α : Type} (key : α → Nat) : ∀ (L L' : List α), L.Pairwise (fun a b => key a < key b) → L'.Pairwise (fun a b => key a < key b) → (∀ x, x ∈ L ↔ x ∈ L') → L = L'
  | [], [], _, _, _ => rfl
  | [], b :: L', _, _, h => absurd ((h b).2 (by simp)) (by simp)
  | a :: L, [], _, _, h => absurd ((h a).1 (by simp)) (by simp)
  | a :: L, b :: L', h1, h2, h => by
    obtain ⟨p1, p2⟩ := List.pairwise_cons.1 h1
    obtain ⟨q1, q2⟩ := List.pairwise_cons.1 h2
    have hab : a = b := by
      rcases List.mem_cons.1 ((h a).1 (by simp)) with e | e
      · exact e
      · rcases List.mem_cons.1 ((h b).2 (by simp)) with e2 | e2
        · exact e2.symm
        · have := p1 b e2
          have := q1 a e
          omega
    subst hab
    rw [rise_eq key L L' p2 q2 (fun x => ⟨fun hx => ?_, fun hx => ?_⟩)]
    · rcases List.mem_cons.1 ((h x).1 (by simp [hx])) with e | e
      · subst e; have := p1 x hx; omega
      · exact e
    · rcases List.mem_cons.1 ((h x).2 (by simp [hx])) with e | e
      · subst e; have := q1 x hx; omega
      · exact e
open Classical in
/-- All that the makers make, by ranks. -/
noncomputable def GL (n : Nat) (ms : List (Nat → Nat)) : List (Nat → Nat) := ((List.range (fac n)).filter fun k => decide (GenF ms (unF n k))).map (unF n)
section
variable {n : Nat} {ms : List (Nat → Nat)}
theorem mem_GL (hms : ∀ m ∈ ms, Mv n m) (x : Nat → Nat) : x ∈ GL n ms ↔ GenF ms x := by
  unfold GL
  simp only [List.mem_map, List.mem_filter, List.mem_range, decide_eq_true_eq]
  constructor
  · rintro ⟨k, ⟨_, h⟩, rfl⟩
    exact h
  · intro h
    have P := h.mv hms
    refine ⟨rkF n x, ⟨rk_lt P.pm, ?_⟩, un_rk P⟩
    rw [un_rk P]
    exact h
theorem GL_rise (n : Nat) (ms : List (Nat → Nat)) : (GL n ms).Pairwise (fun a b => rkF n a < rkF n b) := by
  unfold GL
  rw [List.pairwise_map]
  have h1 : ((List.range (fac n)).filter fun k => @decide (GenF ms (unF n k)) (Classical.propDecidable _)).Pairwise (fun a b => a < b ∧ a < fac n ∧ b < fac n) := by
    refine List.Pairwise.filter _ ?_
    refine List.Pairwise.imp_of_mem (fun {a b} ha hb h => ⟨h, List.mem_range.1 ha, List.mem_range.1 hb⟩) List.pairwise_lt_range
  refine h1.imp fun {a b} h => ?_
  rw [rk_un h.2.1, rk_un h.2.2]
  exact h.1
theorem GL_uniq (hms : ∀ m ∈ ms, Mv n m) {L : List (Nat → Nat)} (h1 : ∀ x, x ∈ L ↔ GenF ms x) (h2 : L.Pairwise (fun a b => rkF n a < rkF n b)) : L = GL n ms :=
  rise_eq (rkF n) L _ h2 (GL_rise n ms) fun x => by rw [h1, mem_GL hms]
theorem GL_len (hms : ∀ m ∈ ms, Mv n m) : 1 ≤ (GL n ms).length ∧ (GL n ms).length ≤ fac n := by
  constructor
  · exact List.length_pos_of_mem ((mem_GL hms id).2 GenF.one)
  · unfold GL
    rw [List.length_map]
    exact Nat.le_trans (List.length_filter_le _ _) (by simp)
/-- Only the makers count, not how often nor in which order they stand. -/
theorem gen_congr {ms' : List (Nat → Nat)} (h : ∀ m, m ∈ ms ↔ m ∈ ms') (x : Nat → Nat) : GenF ms x ↔ GenF ms' x :=
  ⟨fun hx => hx.closed (G := GenF ms') GenF.one (fun _ hy m hm => GenF.step hy ((h m).1 hm)), fun hx => hx.closed (G := GenF ms) GenF.one (fun _ hy m hm => GenF.step hy ((h m).2 hm))⟩
end
end Go.Proofs.Ytnbgnoimanpjnaa
