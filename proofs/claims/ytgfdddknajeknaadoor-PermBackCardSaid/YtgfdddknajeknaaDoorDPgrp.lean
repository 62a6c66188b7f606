/-
  Permutations composed and undone; the closed fact of the permutation laws; the walk over the law PermGroup.
-/
import Derived.Test.YtgfdddknajeknaaDoorDPsign
import Derived.Test.YtgfdddknajeknaaDoorDPalike
namespace Go.Proofs.YtgfdddknajeknaaDoor
set_option linter.unusedVariables false
open Go.RowKit

theorem permE_of {l : List Int} {N : Nat} {f : Nat → Nat} (P : PmL l N f) : permE l = 0 := by
  have h12 := P.n12
  have hl := P.len
  rw [permE_in (by omega) (by rw [hl]; exact perm_mem P), if_pos]
  rw [nodup_pairs hl]
  intro i j hi hj e
  rw [P.at' i hi, P.at' j (by omega)] at e
  have := P.pm.inj i j hi (by omega) (by omega)
  omega
theorem both_of {l m : List Int} {N : Nat} {f g : Nat → Nat} (P : PmL l N f) (Q : PmL m N g) : bothE l m = 0 := by
  unfold bothE
  rw [permE_of P, permE_of Q, if_neg (by simp), if_neg (by simp), if_neg (by rw [P.len, Q.len]; simp)]
theorem pm_then {l m : List Int} {N : Nat} {f g : Nat → Nat} (P : PmL l N f) (Q : PmL m N g) : PmL (thenL l m) N (fun i => g (f i)) := by
  refine ⟨by rw [then_len, P.len], P.n12, ⟨fun i hi => Q.pm.lt _ (P.pm.lt i hi), fun i j hi hj e => P.pm.inj i j hi hj (Q.pm.inj _ _ (P.pm.lt i hi) (P.pm.lt j hj) e)⟩, fun c hc => ?_⟩
  have h1 : c < l.length := by rw [P.len]; exact hc
  have h2 := P.at' c hc
  rw [List.getElem?_eq_getElem h1, Option.getD_some] at h2
  unfold thenL
  rw [List.getElem?_map, List.getElem?_eq_getElem h1, Option.map_some, Option.getD_some, h2, Int.toNat_natCast, Q.at' _ (P.pm.lt c hc)]
theorem pm_und {N : Nat} {f : Nat → Nat} (P : Pm N f) (h12 : N ≤ 12) : PmL (undF f N N) N (fL (undF f N N)) ∧ ∀ i, i < N → fL (undF f N N) (f i) = i := by
  have h0 : ∀ i, i < N → (undF f N N)[f i]?.getD 0 = (i : Int) := fun i hi => und_get P N (Nat.le_refl _) i hi
  have h1 : ∀ i, i < N → fL (undF f N N) (f i) = i := fun i hi => by unfold fL; rw [h0 i hi]; simp
  have h2 : ∀ c, c < N → ∃ i, i < N ∧ f i = c := fun c hc => by
    have h := P.per_spec hc
    refine ⟨it f (per f N c - 1) c, P.it_lt hc _, ?_⟩
    have : f (it f (per f N c - 1) c) = it f (per f N c - 1 + 1) c := rfl
    rw [this, Nat.sub_add_cancel h.2.1]
    exact h.1
  refine ⟨⟨und_len f N N, h12, ⟨fun c hc => ?_, fun c d hc hd e => ?_⟩, fun c hc => ?_⟩, h1⟩
  · obtain ⟨i, hi, rfl⟩ := h2 c hc
    rw [h1 i hi]; exact hi
  · obtain ⟨i, hi, rfl⟩ := h2 c hc
    obtain ⟨j, hj, rfl⟩ := h2 d hd
    rw [h1 i hi, h1 j hj] at e
    rw [e]
  · obtain ⟨i, hi, rfl⟩ := h2 c hc
    rw [h0 i hi, h1 i hi]
theorem then_und {l : List Int} {N : Nat} {f : Nat → Nat} (P : PmL l N f) : thenL l (undF f N N) = stillL N := by
  refine List.ext_getElem (by rw [then_len, still_len, P.len]) fun i h1 h2 => ?_
  have hi : i < N := by simpa [still_len] using h2
  have h3 : i < l.length := by rw [P.len]; exact hi
  have h4 := P.at' i hi
  rw [List.getElem?_eq_getElem h3, Option.getD_some] at h4
  simp only [thenL, stillL, List.getElem_map, List.getElem_range, h4, Int.toNat_natCast]
  exact und_get P.pm N (Nat.le_refl _) i hi
theorem then_assoc {a b c : List Int} (hr : ∀ x ∈ a, 0 ≤ x ∧ x < (b.length : Int)) : thenL (thenL a b) c = thenL a (thenL b c) := by
  unfold thenL
  rw [List.map_map]
  refine List.map_congr_left fun x hx => ?_
  have h1 := hr x hx
  have h2 : x.toNat < b.length := by omega
  simp [h2]
theorem pm_eq {l : List Int} {N : Nat} {f : Nat → Nat} (P : PmL l N f) : ∀ i, i < N → fL l i = f i := fun i hi => by
  unfold fL
  rw [P.at' i hi]; simp
/-- A list's sign. -/
def sgL (l : List Int) : Int := sgnZ (inv (fL l) l.length)
theorem sgL_eq {l : List Int} {N : Nat} {f : Nat → Nat} (P : PmL l N f) : sgL l = sgnZ (inv f N) := by
  unfold sgL
  rw [P.len, inv_congr (pm_eq P)]
theorem sgL_then {l m : List Int} {N : Nat} {f g : Nat → Nat} (P : PmL l N f) (Q : PmL m N g) : sgL (thenL l m) = sgL l * sgL m := by
  rw [sgL_eq (pm_then P Q), sgL_eq P, sgL_eq Q, Int.mul_comm, ← sgn_add]
  exact sgn_mod (inv_comp Q.pm P.pm)

theorem three {a b c : List Int} (h : bothE a b = 0) (g : bothE b c = 0) : bothE (thenL a b) c = 0 ∧ bothE a (thenL b c) = 0 ∧ thenL (thenL a b) c = thenL a (thenL b c) := by
  obtain ⟨h1, h2, h3⟩ := both_zero h
  obtain ⟨g1, g2, g3⟩ := both_zero g
  have P := pm_of h1
  have Q := pm_of h2
  have R := pm_of g2
  rw [← h3] at Q
  rw [← g3, ← h3] at R
  exact ⟨both_of (pm_then P Q) R, both_of P (pm_then Q R), then_assoc (by rw [← h3]; exact perm_mem P)⟩

theorem turns_any (w : World) :
    Calls Tryd.prog 11 #[] w fun e w' => e = .returned (.bool true) ∧ Below w.heap.size w w' := by
  have HC := hid (fun (v u : Value) (w1 : World) (h1 : Sl w1 v [1, 0, 2]) (h2 : Sl w1 u [0, 2, 1]) => Compose_ok v u [1, 0, 2] [0, 2, 1] w1 h1 h2 (by decide))
  have ht : thenL [1, 0, 2] [0, 2, 1] = [2, 0, 1] := by decide
  rw [ht] at HC
  have S1 := hid ((Sl.lit w #[.int .i64 1, .int .i64 0, .int .i64 2] [1, 0, 2] rfl).below ((Below.refl _ _).alloc (Nat.le_refl _) (.cells #[.int .i64 0, .int .i64 2, .int .i64 1] 3)))
  have S2 : Hid (Sl ((w.alloc (.cells #[.int .i64 1, .int .i64 0, .int .i64 2] 3)).alloc (.cells #[.int .i64 0, .int .i64 2, .int .i64 1] 3)) (.slice (some ⟨w.heap.size + 1, 0, none⟩) 3 3) [0, 2, 1]) := hid (by
    have := Sl.lit (w.alloc (.cells #[.int .i64 1, .int .i64 0, .int .i64 2] 3)) #[.int .i64 0, .int .i64 2, .int .i64 1] [0, 2, 1] rfl
    rw [World.size_alloc] at this
    exact this)
  have B0 := hid (((Below.refl w.heap.size w).alloc (Nat.le_refl _) (.cells #[.int .i64 1, .int .i64 0, .int .i64 2] 3)).alloc (by simp) (.cells #[.int .i64 0, .int .i64 2, .int .i64 1] 3))
  clear ht
  go_enter Tryd.func11, Tryd.ntmps11
  go_wp2_with fail
  refine (HC.out _ _ _ S1.out S2.out).mono ?_
  rintro e w1 ⟨⟨r, rfl, hr⟩, hb1⟩
  have HBB := hid (B0.out.trans (hb1.mono (by simp; omega)))
  have HR2 := hid hr
  clear hr hb1
  go_wp2_with fail
  refine (ints_any _ _ [2, 0, 1] [2, 0, 1] _ ((HR2.out.alloc _).sl (by decide)) (Sl.lit _ _ _ rfl)).mono ?_
  rintro e w2 ⟨rfl, ⟨k, rfl⟩⟩
  have hd : decide ([(2 : Int), 0, 1] = [2, 0, 1]) = true := by decide
  rw [hd]
  go_wp2
  go_ret
  exact ⟨rfl, below_drewN (HBB.out.alloc HBB.out.size _) _⟩

end Go.Proofs.YtgfdddknajeknaaDoor
