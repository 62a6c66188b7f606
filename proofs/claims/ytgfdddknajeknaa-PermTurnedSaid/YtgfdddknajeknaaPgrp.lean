/-
  Permutations composed and undone; the closed fact of the permutation laws; the walk over the law PermGroup.
-/
import Derived.Test.YtgfdddknajeknaaPsign
import Derived.Test.YtgfdddknajeknaaPalike
namespace Go.Proofs.Ytgfdddknajeknaa
set_option linter.unusedVariables false
open Go.RowKit

theorem permE_of {l : List Int} {N : Nat} {f : Nat → Nat} (P : PmL l N f) : permE l = 0 := by
  have h12 := P.n12
  have hl := P.len
  rw [permE_in (by omega) (by rw [hl]; exact perm_mem P), if_pos]
  rw [nodup_pairs hl]
  intro i j hi hj e
  rw [P.at' i hi, P.at' j (by omega)] at e
  have := P.pm.inj i j hi (by omega) (by omega)
  omega
theorem both_of {l m : List Int} {N : Nat} {f g : Nat → Nat} (P : PmL l N f) (Q : PmL m N g) : bothE l m = 0 := by
  unfold bothE
  rw [permE_of P, permE_of Q, if_neg (by simp), if_neg (by simp), if_neg (by rw [P.len, Q.len]; simp)]
theorem pm_then {l m : List Int} {N : Nat} {f g : Nat → Nat} (P : PmL l N f) (Q : PmL m N g) : PmL (thenL l m) N (fun i => g (f i)) := by
  refine ⟨by rw [then_len, P.len], P.n12, ⟨fun i hi => Q.pm.lt _ (P.pm.lt i hi), fun i j hi hj e => P.pm.inj i j hi hj (Q.pm.inj _ _ (P.pm.lt i hi) (P.pm.lt j hj) e)⟩, fun c hc => ?_⟩
  have h1 : c < l.length := by rw [P.len]; exact hc
  have h2 := P.at' c hc
  rw [List.getElem?_eq_getElem h1, Option.getD_some] at h2
  unfold thenL
  rw [List.getElem?_map, List.getElem?_eq_getElem h1, Option.map_some, Option.getD_some, h2, Int.toNat_natCast, Q.at' _ (P.pm.lt c hc)]
theorem pm_und {N : Nat} {f : Nat → Nat} (P : Pm N f) (h12 : N ≤ 12) : PmL (undF f N N) N (fL (undF f N N)) ∧ ∀ i, i < N → fL (undF f N N) (f i) = i := by
  have h0 : ∀ i, i < N → (undF f N N)[f i]?.getD 0 = (i : Int) := fun i hi => und_get P N (Nat.le_refl _) i hi
  have h1 : ∀ i, i < N → fL (undF f N N) (f i) = i := fun i hi => by unfold fL; rw [h0 i hi]; simp
  have h2 : ∀ c, c < N → ∃ i, i < N ∧ f i = c := fun c hc => by
    have h := P.per_spec hc
    refine ⟨it f (per f N c - 1) c, P.it_lt hc _, ?_⟩
    have : f (it f (per f N c - 1) c) = it f (per f N c - 1 + 1) c := rfl
    rw [this, Nat.sub_add_cancel h.2.1]
    exact h.1
  refine ⟨⟨und_len f N N, h12, ⟨fun c hc => ?_, fun c d hc hd e => ?_⟩, fun c hc => ?_⟩, h1⟩
  · obtain ⟨i, hi, rfl⟩ := h2 c hc
    rw [h1 i hi]; exact hi
  · obtain ⟨i, hi, rfl⟩ := h2 c hc
    obtain ⟨j, hj, rfl⟩ := h2 d hd
    rw [h1 i hi, h1 j hj] at e
    rw [e]
  · obtain ⟨i, hi, rfl⟩ := h2 c hc
    rw [h0 i hi, h1 i hi]
theorem then_und {l : List Int} {N : Nat} {f : Nat → Nat} (P : PmL l N f) : thenL l (undF f N N) = stillL N := by
  refine List.ext_getElem (by rw [then_len, still_len, P.len]) fun i h1 h2 => ?_
  have hi : i < N := by simpa [still_len] using h2
  have h3 : i < l.length := by rw [P.len]; exact hi
  have h4 := P.at' i hi
  rw [List.getElem?_eq_getElem h3, Option.getD_some] at h4
  simp only [thenL, stillL, List.getElem_map, List.getElem_range, h4, Int.toNat_natCast]
  exact und_get P.pm N (Nat.le_refl _) i hi
theorem then_assoc {a b c : List Int} (hr : ∀ x ∈ a, 0 ≤ x ∧ x < (b.length : Int)) : thenL (thenL a b) c = thenL a (thenL b c) := by
  unfold thenL
  rw [List.map_map]
  refine List.map_congr_left fun x hx => ?_
  have h1 := hr x hx
  have h2 : x.toNat < b.length := by omega
  simp [h2]
theorem pm_eq {l : List Int} {N : Nat} {f : Nat → Nat} (P : PmL l N f) : ∀ i, i < N → fL l i = f i := fun i hi => by
  unfold fL
  rw [P.at' i hi]; simp
/-- A list's sign. -/
def sgL (l : List Int) : Int := sgnZ (inv (fL l) l.length)
theorem sgL_eq {l : List Int} {N : Nat} {f : Nat → Nat} (P : PmL l N f) : sgL l = sgnZ (inv f N) := by
  unfold sgL
  rw [P.len, inv_congr (pm_eq P)]
theorem sgL_then {l m : List Int} {N : Nat} {f g : Nat → Nat} (P : PmL l N f) (Q : PmL m N g) : sgL (thenL l m) = sgL l * sgL m := by
  rw [sgL_eq (pm_then P Q), sgL_eq P, sgL_eq Q, Int.mul_comm, ← sgn_add]
  exact sgn_mod (inv_comp Q.pm P.pm)

theorem three {a b c : List Int} (h : bothE a b = 0) (g : bothE b c = 0) : bothE (thenL a b) c = 0 ∧ bothE a (thenL b c) = 0 ∧ thenL (thenL a b) c = thenL a (thenL b c) := by
  obtain ⟨h1, h2, h3⟩ := both_zero h
  obtain ⟨g1, g2, g3⟩ := both_zero g
  have P := pm_of h1
  have Q := pm_of h2
  have R := pm_of g2
  rw [← h3] at Q
  rw [← g3, ← h3] at R
  exact ⟨both_of (pm_then P Q) R, both_of P (pm_then Q R), then_assoc (by rw [← h3]; exact perm_mem P)⟩

theorem turns_any (w : World) :
    Calls Try.prog 14 #[] w fun e w' => e = .returned (.bool true) ∧ Below w.heap.size w w' := by
  have HC := hid (fun (v u : Value) (w1 : World) (h1 : Sl w1 v [1, 0, 2]) (h2 : Sl w1 u [0, 2, 1]) => Compose_ok v u [1, 0, 2] [0, 2, 1] w1 h1 h2 (by decide))
  have ht : thenL [1, 0, 2] [0, 2, 1] = [2, 0, 1] := by decide
  rw [ht] at HC
  have S1 := hid ((Sl.lit w #[.int .i64 1, .int .i64 0, .int .i64 2] [1, 0, 2] rfl).below ((Below.refl _ _).alloc (Nat.le_refl _) (.cells #[.int .i64 0, .int .i64 2, .int .i64 1] 3)))
  have S2 : Hid (Sl ((w.alloc (.cells #[.int .i64 1, .int .i64 0, .int .i64 2] 3)).alloc (.cells #[.int .i64 0, .int .i64 2, .int .i64 1] 3)) (.slice (some ⟨w.heap.size + 1, 0, none⟩) 3 3) [0, 2, 1]) := hid (by
    have := Sl.lit (w.alloc (.cells #[.int .i64 1, .int .i64 0, .int .i64 2] 3)) #[.int .i64 0, .int .i64 2, .int .i64 1] [0, 2, 1] rfl
    rw [World.size_alloc] at this
    exact this)
  have B0 := hid (((Below.refl w.heap.size w).alloc (Nat.le_refl _) (.cells #[.int .i64 1, .int .i64 0, .int .i64 2] 3)).alloc (by simp) (.cells #[.int .i64 0, .int .i64 2, .int .i64 1] 3))
  clear ht
  go_enter Try.func14, Try.ntmps14
  go_wp2_with fail
  refine (HC.out _ _ _ S1.out S2.out).mono ?_
  rintro e w1 ⟨⟨r, rfl, hr⟩, hb1⟩
  have HBB := hid (B0.out.trans (hb1.mono (by simp; omega)))
  have HR2 := hid hr
  clear hr hb1
  go_wp2_with fail
  refine (ints_any _ _ [2, 0, 1] [2, 0, 1] _ ((HR2.out.alloc _).sl (by decide)) (Sl.lit _ _ _ rfl)).mono ?_
  rintro e w2 ⟨rfl, ⟨k, rfl⟩⟩
  have hd : decide ([(2 : Int), 0, 1] = [2, 0, 1]) = true := by decide
  rw [hd]
  go_wp2
  go_ret
  exact ⟨rfl, below_drewN (HBB.out.alloc HBB.out.size _) _⟩

set_option maxHeartbeats 1000000 in
theorem permGroup_walk (w : World) (v : Value) (a : List Int) (hv : Sl w v a) (_ : ∀ x ∈ a, I64 x) (u : Value) (b : List Int) (hu : Sl w u b) (_ : ∀ x ∈ b, I64 x) (z : Value) (c : List Int) (hz : Sl w z c) (_ : ∀ x ∈ c, I64 x) :
    Calls Try.prog 4 #[v, u, z] w fun e w' => e = .returned (.bool true) ∧ Below w.heap.size w w' := by
  have HT := hid (turns_any w)
  by_cases hab : bothE a b = 0
  · obtain ⟨h1, h2, h3⟩ := both_zero hab
    have P := pm_of h1
    have Q := pm_of h2
    rw [← h3] at Q
    have hN12 := P.n12
    have PQ := pm_then P Q
    have hsg := sgL_then P Q
    have HAB := hid (fun w1 (h : Below w.heap.size w w1) => Compose_ok v u a b w1 (hv.below h) (hu.below h) hab)
    have HSA := hid (fun w1 (h : Below w.heap.size w w1) => Sign_ok v a w1 (hv.below h) h1)
    have HSB := hid (fun w1 (h : Below w.heap.size w w1) => Sign_ok u b w1 (hu.below h) h2)
    have HSC := hid (fun (r : Value) w1 (h : Sl w1 r (thenL a b)) => Sign_ok r (thenL a b) w1 h (permE_of PQ))
    rw [show sgnZ (inv (fL a) a.length) = sgL a from rfl] at HSA
    rw [show sgnZ (inv (fL b) b.length) = sgL b from rfl] at HSB
    rw [show sgnZ (inv (fL (thenL a b)) (thenL a b).length) = sgL (thenL a b) from rfl] at HSC
    have hb1 := sgn_bd (inv (fL a) a.length)
    have hb2 := sgn_bd (inv (fL b) b.length)
    rw [show sgnZ (inv (fL a) a.length) = sgL a from rfl] at hb1
    rw [show sgnZ (inv (fL b) b.length) = sgL b from rfl] at hb2
    have HV := hid (fun w1 (h : Below w.heap.size w w1) => Inverse_ok v a w1 (hv.below h) h1)
    have hund := (pm_und P.pm hN12).1
    have HAV := hid (fun (r : Value) w1 (h : Below w.heap.size w w1) (hr : Sl w1 r (undF (fL a) a.length a.length)) => Compose_ok v r a _ w1 (hv.below h) hr (both_of P hund))
    rw [then_und P] at HAV
    have HST := hid (fun w1 => still_ok a.length w1 (by omega))
    have HLU := hid (show (undF (fL a) a.length a.length).length ≤ 17592186044416 by rw [und_len]; omega)
    have HLS := hid (show (stillL a.length).length ≤ 17592186044416 by rw [still_len]; omega)
    have HLAB := hid (show (thenL a b).length ≤ 17592186044416 by rw [then_len]; omega)
    obtain ⟨va, vc, hve⟩ := hv.len
    have hpq : -1 ≤ sgL a * sgL b ∧ sgL a * sgL b ≤ 1 := by
      rcases hb1 with e | e <;> rcases hb2 with e2 | e2 <;> rw [e, e2] <;> decide
    have q1 : (sgL (thenL a b) != sgL a * sgL b) = false := by rw [hsg]; simp
    have hrr : sgL (thenL a b) * sgL (thenL a b) = 1 := by
      rw [hsg]
      rcases hb1 with e | e <;> rcases hb2 with e2 | e2 <;> rw [e, e2] <;> rfl
    have q2 : (sgL (thenL a b) * sgL (thenL a b) != 1) = false := by rw [hrr]; rfl
    have hrr2 : -1 ≤ sgL (thenL a b) * sgL (thenL a b) ∧ sgL (thenL a b) * sgL (thenL a b) ≤ 1 := by omega
    have HBC := hid (fun (hbc : bothE b c = 0) => (fun w1 (h : Below w.heap.size w w1) => Compose_ok u z b c w1 (hu.below h) (hz.below h) hbc))
    have HBN := hid (fun (hbc : bothE b c ≠ 0) => (fun w1 (h : Below w.heap.size w w1) => Compose_bad u z b c w1 (hu.below h) (hz.below h) hbc))
    have HPC := hid (fun (hbc : bothE b c = 0) => three hab hbc)
    have HC1 := hid (fun (r : Value) w1 (h : Below w.heap.size w w1) (hr : Sl w1 r (thenL a b)) hb => Compose_ok r z (thenL a b) c w1 hr (hz.below h) hb)
    have HC2 := hid (fun (r : Value) w1 (h : Below w.heap.size w w1) (hr : Sl w1 r (thenL b c)) hb => Compose_ok v r a (thenL b c) w1 (hv.below h) hr hb)
    have HLBC := hid (show (thenL b c).length ≤ 17592186044416 by rw [then_len]; omega)
    have HLAC := hid (show (thenL a (thenL b c)).length ≤ 17592186044416 by rw [then_len]; omega)
    subst hve
    obtain ⟨N, hNe⟩ : ∃ N, a.length = N := ⟨_, rfl⟩
    rw [hNe] at HAB HSA HC2 HAV HV HST HLU HLS ⊢
    clear hab h1 h2 h3 P Q hN12 PQ hsg hb1 hb2 hund hv hu hz hrr
    generalize sgL (thenL a b) = rs at *
    generalize sgL a = pa at *
    generalize sgL b = qb at *
    generalize undF (fL a) N N = ul at *
    generalize stillL N = sl at *
    go_enter Try.func4, Try.ntmps4
    go_wp2_with fail
    refine HT.out.mono ?_
    rintro e w1 ⟨rfl, hb1⟩
    have B1 := hid hb1
    clear hb1
    go_wp2_with fail
    refine (HAB.out _ B1.out).mono ?_
    rintro e w2 ⟨⟨r2, rfl, hr2⟩, hb2⟩
    have B2 := hid (B1.out.trans (hb2.mono B1.out.size))
    have R2 := hid hr2
    clear hb2 hr2
    go_wp2_with fail
    refine (HSA.out _ B2.out).mono ?_
    rintro e w3 ⟨rfl, hb3⟩
    have B3 := hid (B2.out.trans (hb3.mono B2.out.size))
    have R3 := hid (R2.out.below hb3)
    clear hb3
    go_wp2_with fail
    refine (HSB.out _ B3.out).mono ?_
    rintro e w4 ⟨rfl, hb4⟩
    have B4 := hid (B3.out.trans (hb4.mono B3.out.size))
    have R4 := hid (R3.out.below hb4)
    clear hb4
    go_wp2_with fail
    refine (HSC.out _ _ (R4.out.sl HLAB.out)).mono ?_
    rintro e w5 ⟨rfl, hb5⟩
    have B5 := hid (B4.out.trans (hb5.mono B4.out.size))
    have R5 := hid (R4.out.below hb5)
    clear hb5
    go_wp2_with fail
    refine (HV.out _ B5.out).mono ?_
    rintro e w6 ⟨⟨r6, rfl, hr6⟩, hb6⟩
    have B6 := hid (B5.out.trans (hb6.mono B5.out.size))
    have R6 := hid (R5.out.below hb6)
    have V6 := hid hr6
    clear hb6 hr6
    go_wp2_with fail
    refine (HAV.out _ _ B6.out (V6.out.sl HLU.out)).mono ?_
    rintro e w7 ⟨⟨r7, rfl, hr7⟩, hb7⟩
    have B7 := hid (B6.out.trans (hb7.mono B6.out.size))
    have R7 := hid (R6.out.below hb7)
    have V7 := hid hr7
    clear hb7 hr7
    go_wp2_with fail
    refine (HST.out _).mono ?_
    rintro e w8 ⟨⟨r8, rfl, hr8⟩, hb8⟩
    have B8 := hid (B7.out.trans (hb8.mono B7.out.size))
    have R8 := hid (R7.out.below hb8)
    have V8 := hid (V7.out.below hb8)
    have S8 := hid hr8
    clear hb8 hr8
    go_wp2_with fail
    refine (ints_any _ _ sl sl _ (V8.out.sl HLS.out) (S8.out.sl HLS.out)).mono ?_
    rintro e w9 ⟨rfl, n9, rfl⟩
    have hd : decide (sl = sl) = true := by simp
    have B9 := hid (below_drewN B8.out n9)
    have R9 := hid (R8.out.drewN n9)
    by_cases hbc : bothE b c = 0
    · have HBC2 := hid (HBC.out hbc)
      obtain ⟨t1, t2, t3⟩ := HPC.out hbc
      have HC12 := hid (fun (r : Value) w1 (h : Below w.heap.size w w1) (hr : Sl w1 r (thenL a b)) => HC1.out r w1 h hr t1)
      have HC22 := hid (fun (r : Value) w1 (h : Below w.heap.size w w1) (hr : Sl w1 r (thenL b c)) => HC2.out r w1 h hr t2)
      rw [t3] at HC12
      clear hbc t1 t2 t3
      generalize thenL a (thenL b c) = xs at *
      go_wp2_with fail
      refine (HBC2.out _ B9.out).mono ?_
      rintro e w10 ⟨⟨r10, rfl, hr10⟩, hb10⟩
      have B10 := hid (B9.out.trans (hb10.mono B9.out.size))
      have R10 := hid (R9.out.below hb10)
      have V10 := hid hr10
      clear hb10 hr10
      go_wp2_with fail
      refine (HC12.out _ _ B10.out (R10.out.sl HLAB.out)).mono ?_
      rintro e w11 ⟨⟨r11, rfl, hr11⟩, hb11⟩
      have B11 := hid (B10.out.trans (hb11.mono B10.out.size))
      have V11 := hid (V10.out.below hb11)
      have S11 := hid hr11
      clear hb11 hr11
      go_wp2_with fail
      refine (HC22.out _ _ B11.out (V11.out.sl HLBC.out)).mono ?_
      rintro e w12 ⟨⟨r12, rfl, hr12⟩, hb12⟩
      have B12 := hid (B11.out.trans (hb12.mono B11.out.size))
      have S12 := hid (S11.out.below hb12)
      have T12 := hid hr12
      clear hb12 hr12
      go_wp2_with fail
      refine (ints_any _ _ xs xs _ (S12.out.sl HLAC.out) (T12.out.sl HLAC.out)).mono ?_
      rintro e w13 ⟨rfl, n13, rfl⟩
      have hd2 : decide (xs = xs) = true := by simp
      go_wp2
      go_ret
      exact ⟨rfl, below_drewN B12.out _⟩
    · have HBN2 := hid (HBN.out hbc)
      have qz : (bothE b c != 0) = true := by simpa using hbc
      clear hbc
      generalize bothE b c = e0 at *
      go_wp2_with fail
      refine (HBN2.out _ B9.out).mono ?_
      rintro e w10 ⟨rfl, hb10⟩
      have B10 := hid (B9.out.trans (hb10.mono B9.out.size))
      clear hb10
      go_wp2
      go_ret
      exact ⟨rfl, B10.out⟩
  · have HC := hid (fun w1 (h : Below w.heap.size w w1) => Compose_bad v u a b w1 (hv.below h) (hu.below h) hab)
    have q : (bothE a b != 0) = true := by simpa using hab
    clear hab hv hu hz
    generalize bothE a b = e0 at *
    go_enter Try.func4, Try.ntmps4
    go_wp2_with fail
    refine HT.out.mono ?_
    rintro e w1 ⟨rfl, hb1⟩
    go_wp2_with fail
    refine (HC.out _ hb1).mono ?_
    rintro e w2 ⟨rfl, hb2⟩
    have HB := hid (hb1.trans (hb2.mono hb1.size))
    clear hb2
    go_wp2
    go_ret
    exact ⟨rfl, HB.out⟩
end Go.Proofs.Ytgfdddknajeknaa
