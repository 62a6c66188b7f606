/-
  The walks over field.Inv, Pow, Root, Log, Trace and Check. Conditions: the slice can be read; the numbers are of 64 bits; the primes are laid.
-/
import Derived.Test.YthdlhfgeminoiaaDoorFpow
import Derived.Test.YthdlhfgeminoiaaDoorFlsums
namespace Go.Proofs.YthdlhfgeminoiaaDoor
set_option linter.unusedVariables false
open Go.RowKit

theorem nz_i64 {P : Nat} (hP : 2 ≤ P) (hP2 : P ≤ 64) (n K : Nat) : ∀ x ∈ nZ (dgL P n K), I64 x := by
  intro x hx
  simp only [nZ, List.mem_map, dgL, List.mem_range] at hx
  obtain ⟨y, ⟨i, _, rfl⟩, rfl⟩ := hx
  have : dg P n i < P := Nat.mod_lt _ (by omega)
  unfold I64
  omega
theorem FOk.fw {P K n : Nat} (h : FOk P K n) {w : World} {u : Value} {E L : Nat → Nat} (hu : Sl w u (nZ (dgL P n K))) (X : FX P K (dgL P n K) E L) : FW w P K (dgL P n K) u E L := ⟨h.fb, X, hu, dgL_len _ _ _, dgL_lt h.p2 _⟩
theorem FOk.i64 {P K n : Nat} (h : FOk P K n) : I64 (P : Int) ∧ I64 (K : Int) := by
  have := h.p61
  have := h.k6
  unfold I64
  omega
theorem with1_ok {P K n a Q : Nat} (hQ : Q = P ^ K) (h : FOk P K n) {u v : Value} {w : World} (hp : Prs w) (hu : Sl w u (nZ (dgL P n K))) (hv : Sl w v [(a : Int)]) (ha : a < P ^ K) :
    Calls Tryd.prog 41 #[fldV P K u, v] w fun e w' => e = .returned (.tuple #[rmV P K u Q, .int .i64 0]) ∧ Below w.heap.size w w' := by
  have hq := h.q64
  have h1 := with_any P K u v (nZ (dgL P n K)) [(a : Int)] w h.i64.1 h.i64.2 hp hu (nz_i64 h.p2 (by have := h.p61; omega) n K) hv (by intro x hx; simp at hx; subst hx; unfold I64; omega)
  have h2 : wiE P K (nZ (dgL P n K)) [(a : Int)] = 0 := h.wi (by intro x hx; simp at hx; subst hx; omega)
  rw [h2] at h1
  unfold opR at h1
  rw [if_pos rfl, h.ord, ← hQ] at h1
  exact h1
theorem open1_ok {P K n Q : Nat} (hQ : Q = P ^ K) (h : FOk P K n) {u : Value} {w : World} (hp : Prs w) (hu : Sl w u (nZ (dgL P n K))) :
    Calls Tryd.prog 47 #[fldV P K u] w fun e w' => e = .returned (.tuple #[rmV P K u Q, .int .i64 0]) ∧ Below w.heap.size w w' := by
  have h1 := open_any P K u (nZ (dgL P n K)) w h.i64.1 h.i64.2 hp hu (nz_i64 h.p2 (by have := h.p61; omega) n K)
  rw [h.fa] at h1
  unfold opR at h1
  rw [if_pos rfl, h.ord, ← hQ] at h1
  exact h1
set_option maxHeartbeats 1000000 in
set_option maxRecDepth 100000 in
theorem Inv_bad (p k a : Int) (u : Value) (low : List Int) (w : World) (ip : I64 p) (ik : I64 k) (ia : I64 a) (hp : Prs w) (hu : Sl w u low) (hi64 : ∀ x ∈ low, I64 x) (hz : wiE p k low [a] ≠ 0) :
    Calls Tryd.prog 27 #[fldV p k u, .int .i64 a] w fun e w' => e = .returned (.tuple #[.int .i64 0, .int .i64 (wiE p k low [a])]) ∧ Below w.heap.size w w' := by
  obtain ⟨ax, cx, e1⟩ := hu.len
  subst e1
  have hb0 := ((Below.refl w.heap.size w).alloc (Nat.le_refl _) (.cells #[.int .i64 p, .int .i64 k, .slice ax low.length cx] 24)).alloc (by simp) (.cells #[.int .i64 a] 3)
  have hsl := (OI.lit1 0 (w.alloc (.cells #[.int .i64 p, .int .i64 k, .slice ax low.length cx] 24)) a (by omega)).sl (by simp)
  have HC := hid (with_any p k (.slice ax low.length cx) _ low [a] _ ip ik (hp.below hb0) (hu.below hb0) hi64 hsl (by intro z hz; simp at hz; subst hz; assumption))
  have HS := hid hb0
  have hne : (wiE p k low [a] != 0) = true := by simpa using hz
  unfold opR rm0 rmV fldV at HC
  rw [if_neg hz] at HC
  rw [World.size_alloc] at HC
  clear hb0 hsl hu hp hz hi64
  generalize wiE p k low [a] = E at *
  generalize low.length = L at *
  unfold fldV
  go_enter Tryd.func27, Tryd.ntmps27
  go_wp2_with fail
  refine HC.out.mono ?_
  rintro e w2 ⟨rfl, hb2⟩
  have hB2 := HS.out.trans (hb2.mono HS.out.size)
  have HB := hid (hB2.alloc hB2.size (.cells #[.int .i64 0, .int .i64 0, .slice none 0 0, .int .i64 0] 57))
  clear hb2 hB2 HS HC
  go_wp2
  go_ret2
  exact ⟨rfl, HB.out⟩

set_option maxHeartbeats 1000000 in
set_option maxRecDepth 100000 in
theorem Inv_zero {P K n a : Nat} (hF : FOk P K n) {u : Value} {w : World} {E L : Nat → Nat} (hp : Prs w) (hu : Sl w u (nZ (dgL P n K))) (X : FX P K (dgL P n K) E L) (ha : a < P ^ K) (h0 : a = 0) :
    Calls Tryd.prog 27 #[fldV P K u, .int .i64 a] w fun e w' => e = .returned (.tuple #[.int .i64 0, .int .i64 4]) ∧ Below w.heap.size w w' := by
  obtain ⟨Q, hQ⟩ : ∃ Q : Nat, Q = P ^ K := ⟨_, rfl⟩
  have HC0 := fun w1 (hb : Below w.heap.size w w1) v (hv : Sl w1 v [(a : Int)]) => with1_ok (u := u) hQ hF (hp.below hb) (hu.below hb) hv ha
  have HW := hid (fun w1 (hb : Below w.heap.size w w1) => hF.fw (hu.below hb) X)
  have HQE := hid hQ
  have hQ64 := hF.q64
  have hQq : Q ≤ 64 := by omega
  obtain ⟨ax, cx, e1⟩ := hu.len
  subst e1
  have hb0 := ((Below.refl w.heap.size w).alloc (Nat.le_refl _) (.cells #[.int .i64 P, .int .i64 K, .slice ax (nZ (dgL P n K)).length cx] 24)).alloc (by simp) (.cells #[.int .i64 (a : Int)] 3)
  have hsl := (OI.lit1 0 (w.alloc (.cells #[.int .i64 P, .int .i64 K, .slice ax (nZ (dgL P n K)).length cx] 24)) (a : Int) (by omega)).sl (by simp)
  have HC := hid (HC0 _ hb0 _ hsl)
  rw [World.size_alloc] at HC
  have HS := hid hb0
  have i4 : (Tryd.prog.info? 57).map (·.size) = some 4 := by kernel_rfl
  subst h0
  rw [show ((0 : Nat) : Int) = 0 from rfl] at HC HS ⊢
  clear hb0 hsl hu hp hF HC0 hQ
  generalize (nZ (dgL P n K)).length = N at *
  unfold rmV fldV at HC
  unfold fldV
  go_enter Tryd.func27, Tryd.ntmps27
  go_wp2_with fail
  refine HC.out.mono ?_
  rintro e w2 ⟨rfl, hb2⟩
  have hB2 := HS.out.trans (hb2.mono HS.out.size)
  have HB := hid (And.intro (Arr.new w2 57 [.int .i64 (P : Int), .int .i64 (K : Int), .slice ax N cx, .int .i64 (Q : Int)]) (hB2.alloc hB2.size (.cells #[.int .i64 (P : Int), .int .i64 (K : Int), .slice ax N cx, .int .i64 (Q : Int)] 57)))
  clear hb2 hB2 HS HC
  go_wp2
  go_ret2
  exact ⟨rfl, HB.out.2⟩

set_option maxHeartbeats 1000000 in
set_option maxRecDepth 100000 in
theorem Inv_ok {P K n a : Nat} (hF : FOk P K n) {u : Value} {w : World} {E L : Nat → Nat} (hp : Prs w) (hu : Sl w u (nZ (dgL P n K))) (X : FX P K (dgL P n K) E L) (ha : a < P ^ K) (h0 : 1 ≤ a) :
    Calls Tryd.prog 27 #[fldV P K u, .int .i64 a] w fun e w' => e = .returned (.tuple #[.int .i64 (mpF P K (dgL P n K) a (P ^ K - 2) : Nat), .int .i64 0]) ∧ Below w.heap.size w w' := by
  obtain ⟨Q, hQ⟩ : ∃ Q : Nat, Q = P ^ K := ⟨_, rfl⟩
  have HC0 := fun w1 (hb : Below w.heap.size w w1) v (hv : Sl w1 v [(a : Int)]) => with1_ok (u := u) hQ hF (hp.below hb) (hu.below hb) hv ha
  have HW := hid (fun w1 (hb : Below w.heap.size w w1) => hF.fw (hu.below hb) X)
  have HQE := hid hQ
  have hQ64 := hF.q64
  have hQq : Q ≤ 64 := by omega
  have hq2 := hF.fb.q2
  have hp2 := hF.fb.p2
  obtain ⟨R, hR⟩ : ∃ R, R = mpF P K (dgL P n K) a (P ^ K - 2) := ⟨_, rfl⟩
  rw [← hR]
  have HR := hid hR
  clear hR
  obtain ⟨ax, cx, e1⟩ := hu.len
  subst e1
  have hb0 := ((Below.refl w.heap.size w).alloc (Nat.le_refl _) (.cells #[.int .i64 P, .int .i64 K, .slice ax (nZ (dgL P n K)).length cx] 24)).alloc (by simp) (.cells #[.int .i64 (a : Int)] 3)
  have hsl := (OI.lit1 0 (w.alloc (.cells #[.int .i64 P, .int .i64 K, .slice ax (nZ (dgL P n K)).length cx] 24)) (a : Int) (by omega)).sl (by simp)
  have HC := hid (HC0 _ hb0 _ hsl)
  rw [World.size_alloc] at HC
  have HS := hid hb0
  have i4 : (Tryd.prog.info? 57).map (·.size) = some 4 := by kernel_rfl
  clear hb0 hsl hu hp hF HC0 hQ
  generalize (nZ (dgL P n K)).length = N at *
  unfold rmV fldV at HC
  unfold fldV
  go_enter Tryd.func27, Tryd.ntmps27
  go_wp2_with fail
  refine HC.out.mono ?_
  rintro e w2 ⟨rfl, hb2⟩
  have hB2 := HS.out.trans (hb2.mono HS.out.size)
  have HB := hid (And.intro (Arr.new w2 57 [.int .i64 (P : Int), .int .i64 (K : Int), .slice ax N cx, .int .i64 (Q : Int)]) (hB2.alloc hB2.size (.cells #[.int .i64 (P : Int), .int .i64 (K : Int), .slice ax N cx, .int .i64 (Q : Int)] 57)))
  clear hb2 hB2 HS HC
  have hne : ((a : Int) == 0) = false := by rw [beq_eq_false_iff_ne]; omega
  have HP := hid (fun w1 (hb : Below w.heap.size w w1) => pow_ok (Q := Q) (HW.out w1 hb) a (P ^ K - 2) ha (by omega))
  have hsub : ((Q : Int) - 2) = ((P ^ K - 2 : Nat) : Int) := by have := HQE.out; omega
  have r3 := HB.out.1.range
  have k3 := HB.out.1.cell 3
  simp only [List.getElem?_cons_zero, List.getElem?_cons_succ] at k3
  unfold rmV at HP
  rw [← HR.out] at HP
  generalize P ^ K - 2 = e2 at *
  clear hq2 hp2 HW
  go_wp2_with (refine wpList_load_mid rfl 57 _ rfl w2.heap.size 0 rfl [.int .i64 (P : Int), .int .i64 (K : Int), .slice ax N cx, .int .i64 (Q : Int)] _ r3 Tryd.underlying57 rfl i4 ?_)
  refine (HP.out _ HB.out.2).mono ?_
  rintro e w4 ⟨rfl, hb4⟩
  have HB4 := hid (HB.out.2.trans (hb4.mono HB.out.2.size))
  clear r3 k3
  go_wp2
  go_ret2
  exact ⟨rfl, HB4.out⟩

set_option maxHeartbeats 1000000 in
set_option maxRecDepth 100000 in
theorem Pow_bad (p k a m : Int) (u : Value) (low : List Int) (w : World) (ip : I64 p) (ik : I64 k) (ia : I64 a) (hp : Prs w) (hu : Sl w u low) (hi64 : ∀ x ∈ low, I64 x) (hz : wiE p k low [a] ≠ 0) :
    Calls Tryd.prog 28 #[fldV p k u, .int .i64 a, .int .i64 m] w fun e w' => e = .returned (.tuple #[.int .i64 0, .int .i64 (wiE p k low [a])]) ∧ Below w.heap.size w w' := by
  obtain ⟨ax, cx, e1⟩ := hu.len
  subst e1
  have hb0 := ((Below.refl w.heap.size w).alloc (Nat.le_refl _) (.cells #[.int .i64 p, .int .i64 k, .slice ax low.length cx] 24)).alloc (by simp) (.cells #[.int .i64 a] 3)
  have hsl := (OI.lit1 0 (w.alloc (.cells #[.int .i64 p, .int .i64 k, .slice ax low.length cx] 24)) a (by omega)).sl (by simp)
  have HC := hid (with_any p k (.slice ax low.length cx) _ low [a] _ ip ik (hp.below hb0) (hu.below hb0) hi64 hsl (by intro z hz; simp at hz; subst hz; assumption))
  have HS := hid hb0
  have hne : (wiE p k low [a] != 0) = true := by simpa using hz
  unfold opR rm0 rmV fldV at HC
  rw [if_neg hz] at HC
  rw [World.size_alloc] at HC
  clear hb0 hsl hu hp hz hi64
  generalize wiE p k low [a] = E at *
  generalize low.length = L at *
  unfold fldV
  go_enter Tryd.func28, Tryd.ntmps28
  go_wp2_with fail
  refine HC.out.mono ?_
  rintro e w2 ⟨rfl, hb2⟩
  have hB2 := HS.out.trans (hb2.mono HS.out.size)
  have HB := hid (hB2.alloc hB2.size (.cells #[.int .i64 0, .int .i64 0, .slice none 0 0, .int .i64 0] 57))
  clear hb2 hB2 HS HC
  go_wp2
  go_ret2
  exact ⟨rfl, HB.out⟩

set_option maxHeartbeats 1000000 in
set_option maxRecDepth 100000 in
theorem Pow_neg {P K n a : Nat} (hF : FOk P K n) {u : Value} {w : World} {E L : Nat → Nat} {m : Int} (hp : Prs w) (hu : Sl w u (nZ (dgL P n K))) (X : FX P K (dgL P n K) E L) (ha : a < P ^ K) (hm : m < 0) :
    Calls Tryd.prog 28 #[fldV P K u, .int .i64 a, .int .i64 m] w fun e w' => e = .returned (.tuple #[.int .i64 0, .int .i64 1]) ∧ Below w.heap.size w w' := by
  obtain ⟨Q, hQ⟩ : ∃ Q : Nat, Q = P ^ K := ⟨_, rfl⟩
  have HC0 := fun w1 (hb : Below w.heap.size w w1) v (hv : Sl w1 v [(a : Int)]) => with1_ok (u := u) hQ hF (hp.below hb) (hu.below hb) hv ha
  have HW := hid (fun w1 (hb : Below w.heap.size w w1) => hF.fw (hu.below hb) X)
  have HQE := hid hQ
  have hQ64 := hF.q64
  have hQq : Q ≤ 64 := by omega
  obtain ⟨ax, cx, e1⟩ := hu.len
  subst e1
  have hb0 := ((Below.refl w.heap.size w).alloc (Nat.le_refl _) (.cells #[.int .i64 P, .int .i64 K, .slice ax (nZ (dgL P n K)).length cx] 24)).alloc (by simp) (.cells #[.int .i64 (a : Int)] 3)
  have hsl := (OI.lit1 0 (w.alloc (.cells #[.int .i64 P, .int .i64 K, .slice ax (nZ (dgL P n K)).length cx] 24)) (a : Int) (by omega)).sl (by simp)
  have HC := hid (HC0 _ hb0 _ hsl)
  rw [World.size_alloc] at HC
  have HS := hid hb0
  have i4 : (Tryd.prog.info? 57).map (·.size) = some 4 := by kernel_rfl
  clear hb0 hsl hu hp hF HC0 hQ
  generalize (nZ (dgL P n K)).length = N at *
  unfold rmV fldV at HC
  unfold fldV
  go_enter Tryd.func28, Tryd.ntmps28
  go_wp2_with fail
  refine HC.out.mono ?_
  rintro e w2 ⟨rfl, hb2⟩
  have hB2 := HS.out.trans (hb2.mono HS.out.size)
  have HB := hid (And.intro (Arr.new w2 57 [.int .i64 (P : Int), .int .i64 (K : Int), .slice ax N cx, .int .i64 (Q : Int)]) (hB2.alloc hB2.size (.cells #[.int .i64 (P : Int), .int .i64 (K : Int), .slice ax N cx, .int .i64 (Q : Int)] 57)))
  clear hb2 hB2 HS HC
  go_wp2
  go_ret2
  exact ⟨rfl, HB.out.2⟩

set_option maxHeartbeats 1000000 in
set_option maxRecDepth 100000 in
theorem Pow_ok {P K n a : Nat} (hF : FOk P K n) {u : Value} {w : World} {E L : Nat → Nat} {m : Nat} (hp : Prs w) (hu : Sl w u (nZ (dgL P n K))) (X : FX P K (dgL P n K) E L) (ha : a < P ^ K) (hm : m ≤ 9223372036854775807) :
    Calls Tryd.prog 28 #[fldV P K u, .int .i64 a, .int .i64 m] w fun e w' => e = .returned (.tuple #[.int .i64 (mpF P K (dgL P n K) a m : Nat), .int .i64 0]) ∧ Below w.heap.size w w' := by
  obtain ⟨Q, hQ⟩ : ∃ Q : Nat, Q = P ^ K := ⟨_, rfl⟩
  have HC0 := fun w1 (hb : Below w.heap.size w w1) v (hv : Sl w1 v [(a : Int)]) => with1_ok (u := u) hQ hF (hp.below hb) (hu.below hb) hv ha
  have HW := hid (fun w1 (hb : Below w.heap.size w w1) => hF.fw (hu.below hb) X)
  have HQE := hid hQ
  have hQ64 := hF.q64
  have hQq : Q ≤ 64 := by omega
  obtain ⟨R, hR⟩ : ∃ R, R = mpF P K (dgL P n K) a m := ⟨_, rfl⟩
  rw [← hR]
  have HR := hid hR
  clear hR
  obtain ⟨ax, cx, e1⟩ := hu.len
  subst e1
  have hb0 := ((Below.refl w.heap.size w).alloc (Nat.le_refl _) (.cells #[.int .i64 P, .int .i64 K, .slice ax (nZ (dgL P n K)).length cx] 24)).alloc (by simp) (.cells #[.int .i64 (a : Int)] 3)
  have hsl := (OI.lit1 0 (w.alloc (.cells #[.int .i64 P, .int .i64 K, .slice ax (nZ (dgL P n K)).length cx] 24)) (a : Int) (by omega)).sl (by simp)
  have HC := hid (HC0 _ hb0 _ hsl)
  rw [World.size_alloc] at HC
  have HS := hid hb0
  have i4 : (Tryd.prog.info? 57).map (·.size) = some 4 := by kernel_rfl
  clear hb0 hsl hu hp hF HC0 hQ
  generalize (nZ (dgL P n K)).length = N at *
  unfold rmV fldV at HC
  unfold fldV
  go_enter Tryd.func28, Tryd.ntmps28
  go_wp2_with fail
  refine HC.out.mono ?_
  rintro e w2 ⟨rfl, hb2⟩
  have hB2 := HS.out.trans (hb2.mono HS.out.size)
  have HB := hid (And.intro (Arr.new w2 57 [.int .i64 (P : Int), .int .i64 (K : Int), .slice ax N cx, .int .i64 (Q : Int)]) (hB2.alloc hB2.size (.cells #[.int .i64 (P : Int), .int .i64 (K : Int), .slice ax N cx, .int .i64 (Q : Int)] 57)))
  clear hb2 hB2 HS HC
  have hm0 : ¬ (m : Int) < 0 := by omega
  have HP := hid (fun w1 (hb : Below w.heap.size w w1) => pow_ok (Q := Q) (HW.out w1 hb) a m ha hm)
  have r3 := HB.out.1.range
  unfold rmV at HP
  rw [← HR.out] at HP
  go_wp2_with (refine wpList_load_mid rfl 57 _ rfl w2.heap.size 0 rfl [.int .i64 (P : Int), .int .i64 (K : Int), .slice ax N cx, .int .i64 (Q : Int)] _ r3 Tryd.underlying57 rfl i4 ?_)
  refine (HP.out _ HB.out.2).mono ?_
  rintro e w4 ⟨rfl, hb4⟩
  have HB4 := hid (HB.out.2.trans (hb4.mono HB.out.2.size))
  clear r3
  go_wp2
  go_ret2
  exact ⟨rfl, HB4.out⟩

set_option maxHeartbeats 1000000 in
set_option maxRecDepth 100000 in
theorem Root_bad (p k : Int) (u : Value) (low : List Int) (w : World) (ip : I64 p) (ik : I64 k) (hp : Prs w) (hu : Sl w u low) (hi64 : ∀ x ∈ low, I64 x) (hz : faE p k low ≠ 0) :
    Calls Tryd.prog 21 #[fldV p k u] w fun e w' => e = .returned (.tuple #[.int .i64 0, .int .i64 (faE p k low)]) ∧ Below w.heap.size w w' := by
  obtain ⟨ax, cx, e1⟩ := hu.len
  subst e1
  have hb0 := (Below.refl w.heap.size w).alloc (Nat.le_refl _) (.cells #[.int .i64 p, .int .i64 k, .slice ax low.length cx] 24)
  have HC := hid (open_any p k (.slice ax low.length cx) low _ ip ik (hp.below hb0) (hu.below hb0) hi64)
  have HS := hid hb0
  have hne : (faE p k low != 0) = true := by simpa using hz
  unfold opR rm0 rmV fldV at HC
  rw [if_neg hz] at HC
  clear hb0 hu hp hz hi64
  generalize faE p k low = E at *
  generalize low.length = L at *
  have i3 : (Tryd.prog.info? 24).map (·.size) = some 3 := by kernel_rfl
  have r0 := (Arr.new w 24 [.int .i64 p, .int .i64 k, .slice ax L cx]).range
  unfold fldV
  go_enter Tryd.func21, Tryd.ntmps21
  go_wp2_with fail
  refine HC.out.mono ?_
  rintro e w2 ⟨rfl, hb2⟩
  have hB2 := HS.out.trans (hb2.mono HS.out.size)
  have HB := hid (hB2.alloc hB2.size (.cells #[.int .i64 0, .int .i64 0, .slice none 0 0, .int .i64 0] 57))
  clear hb2 hB2 HS HC
  go_wp2
  go_ret2
  exact ⟨rfl, HB.out⟩

set_option maxHeartbeats 1000000 in
set_option maxRecDepth 100000 in
theorem Root_ok {P K n : Nat} (hF : FOk P K n) {u : Value} {w : World} {E L o lg : Nat → Nat} {r : Nat} (hp : Prs w) (hu : Sl w u (nZ (dgL P n K))) (X : FX P K (dgL P n K) E L) (R : FR P K (dgL P n K) o r lg) :
    Calls Tryd.prog 21 #[fldV P K u] w fun e w' => e = .returned (.tuple #[.int .i64 r, .int .i64 0]) ∧ Below w.heap.size w w' := by
  obtain ⟨Q, hQ⟩ : ∃ Q : Nat, Q = P ^ K := ⟨_, rfl⟩
  have HC0 := fun w1 (hb : Below w.heap.size w w1) => open1_ok hQ hF (hp.below hb) (hu.below hb)
  have HW := hid (fun w1 (hb : Below w.heap.size w w1) => hF.fw (hu.below hb) X)
  have HQE := hid hQ
  have hQ64 := hF.q64
  have hQq : Q ≤ 64 := by omega
  obtain ⟨ax, cx, e1⟩ := hu.len
  subst e1
  have hb0 := (Below.refl w.heap.size w).alloc (Nat.le_refl _) (.cells #[.int .i64 P, .int .i64 K, .slice ax (nZ (dgL P n K)).length cx] 24)
  have HC := hid (HC0 _ hb0)
  have HS := hid hb0
  have i4 : (Tryd.prog.info? 57).map (·.size) = some 4 := by kernel_rfl
  have i3 : (Tryd.prog.info? 24).map (·.size) = some 3 := by kernel_rfl
  clear hb0 hu hp hF HC0 hQ
  generalize (nZ (dgL P n K)).length = N at *
  have r0 := (Arr.new w 24 [.int .i64 (P : Int), .int .i64 (K : Int), .slice ax N cx]).range
  unfold rmV fldV at HC
  unfold fldV
  go_enter Tryd.func21, Tryd.ntmps21
  go_wp2_with fail
  refine HC.out.mono ?_
  rintro e w2 ⟨rfl, hb2⟩
  have hB2 := HS.out.trans (hb2.mono HS.out.size)
  have HB := hid (And.intro (Arr.new w2 57 [.int .i64 (P : Int), .int .i64 (K : Int), .slice ax N cx, .int .i64 (Q : Int)]) (hB2.alloc hB2.size (.cells #[.int .i64 (P : Int), .int .i64 (K : Int), .slice ax N cx, .int .i64 (Q : Int)] 57)))
  clear hb2 hB2 HS HC
  have HP := hid (fun w1 (hb : Below w.heap.size w w1) => root_ok HQE.out (HW.out w1 hb) R)
  have r3 := HB.out.1.range
  unfold rmV at HP
  go_wp2_with (refine wpList_load_mid rfl 57 _ rfl w2.heap.size 0 rfl [.int .i64 (P : Int), .int .i64 (K : Int), .slice ax N cx, .int .i64 (Q : Int)] _ r3 Tryd.underlying57 rfl i4 ?_)
  refine (HP.out _ HB.out.2).mono ?_
  rintro e w4 ⟨rfl, hb4⟩
  have HB4 := hid (HB.out.2.trans (hb4.mono HB.out.2.size))
  clear r3
  go_wp2
  go_ret2
  exact ⟨rfl, HB4.out⟩

set_option maxHeartbeats 1000000 in
set_option maxRecDepth 100000 in
theorem Log_bad (p k a : Int) (u : Value) (low : List Int) (w : World) (ip : I64 p) (ik : I64 k) (ia : I64 a) (hp : Prs w) (hu : Sl w u low) (hi64 : ∀ x ∈ low, I64 x) (hz : wiE p k low [a] ≠ 0) :
    Calls Tryd.prog 30 #[fldV p k u, .int .i64 a] w fun e w' => e = .returned (.tuple #[.int .i64 0, .int .i64 (wiE p k low [a])]) ∧ Below w.heap.size w w' := by
  obtain ⟨ax, cx, e1⟩ := hu.len
  subst e1
  have hb0 := ((Below.refl w.heap.size w).alloc (Nat.le_refl _) (.cells #[.int .i64 p, .int .i64 k, .slice ax low.length cx] 24)).alloc (by simp) (.cells #[.int .i64 a] 3)
  have hsl := (OI.lit1 0 (w.alloc (.cells #[.int .i64 p, .int .i64 k, .slice ax low.length cx] 24)) a (by omega)).sl (by simp)
  have HC := hid (with_any p k (.slice ax low.length cx) _ low [a] _ ip ik (hp.below hb0) (hu.below hb0) hi64 hsl (by intro z hz; simp at hz; subst hz; assumption))
  have HS := hid hb0
  have hne : (wiE p k low [a] != 0) = true := by simpa using hz
  unfold opR rm0 rmV fldV at HC
  rw [if_neg hz] at HC
  rw [World.size_alloc] at HC
  clear hb0 hsl hu hp hz hi64
  generalize wiE p k low [a] = E at *
  generalize low.length = L at *
  unfold fldV
  go_enter Tryd.func30, Tryd.ntmps30
  go_wp2_with fail
  refine HC.out.mono ?_
  rintro e w2 ⟨rfl, hb2⟩
  have hB2 := HS.out.trans (hb2.mono HS.out.size)
  have HB := hid (hB2.alloc hB2.size (.cells #[.int .i64 0, .int .i64 0, .slice none 0 0, .int .i64 0] 57))
  clear hb2 hB2 HS HC
  go_wp2
  go_ret2
  exact ⟨rfl, HB.out⟩

set_option maxHeartbeats 1000000 in
set_option maxRecDepth 100000 in
theorem Log_zero {P K n a : Nat} (hF : FOk P K n) {u : Value} {w : World} {E L : Nat → Nat} (hp : Prs w) (hu : Sl w u (nZ (dgL P n K))) (X : FX P K (dgL P n K) E L) (ha : a < P ^ K) (h0 : a = 0) :
    Calls Tryd.prog 30 #[fldV P K u, .int .i64 a] w fun e w' => e = .returned (.tuple #[.int .i64 0, .int .i64 4]) ∧ Below w.heap.size w w' := by
  obtain ⟨Q, hQ⟩ : ∃ Q : Nat, Q = P ^ K := ⟨_, rfl⟩
  have HC0 := fun w1 (hb : Below w.heap.size w w1) v (hv : Sl w1 v [(a : Int)]) => with1_ok (u := u) hQ hF (hp.below hb) (hu.below hb) hv ha
  have HW := hid (fun w1 (hb : Below w.heap.size w w1) => hF.fw (hu.below hb) X)
  have HQE := hid hQ
  have hQ64 := hF.q64
  have hQq : Q ≤ 64 := by omega
  obtain ⟨ax, cx, e1⟩ := hu.len
  subst e1
  have hb0 := ((Below.refl w.heap.size w).alloc (Nat.le_refl _) (.cells #[.int .i64 P, .int .i64 K, .slice ax (nZ (dgL P n K)).length cx] 24)).alloc (by simp) (.cells #[.int .i64 (a : Int)] 3)
  have hsl := (OI.lit1 0 (w.alloc (.cells #[.int .i64 P, .int .i64 K, .slice ax (nZ (dgL P n K)).length cx] 24)) (a : Int) (by omega)).sl (by simp)
  have HC := hid (HC0 _ hb0 _ hsl)
  rw [World.size_alloc] at HC
  have HS := hid hb0
  have i4 : (Tryd.prog.info? 57).map (·.size) = some 4 := by kernel_rfl
  subst h0
  rw [show ((0 : Nat) : Int) = 0 from rfl] at HC HS ⊢
  clear hb0 hsl hu hp hF HC0 hQ
  generalize (nZ (dgL P n K)).length = N at *
  unfold rmV fldV at HC
  unfold fldV
  go_enter Tryd.func30, Tryd.ntmps30
  go_wp2_with fail
  refine HC.out.mono ?_
  rintro e w2 ⟨rfl, hb2⟩
  have hB2 := HS.out.trans (hb2.mono HS.out.size)
  have HB := hid (And.intro (Arr.new w2 57 [.int .i64 (P : Int), .int .i64 (K : Int), .slice ax N cx, .int .i64 (Q : Int)]) (hB2.alloc hB2.size (.cells #[.int .i64 (P : Int), .int .i64 (K : Int), .slice ax N cx, .int .i64 (Q : Int)] 57)))
  clear hb2 hB2 HS HC
  go_wp2
  go_ret2
  exact ⟨rfl, HB.out.2⟩

set_option maxHeartbeats 1000000 in
set_option maxRecDepth 100000 in
theorem Log_ok {P K n a : Nat} (hF : FOk P K n) {u : Value} {w : World} {E L o lg : Nat → Nat} {r : Nat} (hp : Prs w) (hu : Sl w u (nZ (dgL P n K))) (X : FX P K (dgL P n K) E L) (R : FR P K (dgL P n K) o r lg) (ha : a < P ^ K) (h0 : 1 ≤ a) :
    Calls Tryd.prog 30 #[fldV P K u, .int .i64 a] w fun e w' => e = .returned (.tuple #[.int .i64 (lg a : Nat), .int .i64 0]) ∧ Below w.heap.size w w' := by
  obtain ⟨Q, hQ⟩ : ∃ Q : Nat, Q = P ^ K := ⟨_, rfl⟩
  have HC0 := fun w1 (hb : Below w.heap.size w w1) v (hv : Sl w1 v [(a : Int)]) => with1_ok (u := u) hQ hF (hp.below hb) (hu.below hb) hv ha
  have HW := hid (fun w1 (hb : Below w.heap.size w w1) => hF.fw (hu.below hb) X)
  have HQE := hid hQ
  have hQ64 := hF.q64
  have hQq : Q ≤ 64 := by omega
  obtain ⟨ax, cx, e1⟩ := hu.len
  subst e1
  have hb0 := ((Below.refl w.heap.size w).alloc (Nat.le_refl _) (.cells #[.int .i64 P, .int .i64 K, .slice ax (nZ (dgL P n K)).length cx] 24)).alloc (by simp) (.cells #[.int .i64 (a : Int)] 3)
  have hsl := (OI.lit1 0 (w.alloc (.cells #[.int .i64 P, .int .i64 K, .slice ax (nZ (dgL P n K)).length cx] 24)) (a : Int) (by omega)).sl (by simp)
  have HC := hid (HC0 _ hb0 _ hsl)
  rw [World.size_alloc] at HC
  have HS := hid hb0
  have i4 : (Tryd.prog.info? 57).map (·.size) = some 4 := by kernel_rfl
  clear hb0 hsl hu hp hF HC0 hQ
  generalize (nZ (dgL P n K)).length = N at *
  unfold rmV fldV at HC
  unfold fldV
  go_enter Tryd.func30, Tryd.ntmps30
  go_wp2_with fail
  refine HC.out.mono ?_
  rintro e w2 ⟨rfl, hb2⟩
  have hB2 := HS.out.trans (hb2.mono HS.out.size)
  have HB := hid (And.intro (Arr.new w2 57 [.int .i64 (P : Int), .int .i64 (K : Int), .slice ax N cx, .int .i64 (Q : Int)]) (hB2.alloc hB2.size (.cells #[.int .i64 (P : Int), .int .i64 (K : Int), .slice ax N cx, .int .i64 (Q : Int)] 57)))
  clear hb2 hB2 HS HC
  have hne : ((a : Int) == 0) = false := by rw [beq_eq_false_iff_ne]; omega
  have HP := hid (fun w1 (hb : Below w.heap.size w w1) => root_ok HQE.out (HW.out w1 hb) R)
  have hBF := (HW.out w (Below.refl _ _)).B
  have HMU := hid (fun (w1 : World) (hb : Below w.heap.size w w1) (x y : Nat) (hx : x < P ^ K) (hy : y < P ^ K) => (HW.out w1 hb).mul Q hx hy)
  have HLT := hid (fun (x y : Nat) => mp_lt (low := dgL P n K) (a := x) hBF y)
  have HMS := hid (fun x m => show mpF P K (dgL P n K) x (m + 1) = mulF P K (dgL P n K) (mpF P K (dgL P n K) x m) x from rfl)
  have HM0 := hid (fun x => show mpF P K (dgL P n K) x 0 = 1 from rfl)
  have HL := hid (R.lg a h0 ha)
  have HRQ := hid R.r1.2.1
  have r3 := HB.out.1.range
  unfold rmV at HP HMU
  clear R HW hBF
  go_wp2_with (refine wpList_load_mid rfl 57 _ rfl w2.heap.size 0 rfl [.int .i64 (P : Int), .int .i64 (K : Int), .slice ax N cx, .int .i64 (Q : Int)] _ r3 Tryd.underlying57 rfl i4 ?_)
  refine (HP.out _ HB.out.2).mono ?_
  rintro e w4 ⟨rfl, hb4⟩
  have HB4 := hid (And.intro (HB.out.1.below hb4) (HB.out.2.trans (hb4.mono HB.out.2.size)))
  clear r3 HP hb4 HB
  generalize w2.heap.size = b3 at *
  go_wp2_with fail
  go_loopw [9, 10] (fun x y wq => ∃ t : Nat, x = .int .i64 t ∧ y = .int .i64 (mpF P K (dgL P n K) r t : Nat) ∧ t ≤ lg a ∧ Arr wq b3 57 [.int .i64 (P : Int), .int .i64 (K : Int), .slice ax N cx, .int .i64 (Q : Int)] ∧ Below w.heap.size w wq) (fun x _ _ => lg a - (intOf x).toNat)
  case atStart => exact ⟨0, rfl, by rw [HM0.out]; rfl, Nat.zero_le _, HB4.out.1, HB4.out.2⟩
  case round =>
    clear HB4
    obtain ⟨t, rfl, rfl, htl, hA, hB⟩ := hrel
    have hmt := HLT.out r t
    have hmul := HMS.out r t
    have HW2 := hid (And.intro hA hB)
    have hlgq := HL.out.1
    have htl2 : t ≤ lg a := htl
    by_cases hte : t = lg a
    · subst hte
      have hone := HL.out.2.1
      rw [hone]
      clear hA hB hmul hmt
      go_wp2
      go_ret2
      exact ⟨rfl, HW2.out.2⟩
    · have hnea := HL.out.2.2 t (by omega)
      have r1 := hA.range
      have HC := hid (HMU.out _ HW2.out.2 (mpF P K (dgL P n K) r t) r hmt HRQ.out)
      rw [← hmul] at HC
      generalize mpF P K (dgL P n K) r t = y at *
      have hy1 : ((y : Int) != (a : Int)) = true := by rw [bne_iff_ne]; omega
      clear hA hB hmul
      go_wp2_with (refine wpList_load_mid rfl 57 _ rfl b3 0 rfl [.int .i64 (P : Int), .int .i64 (K : Int), .slice ax N cx, .int .i64 (Q : Int)] _ r1 Tryd.underlying57 rfl i4 ?_)
      refine HC.out.mono ?_
      rintro e w5 ⟨rfl, hb5⟩
      have HW3 := hid (And.intro (HW2.out.1.below hb5) (HW2.out.2.trans (hb5.mono HW2.out.2.size)))
      clear hb5 r1 HW2 HC
      go_wp2
      go_roundw
      case rel => exact ⟨t + 1, by go_num, by go_num, by omega, HW3.out.1, HW3.out.2⟩
      case measure => simp [intOf] <;> omega

/-- Sums of the powers. -/
def trA (P K : Nat) (low : List Nat) (a : Nat) : Nat → Nat
  | 0 => a
  | i + 1 => mpF P K low (trA P K low a i) P
def trS (P K : Nat) (low : List Nat) (a : Nat) : Nat → Nat
  | 0 => 0
  | i + 1 => addF P K (trS P K low a i) (trA P K low a i)
theorem trA_lt {P K : Nat} (B : FB P K) (low : List Nat) {a : Nat} (ha : a < P ^ K) : ∀ i, trA P K low a i < P ^ K
  | 0 => ha
  | i + 1 => mp_lt B _ _
theorem trS_lt {P K : Nat} (B : FB P K) (low : List Nat) (a : Nat) : ∀ i, trS P K low a i < P ^ K
  | 0 => by show 0 < _; have := B.q2; have := B.p2; omega
  | i + 1 => addF_lt B.p2 B.k6 _ _
set_option maxHeartbeats 1000000 in
set_option maxRecDepth 100000 in
theorem Trace_bad (p k a : Int) (u : Value) (low : List Int) (w : World) (ip : I64 p) (ik : I64 k) (ia : I64 a) (hp : Prs w) (hu : Sl w u low) (hi64 : ∀ x ∈ low, I64 x) (hz : wiE p k low [a] ≠ 0) :
    Calls Tryd.prog 29 #[fldV p k u, .int .i64 a] w fun e w' => e = .returned (.tuple #[.int .i64 0, .int .i64 (wiE p k low [a])]) ∧ Below w.heap.size w w' := by
  obtain ⟨ax, cx, e1⟩ := hu.len
  subst e1
  have hb0 := ((Below.refl w.heap.size w).alloc (Nat.le_refl _) (.cells #[.int .i64 p, .int .i64 k, .slice ax low.length cx] 24)).alloc (by simp) (.cells #[.int .i64 a] 3)
  have hsl := (OI.lit1 0 (w.alloc (.cells #[.int .i64 p, .int .i64 k, .slice ax low.length cx] 24)) a (by omega)).sl (by simp)
  have HC := hid (with_any p k (.slice ax low.length cx) _ low [a] _ ip ik (hp.below hb0) (hu.below hb0) hi64 hsl (by intro z hz; simp at hz; subst hz; assumption))
  have HS := hid hb0
  have hne : (wiE p k low [a] != 0) = true := by simpa using hz
  unfold opR rm0 rmV fldV at HC
  rw [if_neg hz] at HC
  rw [World.size_alloc] at HC
  clear hb0 hsl hu hp hz hi64
  generalize wiE p k low [a] = E at *
  generalize low.length = L at *
  unfold fldV
  go_enter Tryd.func29, Tryd.ntmps29
  go_wp2_with fail
  refine HC.out.mono ?_
  rintro e w2 ⟨rfl, hb2⟩
  have hB2 := HS.out.trans (hb2.mono HS.out.size)
  have HB := hid (hB2.alloc hB2.size (.cells #[.int .i64 0, .int .i64 0, .slice none 0 0, .int .i64 0] 57))
  clear hb2 hB2 HS HC
  go_wp2
  go_ret2
  exact ⟨rfl, HB.out⟩

set_option maxHeartbeats 1000000 in
set_option maxRecDepth 100000 in
theorem Trace_ok {P K n a : Nat} (hF : FOk P K n) {u : Value} {w : World} {E L : Nat → Nat} (hp : Prs w) (hu : Sl w u (nZ (dgL P n K))) (X : FX P K (dgL P n K) E L) (ha : a < P ^ K) :
    Calls Tryd.prog 29 #[fldV P K u, .int .i64 a] w fun e w' => e = .returned (.tuple #[.int .i64 (trS P K (dgL P n K) a K : Nat), .int .i64 0]) ∧ Below w.heap.size w w' := by
  obtain ⟨Q, hQ⟩ : ∃ Q : Nat, Q = P ^ K := ⟨_, rfl⟩
  have HC0 := fun w1 (hb : Below w.heap.size w w1) v (hv : Sl w1 v [(a : Int)]) => with1_ok (u := u) hQ hF (hp.below hb) (hu.below hb) hv ha
  have HW := hid (fun w1 (hb : Below w.heap.size w w1) => hF.fw (hu.below hb) X)
  have HQE := hid hQ
  have hQ64 := hF.q64
  have hQq : Q ≤ 64 := by omega
  obtain ⟨TS, hTS⟩ : ∃ f, f = trS P K (dgL P n K) a := ⟨_, rfl⟩
  rw [← hTS]
  have HTS := hid hTS
  clear hTS
  obtain ⟨ax, cx, e1⟩ := hu.len
  subst e1
  have hb0 := ((Below.refl w.heap.size w).alloc (Nat.le_refl _) (.cells #[.int .i64 P, .int .i64 K, .slice ax (nZ (dgL P n K)).length cx] 24)).alloc (by simp) (.cells #[.int .i64 (a : Int)] 3)
  have hsl := (OI.lit1 0 (w.alloc (.cells #[.int .i64 P, .int .i64 K, .slice ax (nZ (dgL P n K)).length cx] 24)) (a : Int) (by omega)).sl (by simp)
  have HC := hid (HC0 _ hb0 _ hsl)
  rw [World.size_alloc] at HC
  have HS := hid hb0
  have i4 : (Tryd.prog.info? 57).map (·.size) = some 4 := by kernel_rfl
  clear hb0 hsl hu hp hF HC0 hQ
  generalize (nZ (dgL P n K)).length = N at *
  unfold rmV fldV at HC
  unfold fldV
  go_enter Tryd.func29, Tryd.ntmps29
  go_wp2_with fail
  refine HC.out.mono ?_
  rintro e w2 ⟨rfl, hb2⟩
  have hB2 := HS.out.trans (hb2.mono HS.out.size)
  have HB := hid (And.intro (Arr.new w2 57 [.int .i64 (P : Int), .int .i64 (K : Int), .slice ax N cx, .int .i64 (Q : Int)]) (hB2.alloc hB2.size (.cells #[.int .i64 (P : Int), .int .i64 (K : Int), .slice ax N cx, .int .i64 (Q : Int)] 57)))
  clear hb2 hB2 HS HC
  have hBF := (HW.out w (Below.refl _ _)).B
  have hP64 := hBF.p64
  have hK6 := hBF.k6
  have HPW := hid (fun (w1 : World) (hb : Below w.heap.size w w1) (x : Nat) (hx : x < P ^ K) => pow_ok (Q := Q) (HW.out w1 hb) x P hx (by omega))
  have HAD := hid (fun (w1 : World) (hb : Below w.heap.size w w1) (x y : Nat) (hx : x < P ^ K) (hy : y < P ^ K) => add_ok P K Q x y (.slice ax N cx) w1 ⟨_, _, _, rfl⟩ hBF.p2 hBF.p64 hBF.k1 hBF.k6 hBF.q64 (by omega) (by omega))
  have HAL := hid (fun i => trA_lt hBF (dgL P n K) ha i)
  have HSL := hid (fun i => trS_lt hBF (dgL P n K) a i)
  have HA0 : Hid (trA P K (dgL P n K) a 0 = a) := hid rfl
  have HS0 : Hid (trS P K (dgL P n K) a 0 = 0) := hid rfl
  have HAS := hid (fun i => show trA P K (dgL P n K) a (i + 1) = mpF P K (dgL P n K) (trA P K (dgL P n K) a i) P from rfl)
  have HSS := hid (fun i => show trS P K (dgL P n K) a (i + 1) = addF P K (trS P K (dgL P n K) a i) (trA P K (dgL P n K) a i) from rfl)
  unfold rmV at HPW HAD
  clear HW hBF
  have k1 := HB.out.1.cell 1
  simp only [List.getElem?_cons_zero, List.getElem?_cons_succ] at k1
  rw [← HTS.out] at HSL HS0 HSS
  generalize trA P K (dgL P n K) a = TA at *
  go_wp2_with fail
  clear k1
  go_loopw [1, 8, 22] (fun x y z wq => ∃ t : Nat, x = .int .i64 (TA t : Nat) ∧ y = .int .i64 (TS t : Nat) ∧ z = .int .i64 t ∧ t ≤ K ∧ Arr wq w2.heap.size 57 [.int .i64 (P : Int), .int .i64 (K : Int), .slice ax N cx, .int .i64 (Q : Int)] ∧ Below w.heap.size w wq) (fun _ _ z _ => K - (intOf z).toNat)
  case atStart => exact ⟨0, by rw [HA0.out], by rw [HS0.out]; rfl, rfl, Nat.zero_le _, HB.out.1, HB.out.2⟩
  case round =>
    clear HB
    obtain ⟨t, rfl, rfl, rfl, htl, hA, hB⟩ := hrel
    by_cases hte : t = K
    · subst hte
      have HW2 := hid (And.intro hA hB)
      clear hA hB
      go_wp2
      go_ret2
      exact ⟨rfl, HW2.out.2⟩
    · have hal := HAL.out t
      have hsl := HSL.out t
      have has := HAS.out t
      have hss := HSS.out t
      have htk : (t : Int) < (K : Int) := by omega
      have k0 := hA.cell 0
      simp only [List.getElem?_cons_zero] at k0
      have r1 := hA.range
      have HW2 := hid (And.intro hA hB)
      have HC1 := hid (HAD.out _ HW2.out.2 (TS t) (TA t) hsl hal)
      rw [← hss] at HC1
      clear hA hB hss hsl k0
      go_wp2_with (refine wpList_load_mid rfl 57 _ rfl w2.heap.size 0 rfl [.int .i64 (P : Int), .int .i64 (K : Int), .slice ax N cx, .int .i64 (Q : Int)] _ r1 Tryd.underlying57 rfl i4 ?_)
      refine HC1.out.mono ?_
      rintro e w5 ⟨rfl, hb5⟩
      have HW3 := hid (And.intro (HW2.out.1.below hb5) (HW2.out.2.trans (hb5.mono HW2.out.2.size)))
      have HC2 := hid (HPW.out _ HW3.out.2 (TA t) hal)
      rw [← has] at HC2
      have r2 := HW3.out.1.range
      have k0 := HW3.out.1.cell 0
      simp only [List.getElem?_cons_zero] at k0
      clear hb5 r1 HW2 HC1 has hal
      go_wp2_with (refine wpList_load_mid rfl 57 _ rfl w2.heap.size 0 rfl [.int .i64 (P : Int), .int .i64 (K : Int), .slice ax N cx, .int .i64 (Q : Int)] _ r2 Tryd.underlying57 rfl i4 ?_)
      refine HC2.out.mono ?_
      rintro e w6 ⟨rfl, hb6⟩
      have HW4 := hid (And.intro (HW3.out.1.below hb6) (HW3.out.2.trans (hb6.mono HW3.out.2.size)))
      clear hb6 r2 k0 HW3 HC2
      go_wp2
      go_roundw
      case rel => exact ⟨t + 1, by go_num, by go_num, by go_num, by omega, HW4.out.1, HW4.out.2⟩
      case measure => simp [intOf] <;> omega

set_option maxHeartbeats 1000000 in
set_option maxRecDepth 100000 in
theorem Check_any (p k : Int) (u : Value) (low : List Int) (w : World) (ip : I64 p) (ik : I64 k) (hp : Prs w) (hu : Sl w u low) (hi64 : ∀ x ∈ low, I64 x) :
    Calls Tryd.prog 20 #[fldV p k u] w fun e w' => e = .returned (.int .i64 (faE p k low)) ∧ Below w.heap.size w w' := by
  obtain ⟨ax, cx, e1⟩ := hu.len
  subst e1
  have hb0 := (Below.refl w.heap.size w).alloc (Nat.le_refl _) (.cells #[.int .i64 p, .int .i64 k, .slice ax low.length cx] 24)
  have HC := hid (open_any p k (.slice ax low.length cx) low _ ip ik (hp.below hb0) (hu.below hb0) hi64)
  have HS := hid hb0
  clear hb0 hu hp hi64
  have i3 : (Tryd.prog.info? 24).map (·.size) = some 3 := by kernel_rfl
  have hrv : ∃ x0 x1 x3 sa sn sc, opR p k (.slice ax low.length cx) (ordF p k) (faE p k low) = .agg #[.int .i64 x0, .int .i64 x1, .slice sa sn sc, .int .i64 x3] := by
    unfold opR rm0 rmV
    split
    · exact ⟨_, _, _, _, _, _, rfl⟩
    · exact ⟨_, _, _, _, _, _, rfl⟩
  obtain ⟨x0, x1, x3, sa, sn, sc, hv⟩ := hrv
  rw [hv] at HC
  clear hv
  generalize faE p k low = E at *
  generalize low.length = N at *
  have r0 := (Arr.new w 24 [.int .i64 p, .int .i64 k, .slice ax N cx]).range
  unfold fldV at HC
  unfold fldV
  go_enter Tryd.func20, Tryd.ntmps20
  go_wp2_with fail
  refine HC.out.mono ?_
  rintro e w2 ⟨rfl, hb2⟩
  have hB2 := HS.out.trans (hb2.mono HS.out.size)
  have HB := hid (hB2.alloc hB2.size (.cells #[.int .i64 x0, .int .i64 x1, .slice sa sn sc, .int .i64 x3] 57))
  clear hb2 hB2 HS HC
  go_wp2
  go_ret
  exact ⟨rfl, HB.out⟩
end Go.Proofs.YthdlhfgeminoiaaDoor
