/-
  The walks over parterreref1.Fields and the law FieldLeast. Conditions: the numbers are of 64 bits; the primes are laid.
-/
import Derived.Test.YthdlhfgeminoiaaDoorFlref
namespace Go.Proofs.YthdlhfgeminoiaaDoor
set_option linter.unusedVariables false
open Go.RowKit

set_option maxHeartbeats 1000000 in
set_option maxRecDepth 100000 in
theorem Fields_same (p k : Int) (u v : Value) (l : List Int) (w : World) (hu : Sl w u l) (hv : Sl w v l) :
    Calls Tryd.prog 13 #[fldV p k u, fldV p k v] w fun e w' => e = .returned (.bool true) ∧ Below w.heap.size w w' := by
  obtain ⟨a, c, e1⟩ := hu.len
  obtain ⟨a', c', e2⟩ := hv.len
  subst e1
  subst e2
  generalize hN : l.length = N at *
  have hA1 : Arr ((w.alloc (.cells #[.int .i64 p, .int .i64 k, .slice a N c] 24)).alloc (.cells #[.int .i64 p, .int .i64 k, .slice a' N c'] 24)) w.heap.size 24 [.int .i64 p, .int .i64 k, .slice a N c] := (Arr.new w _ _).alloc _
  have hA2 : Arr ((w.alloc (.cells #[.int .i64 p, .int .i64 k, .slice a N c] 24)).alloc (.cells #[.int .i64 p, .int .i64 k, .slice a' N c'] 24)) (w.alloc (.cells #[.int .i64 p, .int .i64 k, .slice a N c] 24)).heap.size 24 [.int .i64 p, .int .i64 k, .slice a' N c'] := Arr.new _ _ _
  rw [World.size_alloc] at hA2
  have hb0 : Below w.heap.size w ((w.alloc (.cells #[.int .i64 p, .int .i64 k, .slice a N c] 24)).alloc (.cells #[.int .i64 p, .int .i64 k, .slice a' N c'] 24)) := ((Below.refl w.heap.size w).alloc (Nat.le_refl _) _).alloc (by simp) _
  have HI := hid (ints_any (.slice a N c) (.slice a' N c') l l _ (hu.below hb0) (hv.below hb0))
  rw [show decide (l = l) = true by simp] at HI
  have HB := hid hb0
  have k0 := hA1.cell 0
  have k1 := hA1.cell 1
  have k2 := hA1.cell 2
  have k3 := hA2.cell 0
  have k4 := hA2.cell 1
  have k5 := hA2.cell 2
  simp only [List.getElem?_cons_zero, List.getElem?_cons_succ] at k0 k1 k2 k3 k4 k5
  have HK := hid (And.intro hA1 hA2)
  have hpp : (p == p) = true := by simp
  have hkk : (k == k) = true := by simp
  clear hb0 hA1 hA2 hu hv hN
  unfold fldV
  go_enter Tryd.func13, Tryd.ntmps13
  go_wp2_with fail
  refine HI.out.mono ?_
  rintro e w1 ⟨rfl, n, rfl⟩
  go_wp2
  go_ret
  exact ⟨rfl, below_drewN HB.out n⟩

/-- What both tell. -/
theorem least_both (p k : Int) (w : World) (ip : I64 p) (ik : I64 k) (hp : Prs w) : ∃ (pp kk ee : Int) (ll : List Int),
    (∀ w1, Below w.heap.size w w1 → Calls Tryd.prog 11 #[.int .i64 p, .int .i64 k] w1 fun e w' => (∃ u, e = .returned (.tuple #[fldV pp kk u, .int .i64 ee]) ∧ Sl w' u ll) ∧ Below w1.heap.size w1 w') ∧
    (∀ w1, Calls Tryd.prog 12 #[.int .i64 p, .int .i64 k] w1 fun e w' => (∃ u, e = .returned (.tuple #[fldV pp kk u, .int .i64 ee]) ∧ Sl w' u ll) ∧ Below w1.heap.size w1 w') := by
  by_cases h : ordF p k = 0
  · refine ⟨0, 0, 1, [], fun w1 hb => (Least_bad p k w1 ik (hp.below hb) h).mono ?_, fun w1 => (LeastField_bad p k w1 ip ik h).mono ?_⟩
    · rintro e w' ⟨rfl, hb'⟩
      exact ⟨⟨_, rfl, Sl.nil' _ _⟩, hb'⟩
    · rintro e w' ⟨rfl, hb'⟩
      exact ⟨⟨_, rfl, Sl.nil' _ _⟩, hb'⟩
  · obtain ⟨P, K, rfl, rfl, hpr, h2, h61, hk1, hk6, hq64, hord⟩ := ord_pos h
    obtain ⟨n0, hn0, hy, hno⟩ := ir_ex h
    have hl : (nZ (dgL P n0 K)).length ≤ 17592186044416 := by rw [nZ_len, dgL_len]; omega
    refine ⟨P, K, 0, nZ (dgL P n0 K), fun w1 hb => (Least_ok P K n0 w1 (hp.below hb) h hn0 hy hno).mono ?_, fun w1 => (LeastField_ok P K n0 w1 h hn0 hy hno).mono ?_⟩
    · rintro e w' ⟨⟨u, rfl, hu⟩, hb'⟩
      exact ⟨⟨_, rfl, hu.sl hl⟩, hb'⟩
    · rintro e w' ⟨⟨u, rfl, hu⟩, hb'⟩
      exact ⟨⟨_, rfl, hu.sl hl⟩, hb'⟩

set_option maxHeartbeats 1000000 in
set_option maxRecDepth 100000 in
theorem fieldLeast_walk (w : World) (hp : Prs w) (p : Int) (ip : I64 p) (k : Int) (ik : I64 k) :
    Calls Tryd.prog 3 #[.int .i64 p, .int .i64 k] w fun e w' => e = .returned (.bool true) ∧ Below w.heap.size w w' := by
  obtain ⟨pp, kk, ee, ll, h1, h2⟩ := least_both p k w ip ik hp
  have H1 := hid (h1 w (Below.refl _ _))
  have H2 := hid h2
  have i9 : (Tryd.prog.info? 24).map (·.size) = some 3 := by kernel_rfl
  have hee : (ee == ee) = true := by simp
  clear h1 h2 ip ik hp
  go_enter Tryd.func3, Tryd.ntmps3
  go_wp2_with fail
  refine H1.out.mono ?_
  rintro e w1 ⟨⟨u1, rfl, hu1⟩, hb1⟩
  obtain ⟨a1, c1, e1⟩ := hu1.len
  subst e1
  generalize hN : ll.length = N at *
  have hA1 : Arr (w1.alloc (.cells #[.int .i64 pp, .int .i64 kk, .slice a1 N c1] 24)) w1.heap.size 24 [.int .i64 pp, .int .i64 kk, .slice a1 N c1] := Arr.new w1 _ _
  have hbA := (Below.refl w1.heap.size w1).alloc (Nat.le_refl _) (.cells #[.int .i64 pp, .int .i64 kk, .slice a1 N c1] 24)
  have HA := hid (And.intro hA1 (And.intro (hu1.below hbA) (hb1.trans (hbA.mono hb1.size))))
  have HC2 := hid (H2.out (w1.alloc (.cells #[.int .i64 pp, .int .i64 kk, .slice a1 N c1] 24)))
  clear hu1 hb1 hA1 hbA
  unfold fldV
  go_wp2_with fail
  refine HC2.out.mono ?_
  rintro e w2 ⟨⟨u2, rfl, hu2⟩, hb2⟩
  obtain ⟨a2, c2, e2⟩ := hu2.len
  rw [hN] at e2
  subst e2
  have hA2 := HA.out.1.below hb2
  have hS2 := HA.out.2.1.below hb2
  have hB2 := HA.out.2.2.trans (hb2.mono HA.out.2.2.size)
  have hA3 : Arr (w2.alloc (.cells #[.int .i64 pp, .int .i64 kk, .slice a2 N c2] 24)) w2.heap.size 24 [.int .i64 pp, .int .i64 kk, .slice a2 N c2] := Arr.new w2 _ _
  have hbC := (Below.refl w2.heap.size w2).alloc (Nat.le_refl _) (.cells #[.int .i64 pp, .int .i64 kk, .slice a2 N c2] 24)
  have r1 := (hA2.below hbC).range
  have r2 := hA3.range
  have HF := hid (Fields_same pp kk (.slice a1 N c1) (.slice a2 N c2) ll _ (hS2.below hbC) (hu2.below hbC))
  unfold fldV at HF
  have HB3 := hid (hB2.trans (hbC.mono hB2.size))
  clear hu2 hb2 hA2 hS2 hB2 hA3 hbC hN
  unfold fldV
  go_wp2_with (first
    | (refine wpList_load_mid rfl 24 _ rfl w1.heap.size 0 rfl [.int .i64 pp, .int .i64 kk, .slice a1 N c1] _ r1 Tryd.underlying24 rfl i9 ?_)
    | (refine wpList_load_mid rfl 24 _ rfl w2.heap.size 0 rfl [.int .i64 pp, .int .i64 kk, .slice a2 N c2] _ r2 Tryd.underlying24 rfl i9 ?_))
  refine HF.out.mono ?_
  rintro e w4 ⟨rfl, hb4⟩
  have HX := hid (HB3.out.trans (hb4.mono HB3.out.size))
  clear hb4 r1 r2
  go_wp2
  go_ret
  exact ⟨rfl, HX.out⟩
end Go.Proofs.YthdlhfgeminoiaaDoor
