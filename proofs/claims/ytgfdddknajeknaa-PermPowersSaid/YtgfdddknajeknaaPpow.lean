/-
  Powers of a permutation: the walks over parterreref1.PermOrder, PermPower and perm.Power. Conditions: the slice can be read; a permutation where it is said.
-/
import Derived.Test.YtgfdddknajeknaaPord
namespace Go.Proofs.Ytgfdddknajeknaa
set_option linter.unusedVariables false
open Go.RowKit

/-- n times, as a list. -/
def powL (f : Nat → Nat) (N n : Nat) : List Int := (List.range N).map fun i => ((it f n i : Nat) : Int)
theorem pow_len (f : Nat → Nat) (N n : Nat) : (powL f N n).length = N := by simp [powL]
theorem pow_still (f : Nat → Nat) (N : Nat) : powL f N 0 = stillL N := by simp [powL, stillL, it]
theorem pow_one {l : List Int} {N : Nat} {f : Nat → Nat} (P : PmL l N f) : powL f N 1 = l := by
  refine List.ext_getElem (by rw [pow_len, P.len]) fun i h1 h2 => ?_
  have h3 := P.at' i (by rw [← P.len]; exact h2)
  rw [List.getElem?_eq_getElem h2, Option.getD_some] at h3
  simp [powL, it, h3]
theorem pow_then {l : List Int} {N : Nat} {f : Nat → Nat} (P : PmL l N f) (n : Nat) : thenL (powL f N n) l = powL f N (n + 1) := by
  unfold thenL powL
  rw [List.map_map]
  refine List.map_congr_left fun i hi => ?_
  have h1 := P.pm.it_lt (List.mem_range.1 hi) n
  simp only [Function.comp, Int.toNat_natCast]
  rw [P.at' _ h1]
  rfl
theorem pow_mem {N : Nat} {f : Nat → Nat} (P : Pm N f) (n : Nat) : ∀ x ∈ powL f N n, 0 ≤ x ∧ x < (N : Int) := by
  intro x hx
  simp only [powL, List.mem_map, List.mem_range] at hx
  obtain ⟨i, hi, rfl⟩ := hx
  have := P.it_lt hi n
  omega
theorem pow_back {N : Nat} {f : Nat → Nat} (P : Pm N f) (n : Nat) : powL f N n = powL f N 0 ↔ ordN f N ∣ n := by
  rw [P.ord_dvd]
  constructor
  · intro h i hi
    have h1 := congrArg (fun l => l[i]?) h
    simp only [powL, List.getElem?_map, List.getElem?_range hi, Option.map_some, it, Option.some.injEq] at h1
    omega
  · intro h
    unfold powL
    exact List.map_congr_left fun i hi => by rw [h i (List.mem_range.1 hi)]; rfl

set_option maxHeartbeats 1000000 in
theorem permorder_ok (v : Value) (l : List Int) (N : Nat) (f : Nat → Nat) (w : World) (hl : Sl w v l) (P : PmL l N f) :
    Calls Try.prog 22 #[v] w fun e w' => e = .returned (.int .i64 (ordN f N : Nat)) ∧ Below w.heap.size w w' := by
  have h12 := P.n12
  have hob := P.pm.ord_le h12 N
  have hll := cycLen_len f N
  rw [List.take_of_length_le hll] at hob
  have hord : 0 < ordN f N ∧ ordN f N ≤ 8916100448256 := hob
  have HST := hid (fun w1 => still_ok N w1 (by omega))
  have HT := hid (fun (n : Nat) (w1 : World) (u : Value) (hb : Below w.heap.size w w1) (hu : Sl w1 u (powL f N n)) => then_ok u v (powL f N n) l w1 hu (hl.below hb) (by rw [P.len]; exact pow_mem P.pm n) (by rw [pow_len]; omega))
  have HTH := hid (fun n => pow_then P n)
  have HPL := hid (pow_len f N)
  have HBK := hid (fun n => pow_back P.pm n)
  have HP1 := hid (pow_one P)
  have HP0 := hid (pow_still f N)
  obtain ⟨a, cp, N', rfl, hN, hl1, hl2⟩ := hl.open
  obtain rfl : N' = N := by rw [← hN.out, P.len]
  have HSL := hid hl
  clear P hob hll hl hl1 hl2
  generalize ordN f N' = od at *
  go_enter Try.func22, Try.ntmps22
  go_wp2_with fail
  refine (HST.out _).mono ?_
  rintro e w1 ⟨⟨s, rfl, hs⟩, hb1⟩
  have HS := hid hs
  have HB1 := hid hb1
  have hsz1 := hb1.size
  clear hs hb1
  go_wp2_with (at_builtin; refine wpList_apps (w := w1.alloc (.cells #[] 3)) _ _ 22 3 (.int .i64 0) 8 rfl rfl Try.underlying22 Try.info3 rfl (by decide) w1.heap.size _ _ _ _ rfl (OI.lit0 w1.heap.size w1 (Nat.le_refl _)) rfl ((HSL.out.below HB1.out).below ((Below.refl _ _).alloc (Nat.le_refl _) _)) (ints_one _) (by simp; rw [hN.out]; omega) (by simp) ?_; intro v' w2 ho1 hg1 hg2)
  have ho2 : OI w1.heap.size w2 v' (powL f N' 1) := (OI.ofApp (l := []) ho1).cast (by rw [HP1.out]; rfl)
  have hb2' : Below w1.heap.size w1 w2 := ((Below.refl _ _).alloc (Nat.le_refl _) _).grown hg1 (by simp) (fun k e => by cases e; exact Nat.le_refl _)
  have hs2 := HS.out.below hb2'
  have hb2 := HB1.out.trans (hb2'.mono hsz1)
  have ho3 := ho2.mono hsz1
  clear ho1 hg1 hg2 ho2 hb2'
  go_loopw [4, 5] (fun q n wr => ∃ t : Nat, 1 ≤ t ∧ t ≤ od ∧ n = .int .i64 t ∧ OI w.heap.size wr q (powL f N' t) ∧ OI w.heap.size wr s (stillL N') ∧ Below w.heap.size w wr) (fun _ n _ => od - (intOf n).toNat)
  case atStart => exact ⟨1, Nat.le_refl _, hord.1, rfl, ho3, hs2, hb2⟩
  case round =>
    obtain ⟨t, ht1, ht2, rfl, hq, hs, hb⟩ := hrel
    clear ho3 hs2 hb2
    have hbk := HBK.out t
    rw [HP0.out] at hbk
    have hi := hid (ints_any _ _ _ _ _ (hq.sl (by rw [HPL.out]; omega)) (hs.sl (by rw [still_len]; omega)))
    have HQ := hid hq
    have HS2 := hid hs
    have HB := hid hb
    have HTT := hid (HT.out t)
    have HTN := hid (HTH.out t)
    clear hq hs hb
    by_cases hd : t = od
    · have hdec : decide (powL f N' t = stillL N') = true := by rw [decide_eq_true_eq, hbk, hd]; exact Nat.dvd_refl _
      rw [hdec] at hi
      have HD := hid hd
      clear hd hdec hbk
      go_wp2_with fail
      refine hi.out.mono ?_
      rintro e w3 ⟨rfl, n3, rfl⟩
      go_wp2
      go_ret
      exact ⟨by rw [← HD.out]; rfl, below_drewN HB.out _⟩
    · have hdec : decide (powL f N' t = stillL N') = false := by
        rw [decide_eq_false_iff_not, hbk]
        intro h
        have := Nat.le_of_dvd (by omega) h
        omega
      rw [hdec] at hi
      clear hdec hbk
      go_wp2_with fail
      refine hi.out.mono ?_
      rintro e w3 ⟨rfl, n3, rfl⟩
      go_wp2_with fail
      refine (HTT.out _ _ (below_drewN HB.out _) ((HQ.out.drewN _).sl (by rw [HPL.out]; omega))).mono ?_
      rintro e w4 ⟨⟨r, rfl, hr⟩, hb4⟩
      have hsz := HB.out.size
      have HB4 := hid ((below_drewN HB.out n3).trans (hb4.mono hsz))
      have HS4 := hid ((HS2.out.drewN n3).below hb4)
      have HR4 := hid ((hr.cast HTN.out).mono (B' := w.heap.size) hsz)
      clear hb4 hr
      go_wp2
      go_roundw
      case rel => exact ⟨t + 1, by omega, by omega, by go_num, HR4.out, HS4.out, HB4.out⟩
      case measure => simp [intOf] <;> omega
end Go.Proofs.Ytgfdddknajeknaa
