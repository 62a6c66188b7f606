/-
  How often a permutation goes till nothing is moved: the walks over perm.order, Order and parterreref1.PermOrder. Conditions: the slice can be read; a permutation where it is said.
-/
import Derived.Test.YtgfdddknajeknaaPinv
import Derived.Test.YtgfdddknajeknaaWints
namespace Go.Proofs.Ytgfdddknajeknaa
set_option linter.unusedVariables false
open Go.RowKit

/-- The least common multiple of all. -/
def lcmL (L : List Nat) : Nat := L.foldl Nat.lcm 1
theorem lcmL_snoc (L : List Nat) (x : Nat) : lcmL (L ++ [x]) = Nat.lcm (lcmL L) x := by simp [lcmL]
theorem lcm_fold (x : Nat) : ∀ (L : List Nat) (a : Nat), L.foldl Nat.lcm a ∣ x ↔ a ∣ x ∧ ∀ y ∈ L, y ∣ x
  | [], a => by simp
  | y :: L, a => by
    rw [List.foldl_cons, lcm_fold x L, Nat.lcm_dvd_iff]
    simp only [List.mem_cons, forall_eq_or_imp]
    exact ⟨fun ⟨⟨h1, h2⟩, h3⟩ => ⟨h1, h2, h3⟩, fun ⟨h1, h2, h3⟩ => ⟨⟨h1, h2⟩, h3⟩⟩
theorem lcmL_dvd (L : List Nat) (x : Nat) : lcmL L ∣ x ↔ ∀ y ∈ L, y ∣ x := by
  unfold lcmL
  rw [lcm_fold]
  simp
theorem lcm_pos_fold : ∀ (L : List Nat) (a : Nat), 0 < a → (∀ y ∈ L, 0 < y) → 0 < L.foldl Nat.lcm a
  | [], a, h, _ => h
  | y :: L, a, h, hy => by
    rw [List.foldl_cons]
    exact lcm_pos_fold L _ (Nat.lcm_pos h (hy y (by simp))) (fun z hz => hy z (by simp [hz]))
theorem lcm_bd_fold : ∀ (L : List Nat) (a : Nat), (∀ y ∈ L, 0 < y ∧ y ≤ 12) → 0 < a → L.foldl Nat.lcm a ≤ a * 12 ^ L.length
  | [], a, _, _ => by simp
  | y :: L, a, hy, ha => by
    rw [List.foldl_cons]
    have h1 := hy y (by simp)
    have h2 := lcm_bd_fold L (Nat.lcm a y) (fun z hz => hy z (by simp [hz])) (Nat.lcm_pos ha h1.1)
    have h3 : Nat.lcm a y ≤ a * y := Nat.le_of_dvd (Nat.mul_pos ha h1.1) (Nat.lcm_dvd_mul a y)
    have h4 : a * y ≤ a * 12 := Nat.mul_le_mul_left a h1.2
    refine Nat.le_trans h2 ?_
    rw [List.length_cons, Nat.pow_succ, Nat.mul_comm (12 ^ L.length) 12, ← Nat.mul_assoc]
    exact Nat.mul_le_mul_right _ (Nat.le_trans h3 h4)
/-- The first multiple that the other divides. -/
theorem lcm_first {o len t : Nat} (ho : 0 < o) (hl : 0 < len) (h1 : 1 ≤ t) (hd : len ∣ o * t) (hno : ∀ s, 1 ≤ s → s < t → ¬ len ∣ o * s) : Nat.lcm o len = o * t := by
  obtain ⟨s, hs⟩ := Nat.dvd_lcm_left o len
  have hpos := Nat.lcm_pos ho hl
  have hs1 : 1 ≤ s := by
    rcases Nat.eq_zero_or_pos s with h | h
    · rw [h, Nat.mul_zero] at hs; omega
    · exact h
  have h2 : len ∣ o * s := by rw [← hs]; exact Nat.dvd_lcm_right o len
  have h3 : Nat.lcm o len ∣ o * t := Nat.lcm_dvd (Nat.dvd_mul_right o t) hd
  have h4 : Nat.lcm o len ≤ o * t := Nat.le_of_dvd (Nat.mul_pos ho h1) h3
  rw [hs] at h4
  have h5 : s ≤ t := Nat.le_of_mul_le_mul_left h4 ho
  have h6 : t ≤ s := by
    rcases Nat.lt_or_ge s t with h | h
    · exact absurd h2 (hno s hs1 h)
    · exact h
  rw [hs, show s = t by omega]

/-- The lengths of the cycles. -/
def cycLen (f : Nat → Nat) (N : Nat) : List Nat := (cycL f N N).map List.length
theorem cycLen_mem {f : Nat → Nat} {N : Nat} (P : Pm N f) : ∀ y ∈ cycLen f N, 0 < y ∧ y ≤ N := by
  intro y hy
  simp only [cycLen, cycL, List.mem_map] at hy
  obtain ⟨L, ⟨i, hi, rfl⟩, rfl⟩ := hy
  have h := P.per_spec (List.mem_range.1 (List.mem_filter.1 hi).1)
  rw [orb_len]
  omega
theorem cycLen_len (f : Nat → Nat) (N : Nat) : (cycLen f N).length ≤ N := by
  unfold cycLen cycL
  rw [List.length_map, List.length_map]
  exact Nat.le_trans (List.length_filter_le _ _) (by simp)
def ordN (f : Nat → Nat) (N : Nat) : Nat := lcmL (cycLen f N)
theorem Pm.ord_dvd {f : Nat → Nat} {N : Nat} (P : Pm N f) (x : Nat) : ordN f N ∣ x ↔ ∀ i, i < N → it f x i = i := by
  unfold ordN
  rw [lcmL_dvd]
  constructor
  · intro h i hi
    obtain ⟨a, ha, hj⟩ := P.one_lead hi
    obtain ⟨hl, hr⟩ := (hj a ha).2 rfl
    rw [P.it_back hi, P.per_reach ha hr]
    refine Nat.mod_eq_zero_of_dvd (h _ ?_)
    simp only [cycLen, cycL, List.mem_map]
    exact ⟨_, ⟨a, List.mem_filter.2 ⟨List.mem_range.2 ha, hl⟩, rfl⟩, orb_len _ _ _⟩
  · intro h y hy
    simp only [cycLen, cycL, List.mem_map] at hy
    obtain ⟨L, ⟨i, hi, rfl⟩, rfl⟩ := hy
    have hi' := List.mem_range.1 (List.mem_filter.1 hi).1
    rw [orb_len]
    exact Nat.dvd_of_mod_eq_zero ((P.it_back hi' x).1 (h i hi'))
theorem Pm.ord_pos {f : Nat → Nat} {N : Nat} (P : Pm N f) : 0 < ordN f N := lcm_pos_fold _ 1 (by omega) (fun y hy => (cycLen_mem P y hy).1)
theorem Pm.ord_le {f : Nat → Nat} {N : Nat} (P : Pm N f) (h12 : N ≤ 12) (k : Nat) : 0 < lcmL ((cycLen f N).take k) ∧ lcmL ((cycLen f N).take k) ≤ 8916100448256 := by
  have hm : ∀ y ∈ (cycLen f N).take k, 0 < y ∧ y ≤ 12 := fun y hy => by have := cycLen_mem P y (List.mem_of_mem_take hy); omega
  refine ⟨lcm_pos_fold _ 1 (by omega) (fun y hy => (hm y hy).1), ?_⟩
  have h1 := lcm_bd_fold _ 1 hm (by omega)
  rw [Nat.one_mul] at h1
  have h2 : ((cycLen f N).take k).length ≤ 12 := by
    rw [List.length_take]
    have := cycLen_len f N
    omega
  have h3 : 12 ^ ((cycLen f N).take k).length ≤ 12 ^ 12 := Nat.pow_le_pow_right (by omega) h2
  have h4 : (12 : Nat) ^ 12 = 8916100448256 := by decide
  unfold lcmL
  omega

set_option maxHeartbeats 1000000 in
theorem order_ok (v : Value) (l : List Int) (N : Nat) (f : Nat → Nat) (w : World) (hl : Sl w v l) (P : PmL l N f) :
    Calls Try.prog 34 #[v] w fun e w' => e = .returned (.int .i64 (ordN f N : Nat)) ∧ Below w.heap.size w w' := by
  have h12 := P.n12
  have HC := hid (cycles_ok v l N f w hl P)
  have HLN := hid (cycLen_len f N)
  have HLM := hid (cycLen_mem P.pm)
  have HBD := hid (P.pm.ord_le h12)
  have HLL : Hid (∀ i, i < ((cycL f N N).map intsL).length → (((cycL f N N).map intsL).getD i []).length = (cycLen f N).getD i 0) := hid (fun i hi => by
    have hi2 : i < (cycL f N N).length := by simpa using hi
    have hi3 : i < (cycLen f N).length := by simpa [cycLen] using hi2
    rw [List.getD_eq_getElem?_getD, List.getElem?_eq_getElem hi, List.getD_eq_getElem?_getD, List.getElem?_eq_getElem hi3]
    simp [cycLen, intsL_len])
  have HLE : Hid (((cycL f N N).map intsL).length = (cycLen f N).length) := hid (by simp [cycLen])
  have HO : Hid (ordN f N = lcmL (cycLen f N)) := hid rfl
  clear hl P
  generalize ordN f N = res at *
  generalize cycLen f N = L at *
  generalize (cycL f N N).map intsL = ll at *
  go_enter Try.func34, Try.ntmps34
  go_wp2_with fail
  refine HC.out.mono ?_
  rintro e w2 ⟨⟨u, rfl, hu⟩, hb2⟩
  obtain ⟨ua, uc, rfl⟩ := hu.len
  obtain ⟨M, hM⟩ : ∃ M, ll.length = M := ⟨_, rfl⟩
  have HM := hid hM
  rw [hM] at hu HLL HLE ⊢
  have HML := hid HLE.out
  have hMN : M ≤ N := by rw [HML.out]; exact HLN.out
  have HU := hid hu
  have HB := hid hb2
  clear hu hb2 hM
  go_wp2
  go_loopw [3, 10] (fun o i wr => ∃ k : Nat, k ≤ M ∧ i = .int .i64 k ∧ o = .int .i64 (lcmL (L.take k) : Nat) ∧ wr = w2) (fun _ i _ => M - (intOf i).toNat)
  case atStart => exact ⟨0, Nat.zero_le _, rfl, by simp [lcmL], rfl⟩
  case round =>
    obtain ⟨k, hk, rfl, rfl, rfl⟩ := hrel
    by_cases hlt : k < M
    · have hkL : k < L.length := by rw [← HML.out]; exact hlt
      obtain ⟨g, c, e, _, _⟩ := HU.out.form (by rw [HM.out]; omega)
      rw [HM.out] at e
      obtain ⟨rfl, rfl⟩ : ua = some ⟨g, 0, none⟩ ∧ uc = c := by simpa using e
      obtain ⟨x, hx, hox⟩ := HU.out.get k (by rw [HM.out]; exact hlt)
      obtain ⟨xa, xc, rfl⟩ := hox.len
      have hlx := HLL.out k hlt
      rw [hlx] at hx
      have hmem := HLM.out (L.getD k 0) (by rw [List.getD_eq_getElem?_getD, List.getElem?_eq_getElem hkL]; exact List.getElem_mem hkL)
      have HSN : Hid (lcmL (L.take (k + 1)) = Nat.lcm (lcmL (L.take k)) (L.getD k 0)) := hid (by
        rw [List.take_add_one, List.getElem?_eq_getElem hkL, List.getD_eq_getElem?_getD, List.getElem?_eq_getElem hkL]
        exact lcmL_snoc _ _)
      obtain ⟨b1, b2⟩ := HBD.out k
      have HFI := hid (fun t h1 hd hno => lcm_first (t := t) b1 hmem.1 h1 hd hno)
      obtain ⟨m1, m2⟩ := hmem
      clear hox hlx e
      generalize lcmL (L.take k) = o at *
      generalize L.getD k 0 = len at *
      have hl0 : ¬ (len : Int) = 0 := by omega
      obtain ⟨w0, rfl⟩ : ∃ w0, w0 = wr := ⟨wr, rfl⟩
      have hbm : o * len ≤ 8916100448256 * 12 := Nat.mul_le_mul b2 (by omega)
      go_wp2
      go_loopw [6] (fun m wq => ∃ t p : Nat, 1 ≤ t ∧ t ≤ len ∧ m = .int .i64 p ∧ Hid (p = o * t) ∧ p ≤ o * len ∧ Hid (∀ s, 1 ≤ s → s < t → ¬ len ∣ o * s) ∧ wq = w0) (fun m _ => o * len - (intOf m).toNat)
      case atStart => exact ⟨1, o, Nat.le_refl _, m1, rfl, hid (Nat.mul_one o).symm, Nat.le_mul_of_pos_right o m1, hid (fun s h1 h2 => by omega), rfl⟩
      case round =>
        obtain ⟨t, p, ht1, ht2, rfl, hp, hpl, hno, rfl⟩ := hrel
        by_cases hd : len ∣ p
        · have qd : ((p : Int) % (len : Int) != 0) = false := by
            have : (p : Int) % (len : Int) = ((p % len : Nat) : Int) := (Int.natCast_emod p len).symm
            rw [this, Nat.mod_eq_zero_of_dvd hd]; rfl
          have HL := hid (HFI.out t ht1 (by rw [← hp.out]; exact hd) hno.out)
          clear hd hbm hpl
          go_wp2
          go_roundw
          case rel => exact ⟨k + 1, by omega, by go_num, by rw [HSN.out, HL.out, ← hp.out], by simp⟩
          case measure => simp [intOf] <;> omega
        · have qd : ((p : Int) % (len : Int) != 0) = true := by
            have h1 : (p : Int) % (len : Int) = ((p % len : Nat) : Int) := (Int.natCast_emod p len).symm
            have h2 : p % len ≠ 0 := fun h => hd (Nat.dvd_of_mod_eq_zero h)
            rw [h1]; simp; omega
          have htl : t < len := by
            rcases Nat.lt_or_ge t len with h | h
            · exact h
            · exact absurd (by rw [hp.out, show t = len by omega]; exact Nat.dvd_mul_left len o) hd
          have HP : Hid (p + o = o * (t + 1)) := hid (by rw [hp.out, Nat.mul_succ])
          have hpl2 : p + o ≤ o * len := by rw [HP.out]; exact Nat.mul_le_mul_left o htl
          have HNO : Hid (∀ s, 1 ≤ s → s < t + 1 → ¬ len ∣ o * s) := hid (fun s h1 h2 => by
            by_cases e : s = t
            · rw [e, ← hp.out]; exact hd
            · exact hno.out s h1 (by omega))
          generalize o * len = bm at *
          clear hd hno
          go_wp2
          go_roundw
          case rel => exact ⟨t + 1, p + o, by omega, by omega, by go_num, HP, hpl2, HNO, by simp⟩
          case measure => simp [intOf] <;> omega
    · obtain rfl : M = k := by omega
      have HE := HO.out
      rw [List.take_of_length_le (by rw [HML.out]; exact Nat.le_refl _), ← HO.out]
      go_wp2
      go_ret
      exact ⟨rfl, HB.out⟩

theorem Order_bad (v : Value) (l : List Int) (w : World) (hl : Sl w v l) (h : permE l ≠ 0) :
    Calls Try.prog 19 #[v] w fun e w' => e = .returned (.tuple #[.int .i64 0, .int .i64 (permE l)]) ∧ Below w.heap.size w w' := by
  have H1 := hid (check_any v l w hl)
  have hq : (permE l != 0) = true := by simpa using h
  clear h hl
  generalize permE l = z at *
  go_enter Try.func19, Try.ntmps19
  go_wp2_with fail
  refine H1.out.mono ?_
  rintro e w1 ⟨rfl, hb1⟩
  go_wp2
  go_ret2
  exact ⟨rfl, hb1⟩
theorem Order_ok (v : Value) (l : List Int) (w : World) (hl : Sl w v l) (h : permE l = 0) :
    Calls Try.prog 19 #[v] w fun e w' => e = .returned (.tuple #[.int .i64 (ordN (fL l) l.length : Nat), .int .i64 0]) ∧ Below w.heap.size w w' := by
  have H1 := hid (check_any v l w hl)
  rw [h] at H1
  have H2 := hid (fun w1 (hb : Below w.heap.size w w1) => order_ok v l _ _ w1 (hl.below hb) (pm_of h))
  clear h hl
  go_enter Try.func19, Try.ntmps19
  go_wp2_with fail
  refine H1.out.mono ?_
  rintro e w1 ⟨rfl, hb1⟩
  go_wp2_with fail
  refine (H2.out _ hb1).mono ?_
  rintro e w2 ⟨rfl, hb2⟩
  have HB := hid (hb1.trans (hb2.mono hb1.size))
  clear hb2
  go_wp2
  go_ret2
  exact ⟨rfl, HB.out⟩
end Go.Proofs.Ytgfdddknajeknaa
