/-
  The walk over parterrelaw1.FieldEuler. Conditions: the numbers are of 64 bits; the primes are laid; the slice can be read.
-/
import Derived.Test.YthdlhfgeminoiaaDoorFrob
import Derived.Test.YthdlhfgeminoiaaDoorFsq
namespace Go.Proofs.YthdlhfgeminoiaaDoor
set_option linter.unusedVariables false
open Go.RowKit

theorem sq_eq {P K : Nat} {low : List Nat} {E L : Nat → Nat} (B : FB P K) (X : FX P K low E L) (Y : FY P K low) : (((List.range 64).filter (sqU P K low (P ^ K - 1))).length = if P ^ K % 2 = 0 then P ^ K - 1 else (P ^ K - 1) / 2) ∧ (P ^ K % 2 = 1 → ∀ a, 1 ≤ a → a < P ^ K → (sqU P K low (P ^ K - 1) a = true ↔ mpF P K low a ((P ^ K - 1) / 2) = 1)) := by
  have hq2 := B.q2
  have hp2 := B.p2
  obtain ⟨s, hs, hl⟩ := Y.sq
  -- what is a square, by the powers
  have hsq : ∀ a, sqU P K low (P ^ K - 1) a = true ↔ ∃ i, a = E (2 * i) := fun a => by
    rw [sqU_in]
    constructor
    · rintro ⟨b, h1, h2, h3⟩
      refine ⟨L b, ?_⟩
      have := X.eL b h1 (by omega)
      rw [← h3, Nat.two_mul, ← X.mul, this]
    · rintro ⟨i, hi⟩
      exact ⟨E i, X.pos i, by have := X.lt i; omega, by rw [X.mul, hi, Nat.two_mul]⟩
  have hiff : ∀ a, s a = sqU P K low (P ^ K - 1) a := fun a => by
    rw [Bool.eq_iff_iff, hs, hsq]
    constructor
    · rintro ⟨h1, h2, h3⟩
      rcases h3 with h3 | ⟨i, _, E', L', X', hx⟩
      · -- an even order
        have ha := X.eL a h1 h2
        by_cases he : L a % 2 = 0
        · exact ⟨L a / 2, by rw [show 2 * (L a / 2) = L a by omega]; exact ha.symm⟩
        · refine ⟨(L a + (P ^ K - 1)) / 2, ?_⟩
          rw [show 2 * ((L a + (P ^ K - 1)) / 2) = L a + (P ^ K - 1) by omega, X.per, ha]
      · have hb : mulF P K low (E' i) (E' i) = a := by rw [X'.mul, hx]; congr 1; omega
        refine ⟨L (E' i), ?_⟩
        rw [Nat.two_mul, ← X.mul, X.eL _ (X'.pos i) (X'.lt i), hb]
    · rintro ⟨i, hi⟩
      refine ⟨by rw [hi]; exact X.pos _, by rw [hi]; exact X.lt _, .inr ⟨i, (X.fermat B (by rw [hi]; exact X.lt _)).symm, E, L, X, hi⟩⟩
  refine ⟨?_, fun hodd a h1 h2 => ?_⟩
  · rw [← hl, funext hiff]
  · rw [hsq]
    obtain ⟨m, hm⟩ : ∃ m, P ^ K - 1 = 2 * m := ⟨(P ^ K - 1) / 2, by omega⟩
    have hm1 : 1 ≤ m := by
      rcases Nat.eq_zero_or_pos m with h | h
      · omega
      · exact h
    rw [show (P ^ K - 1) / 2 = m by omega]
    have ha := X.eL a h1 h2
    constructor
    · rintro ⟨i, hi⟩
      rw [hi, X.mpE, show 2 * i * m = i * (P ^ K - 1) by rw [hm, Nat.mul_comm 2 i, Nat.mul_assoc], ← X.Emod, Nat.mul_mod_left, X.one]
    · intro h
      rw [← ha, X.mpE, ← X.one] at h
      have h3 := X.E_inj B h
      rw [Nat.zero_mod, hm, Nat.mul_mod_mul_right] at h3
      have h4 : L a % 2 = 0 := by
        rcases Nat.mul_eq_zero.1 h3 with h | h
        · exact h
        · omega
      exact ⟨L a / 2, by rw [show 2 * (L a / 2) = L a by omega]; exact ha.symm⟩
/-- Is it among the first t? -/
def inU (l : List Int) (a : Int) (t : Nat) : Bool := (l.take t).any (· == a)
theorem inU_succ (l : List Int) (a : Int) {t : Nat} (h : t < l.length) : inU l a (t + 1) = (inU l a t || l.getD t 0 == a) := by
  unfold inU
  rw [List.take_add_one, List.getElem?_eq_getElem h, Option.toList_some, List.any_append, List.any_cons, List.any_nil, Bool.or_false, List.getD_eq_getElem?_getD, List.getElem?_eq_getElem h]
  rfl
theorem inU_all (f : Nat → Bool) (a : Nat) (ha : a < 64) : inU (outS f 64) a (outS f 64).length = f a := by
  unfold inU
  rw [List.take_length, Bool.eq_iff_iff, List.any_eq_true]
  unfold outS nZ
  constructor
  · rintro ⟨x, hx, he⟩
    obtain ⟨y, hy, rfl⟩ := List.mem_map.1 hx
    rw [beq_iff_eq] at he
    obtain rfl : y = a := by omega
    exact (List.mem_filter.1 hy).2
  · intro h
    exact ⟨(a : Int), List.mem_map.2 ⟨a, List.mem_filter.2 ⟨List.mem_range.2 ha, h⟩, rfl⟩, by simp⟩

set_option maxHeartbeats 4000000 in
set_option maxRecDepth 100000 in
theorem euler_even (w : World) (hp : Prs w) (p k : Int) {P K n : Nat} (hpe : p = (P : Int)) (hke : k = (K : Int)) (hF : FOk P K n) (u : Value) (low : List Int) (hle : low = nZ (dgL P n K)) (hu : Sl w u low) (ip : I64 p) (ik : I64 k) (hi64 : ∀ x ∈ low, I64 x) (a : Int) (ia : I64 a) (hev : P ^ K % 2 = 0) :
    Calls Tryd.prog 9 #[fldV p k u, .int .i64 a] w fun e w' => e = .returned (.bool true) ∧ Below w.heap.size w w' := by
  obtain ⟨⟨E, L, hX⟩, _⟩ := hF.fx
  have hY := hF.fy
  obtain ⟨Q, hQ⟩ : ∃ Q : Nat, Q = P ^ K := ⟨_, rfl⟩
  have B := hF.fb
  have hq64 := hF.q64
  have hq2 := B.q2
  have hp2 := B.p2
  have hp64 := B.p64
  have hK1 := B.k1
  have hK6 := B.k6
  have hse := sq_eq B hX hY
  obtain ⟨ax, cx, e1⟩ := hu.len
  subst e1
  have HW0 := hid (And.intro (Arr.new w 24 [.int .i64 p, .int .i64 k, .slice ax low.length cx]) ((Below.refl w.heap.size w).alloc (Nat.le_refl _) (.cells #[.int .i64 p, .int .i64 k, .slice ax low.length cx] 24)))
  have r0 := HW0.out.1.range
  have i3 : (Tryd.prog.info? 24).map (·.size) = some 3 := by kernel_rfl
  have HFA := hid (fun w1 (hb : Below w.heap.size w w1) => fact_ok w1 (hp.below hb))
  have HSQ := hid (fun w1 (hb : Below w.heap.size w w1) => Squares_ok (u := .slice ax low.length cx) hF (hp.below hb) (by rw [← hle]; exact hu.below hb) hX)
  unfold fldV at HSQ
  rw [← hpe, ← hke] at HSQ
  have hlen := hse.1
  rw [← nZ_len] at hlen
  rw [← hQ] at hlen HSQ
  have hle2 := outS_len (sqU P K (dgL P n K) (Q - 1)) 64
  rw [if_pos (by rw [hQ]; exact hev)] at hlen
  obtain ⟨S, hS⟩ : ∃ S, outS (sqU P K (dgL P n K) (Q - 1)) 64 = S := ⟨_, rfl⟩
  rw [show nZ ((List.range 64).filter (sqU P K (dgL P n K) (Q - 1))) = S from hS] at hlen
  rw [hS] at HSQ hle2
  obtain ⟨F, hF0⟩ : ∃ F : Nat → Nat, F = fun i => P ^ i := ⟨_, rfl⟩
  have HF0 : Hid (F 0 = 1) := hid (by rw [hF0]; rfl)
  have HFK : Hid (F K = P ^ K) := hid (by rw [hF0])
  have HKE : Hid (k = (K : Int)) := hid hke
  have HFS : Hid (∀ t, t < K → ((F t : Nat) : Int) * p = ((F (t + 1) : Nat) : Int) ∧ F t ≤ 64 ∧ F (t + 1) ≤ 64) := hid (fun t ht => by
    rw [hF0, hpe]
    have h1 : P ^ t ≤ P ^ K := Nat.pow_le_pow_right (by omega) (by omega)
    have h2 : P ^ (t + 1) ≤ P ^ K := Nat.pow_le_pow_right (by omega) (by omega)
    refine ⟨?_, show P ^ t ≤ 64 by omega, show P ^ (t + 1) ≤ 64 by omega⟩
    show ((P ^ t : Nat) : Int) * (P : Int) = ((P ^ (t + 1) : Nat) : Int)
    rw [Nat.pow_succ, Int.natCast_mul])
  clear hF0
  clear hu hp hF hX hY hse hS hpe hke hle B hi64 
  have hQ64 : Q ≤ 64 := by omega
  have hQ2 : 2 ≤ Q := by omega
  have hlenQ : ((S.length : Int) = (Q : Int) - 1) := by rw [hlen]; omega
  rw [← hQ] at HFK hev
  clear hQ hq64 hq2 hp2 hp64
  have hmod2 : (Q : Int).tmod 2 = 0 := by rw [Int.tmod_eq_emod_of_nonneg (by omega)]; omega
  generalize low.length = N at *
  unfold fldV
  go_enter Tryd.func9, Tryd.ntmps9
  go_wp2_with fail
  refine (HFA.out _ HW0.out.2).mono ?_
  rintro e w1 ⟨rfl, hb1⟩
  have HW1 := hid (And.intro (HW0.out.1.below hb1) (HW0.out.2.trans (hb1.mono HW0.out.2.size)))
  have r1 := HW1.out.1.range
  clear hb1 r0 HW0 HFA
  go_wp2_with (refine wpList_load_mid rfl 24 _ rfl w.heap.size 0 rfl [.int .i64 p, .int .i64 k, .slice ax N cx] _ r1 Tryd.underlying24 rfl i3 ?_)
  refine (HSQ.out _ HW1.out.2).mono ?_
  rintro e w2 ⟨⟨v, rfl, hv⟩, hb2⟩
  obtain ⟨av, cv, e4⟩ := hv.len
  subst e4
  have HV := hid (And.intro (hv.mono HW1.out.2.size) trivial)
  have HW2 := hid (And.intro (HW1.out.1.below hb2) (HW1.out.2.trans (hb2.mono HW1.out.2.size)))
  have r2 := HW2.out.1.range
  clear hb2 r1 HW1 HSQ hv
  generalize hSL : S.length = SL at *
  have HSL := hid hSL
  clear hSL
  have hcmp : ((SL : Int) == (Q : Int) - 1) = true := by rw [beq_iff_eq]; exact hlenQ
  clear hlenQ hlen
  go_wp2_with fail
  clear r2
  go_loopw [8, 9] (fun x y wq => ∃ t : Nat, x = .int .i64 (F t : Nat) ∧ y = .int .i64 t ∧ t ≤ K ∧ Arr wq w.heap.size 24 [.int .i64 p, .int .i64 k, .slice ax N cx] ∧ Below w.heap.size w wq ∧ OI w.heap.size wq (.slice av SL cv) S) (fun _ y _ => K - (intOf y).toNat)
  case atStart => exact ⟨0, by rw [HF0.out]; rfl, rfl, Nat.zero_le _, HW2.out.1, HW2.out.2, HV.out.1⟩
  case round =>
    clear HW2 HV
    obtain ⟨t, rfl, rfl, htl, hA, hB, hV⟩ := hrel
    have k0 := hA.cell 0
    have k1 := hA.cell 1
    simp only [List.getElem?_cons_zero, List.getElem?_cons_succ] at k0 k1
    by_cases hte : t < K
    · have htk : (t : Int) < k := by rw [HKE.out]; omega
      have hft := HFS.out t hte
      have hmul : ((F t : Nat) : Int) * p = ((F (t + 1) : Nat) : Int) := hft.1
      have hfl := hft.2.1
      have hfl2 := hft.2.2
      have HX := hid (And.intro hA (And.intro hB hV))
      clear hA hB hV hft
      generalize hf2 : F (t + 1) = f2 at *
      have HF2 := hid hf2
      clear hf2
      go_wp2
      go_roundw
      case rel => exact ⟨t + 1, by rw [HF2.out], by go_num, by omega, HX.out.1, HX.out.2.1, HX.out.2.2⟩
      case measure => simp [intOf] <;> omega
    · obtain rfl : K = t := by omega
      have htk : ¬ (K : Int) < k := by rw [HKE.out]; omega
      have HW3 := hid (And.intro hA hB)
      have HV3 := hid hV
      have r3 := HW3.out.1.range
      clear hA hB hV
      rw [HFK.out]
      go_wp2
      go_ret
      exact ⟨rfl, HW3.out.2⟩

set_option maxHeartbeats 4000000 in
set_option maxRecDepth 100000 in
theorem euler_off (w : World) (hp : Prs w) (p k : Int) {P K n : Nat} (hpe : p = (P : Int)) (hke : k = (K : Int)) (hF : FOk P K n) (u : Value) (low : List Int) (hle : low = nZ (dgL P n K)) (hu : Sl w u low) (ip : I64 p) (ik : I64 k) (hi64 : ∀ x ∈ low, I64 x) (a : Int) (ia : I64 a) (hev : P ^ K % 2 = 1) (hz : wiE p k low [a] ≠ 0) :
    Calls Tryd.prog 9 #[fldV p k u, .int .i64 a] w fun e w' => e = .returned (.bool true) ∧ Below w.heap.size w w' := by
  obtain ⟨⟨E, L, hX⟩, _⟩ := hF.fx
  have hY := hF.fy
  obtain ⟨Q, hQ⟩ : ∃ Q : Nat, Q = P ^ K := ⟨_, rfl⟩
  have B := hF.fb
  have hq64 := hF.q64
  have hq2 := B.q2
  have hp2 := B.p2
  have hp64 := B.p64
  have hK1 := B.k1
  have hK6 := B.k6
  have hse := sq_eq B hX hY
  obtain ⟨ax, cx, e1⟩ := hu.len
  subst e1
  have HW0 := hid (And.intro (Arr.new w 24 [.int .i64 p, .int .i64 k, .slice ax low.length cx]) ((Below.refl w.heap.size w).alloc (Nat.le_refl _) (.cells #[.int .i64 p, .int .i64 k, .slice ax low.length cx] 24)))
  have r0 := HW0.out.1.range
  have i3 : (Tryd.prog.info? 24).map (·.size) = some 3 := by kernel_rfl
  have HFA := hid (fun w1 (hb : Below w.heap.size w w1) => fact_ok w1 (hp.below hb))
  have HSQ := hid (fun w1 (hb : Below w.heap.size w w1) => Squares_ok (u := .slice ax low.length cx) hF (hp.below hb) (by rw [← hle]; exact hu.below hb) hX)
  have HPW := hid (fun w1 (hb : Below w.heap.size w w1) => Pow_bad p k a (((Q - 1) / 2 : Nat) : Int) (.slice ax low.length cx) low w1 ip ik ia (hp.below hb) (hu.below hb) hi64 hz)
  have hne : (wiE p k low [a] != 0) = true := by simpa using hz
  unfold fldV at HPW
  unfold fldV at HSQ
  rw [← hpe, ← hke] at HSQ
  have hlen := hse.1
  rw [← nZ_len] at hlen
  rw [← hQ] at hlen HSQ
  have hle2 := outS_len (sqU P K (dgL P n K) (Q - 1)) 64
  rw [if_neg (by rw [hQ]; omega)] at hlen
  obtain ⟨S, hS⟩ : ∃ S, outS (sqU P K (dgL P n K) (Q - 1)) 64 = S := ⟨_, rfl⟩
  rw [show nZ ((List.range 64).filter (sqU P K (dgL P n K) (Q - 1))) = S from hS] at hlen
  rw [hS] at HSQ hle2
  obtain ⟨F, hF0⟩ : ∃ F : Nat → Nat, F = fun i => P ^ i := ⟨_, rfl⟩
  have HF0 : Hid (F 0 = 1) := hid (by rw [hF0]; rfl)
  have HFK : Hid (F K = P ^ K) := hid (by rw [hF0])
  have HKE : Hid (k = (K : Int)) := hid hke
  have HFS : Hid (∀ t, t < K → ((F t : Nat) : Int) * p = ((F (t + 1) : Nat) : Int) ∧ F t ≤ 64 ∧ F (t + 1) ≤ 64) := hid (fun t ht => by
    rw [hF0, hpe]
    have h1 : P ^ t ≤ P ^ K := Nat.pow_le_pow_right (by omega) (by omega)
    have h2 : P ^ (t + 1) ≤ P ^ K := Nat.pow_le_pow_right (by omega) (by omega)
    refine ⟨?_, show P ^ t ≤ 64 by omega, show P ^ (t + 1) ≤ 64 by omega⟩
    show ((P ^ t : Nat) : Int) * (P : Int) = ((P ^ (t + 1) : Nat) : Int)
    rw [Nat.pow_succ, Int.natCast_mul])
  clear hF0
  clear hu hp hF hX hY hse hS hpe hke hle B hi64 hz
  have hQ64 : Q ≤ 64 := by omega
  have hQ2 : 2 ≤ Q := by omega
  have hlenQ : (S.length = (Q - 1) / 2) := by exact hlen
  rw [← hQ] at HFK hev
  clear hQ hq64 hq2 hp2 hp64
  generalize wiE p k low [a] = e1 at *
  have hmod2 : (Q : Int).tmod 2 = 1 := by rw [Int.tmod_eq_emod_of_nonneg (by omega)]; omega
  have hhalf : ((Q : Int) - 1).tdiv 2 = (((Q - 1) / 2 : Nat) : Int) := by rw [Int.tdiv_eq_ediv_of_nonneg (by omega)]; omega
  rw [← hlenQ] at hhalf HPW
  generalize low.length = N at *
  unfold fldV
  go_enter Tryd.func9, Tryd.ntmps9
  go_wp2_with fail
  refine (HFA.out _ HW0.out.2).mono ?_
  rintro e w1 ⟨rfl, hb1⟩
  have HW1 := hid (And.intro (HW0.out.1.below hb1) (HW0.out.2.trans (hb1.mono HW0.out.2.size)))
  have r1 := HW1.out.1.range
  clear hb1 r0 HW0 HFA
  go_wp2_with (refine wpList_load_mid rfl 24 _ rfl w.heap.size 0 rfl [.int .i64 p, .int .i64 k, .slice ax N cx] _ r1 Tryd.underlying24 rfl i3 ?_)
  refine (HSQ.out _ HW1.out.2).mono ?_
  rintro e w2 ⟨⟨v, rfl, hv⟩, hb2⟩
  obtain ⟨av, cv, e4⟩ := hv.len
  subst e4
  have HV := hid (And.intro (hv.mono HW1.out.2.size) trivial)
  have HW2 := hid (And.intro (HW1.out.1.below hb2) (HW1.out.2.trans (hb2.mono HW1.out.2.size)))
  have r2 := HW2.out.1.range
  clear hb2 r1 HW1 HSQ hv
  generalize hSL : S.length = SL at *
  have HSL := hid hSL
  clear hSL
  clear hlenQ hlen
  go_wp2_with fail
  clear r2
  go_loopw [8, 9] (fun x y wq => ∃ t : Nat, x = .int .i64 (F t : Nat) ∧ y = .int .i64 t ∧ t ≤ K ∧ Arr wq w.heap.size 24 [.int .i64 p, .int .i64 k, .slice ax N cx] ∧ Below w.heap.size w wq ∧ OI w.heap.size wq (.slice av SL cv) S) (fun _ y _ => K - (intOf y).toNat)
  case atStart => exact ⟨0, by rw [HF0.out]; rfl, rfl, Nat.zero_le _, HW2.out.1, HW2.out.2, HV.out.1⟩
  case round =>
    clear HW2 HV
    obtain ⟨t, rfl, rfl, htl, hA, hB, hV⟩ := hrel
    have k0 := hA.cell 0
    have k1 := hA.cell 1
    simp only [List.getElem?_cons_zero, List.getElem?_cons_succ] at k0 k1
    by_cases hte : t < K
    · have htk : (t : Int) < k := by rw [HKE.out]; omega
      have hft := HFS.out t hte
      have hmul : ((F t : Nat) : Int) * p = ((F (t + 1) : Nat) : Int) := hft.1
      have hfl := hft.2.1
      have hfl2 := hft.2.2
      have HX := hid (And.intro hA (And.intro hB hV))
      clear hA hB hV hft
      generalize hf2 : F (t + 1) = f2 at *
      have HF2 := hid hf2
      clear hf2
      go_wp2
      go_roundw
      case rel => exact ⟨t + 1, by rw [HF2.out], by go_num, by omega, HX.out.1, HX.out.2.1, HX.out.2.2⟩
      case measure => simp [intOf] <;> omega
    · obtain rfl : K = t := by omega
      have htk : ¬ (K : Int) < k := by rw [HKE.out]; omega
      have HW3 := hid (And.intro hA hB)
      have HV3 := hid hV
      have r3 := HW3.out.1.range
      clear hA hB hV
      rw [HFK.out]
      go_wp2_with (refine wpList_load_mid rfl 24 _ rfl w.heap.size 0 rfl [.int .i64 p, .int .i64 k, .slice ax N cx] _ r3 Tryd.underlying24 rfl i3 ?_)
      refine (HPW.out _ HW3.out.2).mono ?_
      rintro e w4 ⟨rfl, hb4⟩
      have HW4 := hid (And.intro (HW3.out.1.below hb4) (HW3.out.2.trans (hb4.mono HW3.out.2.size)))
      have r4 := HW4.out.1.range
      clear hb4 r3 HW3 HPW
      go_wp2
      go_ret
      exact ⟨rfl, HW4.out.2⟩

set_option maxHeartbeats 4000000 in
set_option maxRecDepth 100000 in
theorem euler_zero (w : World) (hp : Prs w) (p k : Int) {P K n : Nat} (hpe : p = (P : Int)) (hke : k = (K : Int)) (hF : FOk P K n) (u : Value) (low : List Int) (hle : low = nZ (dgL P n K)) (hu : Sl w u low) (ip : I64 p) (ik : I64 k) (hi64 : ∀ x ∈ low, I64 x) (a : Int) (ia : I64 a) (hev : P ^ K % 2 = 1) (h0 : a = 0) :
    Calls Tryd.prog 9 #[fldV p k u, .int .i64 a] w fun e w' => e = .returned (.bool true) ∧ Below w.heap.size w w' := by
  obtain ⟨⟨E, L, hX⟩, _⟩ := hF.fx
  have hY := hF.fy
  obtain ⟨Q, hQ⟩ : ∃ Q : Nat, Q = P ^ K := ⟨_, rfl⟩
  have B := hF.fb
  have hq64 := hF.q64
  have hq2 := B.q2
  have hp2 := B.p2
  have hp64 := B.p64
  have hK1 := B.k1
  have hK6 := B.k6
  have hse := sq_eq B hX hY
  obtain ⟨ax, cx, e1⟩ := hu.len
  subst e1
  have HW0 := hid (And.intro (Arr.new w 24 [.int .i64 p, .int .i64 k, .slice ax low.length cx]) ((Below.refl w.heap.size w).alloc (Nat.le_refl _) (.cells #[.int .i64 p, .int .i64 k, .slice ax low.length cx] 24)))
  have r0 := HW0.out.1.range
  have i3 : (Tryd.prog.info? 24).map (·.size) = some 3 := by kernel_rfl
  have HFA := hid (fun w1 (hb : Below w.heap.size w w1) => fact_ok w1 (hp.below hb))
  have HSQ := hid (fun w1 (hb : Below w.heap.size w w1) => Squares_ok (u := .slice ax low.length cx) hF (hp.below hb) (by rw [← hle]; exact hu.below hb) hX)
  have HPW := hid (fun w1 (hb : Below w.heap.size w w1) => Pow_ok (u := .slice ax low.length cx) (a := 0) (m := (Q - 1) / 2) hF (hp.below hb) (by rw [← hle]; exact hu.below hb) hX (by omega) (by omega))
  rw [show ((0 : Nat) : Int) = a from h0.symm] at HPW
  have haz : (a == 0) = true := by rw [beq_iff_eq]; exact h0
  unfold fldV at HSQ HPW
  rw [← hpe, ← hke] at HSQ HPW
  have hlen := hse.1
  rw [← nZ_len] at hlen
  rw [← hQ] at hlen HSQ
  have hle2 := outS_len (sqU P K (dgL P n K) (Q - 1)) 64
  rw [if_neg (by rw [hQ]; omega)] at hlen
  obtain ⟨S, hS⟩ : ∃ S, outS (sqU P K (dgL P n K) (Q - 1)) 64 = S := ⟨_, rfl⟩
  rw [show nZ ((List.range 64).filter (sqU P K (dgL P n K) (Q - 1))) = S from hS] at hlen
  rw [hS] at HSQ hle2
  obtain ⟨F, hF0⟩ : ∃ F : Nat → Nat, F = fun i => P ^ i := ⟨_, rfl⟩
  have HF0 : Hid (F 0 = 1) := hid (by rw [hF0]; rfl)
  have HFK : Hid (F K = P ^ K) := hid (by rw [hF0])
  have HKE : Hid (k = (K : Int)) := hid hke
  have HFS : Hid (∀ t, t < K → ((F t : Nat) : Int) * p = ((F (t + 1) : Nat) : Int) ∧ F t ≤ 64 ∧ F (t + 1) ≤ 64) := hid (fun t ht => by
    rw [hF0, hpe]
    have h1 : P ^ t ≤ P ^ K := Nat.pow_le_pow_right (by omega) (by omega)
    have h2 : P ^ (t + 1) ≤ P ^ K := Nat.pow_le_pow_right (by omega) (by omega)
    refine ⟨?_, show P ^ t ≤ 64 by omega, show P ^ (t + 1) ≤ 64 by omega⟩
    show ((P ^ t : Nat) : Int) * (P : Int) = ((P ^ (t + 1) : Nat) : Int)
    rw [Nat.pow_succ, Int.natCast_mul])
  clear hF0
  clear hu hp hF hX hY hse hS hpe hke hle B hi64 h0
  have hQ64 : Q ≤ 64 := by omega
  have hQ2 : 2 ≤ Q := by omega
  have hlenQ : (S.length = (Q - 1) / 2) := by exact hlen
  rw [← hQ] at HFK hev
  clear hQ hq64 hq2 hp2 hp64
  have hmod2 : (Q : Int).tmod 2 = 1 := by rw [Int.tmod_eq_emod_of_nonneg (by omega)]; omega
  have hhalf : ((Q : Int) - 1).tdiv 2 = (((Q - 1) / 2 : Nat) : Int) := by rw [Int.tdiv_eq_ediv_of_nonneg (by omega)]; omega
  rw [← hlenQ] at hhalf HPW
  generalize low.length = N at *
  unfold fldV
  go_enter Tryd.func9, Tryd.ntmps9
  go_wp2_with fail
  refine (HFA.out _ HW0.out.2).mono ?_
  rintro e w1 ⟨rfl, hb1⟩
  have HW1 := hid (And.intro (HW0.out.1.below hb1) (HW0.out.2.trans (hb1.mono HW0.out.2.size)))
  have r1 := HW1.out.1.range
  clear hb1 r0 HW0 HFA
  go_wp2_with (refine wpList_load_mid rfl 24 _ rfl w.heap.size 0 rfl [.int .i64 p, .int .i64 k, .slice ax N cx] _ r1 Tryd.underlying24 rfl i3 ?_)
  refine (HSQ.out _ HW1.out.2).mono ?_
  rintro e w2 ⟨⟨v, rfl, hv⟩, hb2⟩
  obtain ⟨av, cv, e4⟩ := hv.len
  subst e4
  have HV := hid (And.intro (hv.mono HW1.out.2.size) trivial)
  have HW2 := hid (And.intro (HW1.out.1.below hb2) (HW1.out.2.trans (hb2.mono HW1.out.2.size)))
  have r2 := HW2.out.1.range
  clear hb2 r1 HW1 HSQ hv
  generalize hSL : S.length = SL at *
  have HSL := hid hSL
  clear hSL
  clear hlenQ hlen
  go_wp2_with fail
  clear r2
  go_loopw [8, 9] (fun x y wq => ∃ t : Nat, x = .int .i64 (F t : Nat) ∧ y = .int .i64 t ∧ t ≤ K ∧ Arr wq w.heap.size 24 [.int .i64 p, .int .i64 k, .slice ax N cx] ∧ Below w.heap.size w wq ∧ OI w.heap.size wq (.slice av SL cv) S) (fun _ y _ => K - (intOf y).toNat)
  case atStart => exact ⟨0, by rw [HF0.out]; rfl, rfl, Nat.zero_le _, HW2.out.1, HW2.out.2, HV.out.1⟩
  case round =>
    clear HW2 HV
    obtain ⟨t, rfl, rfl, htl, hA, hB, hV⟩ := hrel
    have k0 := hA.cell 0
    have k1 := hA.cell 1
    simp only [List.getElem?_cons_zero, List.getElem?_cons_succ] at k0 k1
    by_cases hte : t < K
    · have htk : (t : Int) < k := by rw [HKE.out]; omega
      have hft := HFS.out t hte
      have hmul : ((F t : Nat) : Int) * p = ((F (t + 1) : Nat) : Int) := hft.1
      have hfl := hft.2.1
      have hfl2 := hft.2.2
      have HX := hid (And.intro hA (And.intro hB hV))
      clear hA hB hV hft
      generalize hf2 : F (t + 1) = f2 at *
      have HF2 := hid hf2
      clear hf2
      go_wp2
      go_roundw
      case rel => exact ⟨t + 1, by rw [HF2.out], by go_num, by omega, HX.out.1, HX.out.2.1, HX.out.2.2⟩
      case measure => simp [intOf] <;> omega
    · obtain rfl : K = t := by omega
      have htk : ¬ (K : Int) < k := by rw [HKE.out]; omega
      have HW3 := hid (And.intro hA hB)
      have HV3 := hid hV
      have r3 := HW3.out.1.range
      clear hA hB hV
      rw [HFK.out]
      go_wp2_with (refine wpList_load_mid rfl 24 _ rfl w.heap.size 0 rfl [.int .i64 p, .int .i64 k, .slice ax N cx] _ r3 Tryd.underlying24 rfl i3 ?_)
      refine (HPW.out _ HW3.out.2).mono ?_
      rintro e w4 ⟨rfl, hb4⟩
      have HW4 := hid (And.intro (HW3.out.1.below hb4) (HW3.out.2.trans (hb4.mono HW3.out.2.size)))
      have r4 := HW4.out.1.range
      clear hb4 r3 HW3 HPW
      go_wp2
      go_ret
      exact ⟨rfl, HW4.out.2⟩

set_option maxHeartbeats 4000000 in
set_option maxRecDepth 100000 in
theorem euler_in (w : World) (hp : Prs w) (p k : Int) {P K n : Nat} (hpe : p = (P : Int)) (hke : k = (K : Int)) (hF : FOk P K n) (u : Value) (low : List Int) (hle : low = nZ (dgL P n K)) (hu : Sl w u low) (ip : I64 p) (ik : I64 k) (hi64 : ∀ x ∈ low, I64 x) (a : Int) (ia : I64 a) (hev : P ^ K % 2 = 1) {X : Nat} (hae : a = (X : Int)) (hx1 : 1 ≤ X) (hx0 : X < P ^ K) :
    Calls Tryd.prog 9 #[fldV p k u, .int .i64 a] w fun e w' => e = .returned (.bool true) ∧ Below w.heap.size w w' := by
  obtain ⟨⟨E, L, hX⟩, _⟩ := hF.fx
  have hY := hF.fy
  obtain ⟨Q, hQ⟩ : ∃ Q : Nat, Q = P ^ K := ⟨_, rfl⟩
  have B := hF.fb
  have hq64 := hF.q64
  have hq2 := B.q2
  have hp2 := B.p2
  have hp64 := B.p64
  have hK1 := B.k1
  have hK6 := B.k6
  have hse := sq_eq B hX hY
  obtain ⟨ax, cx, e1⟩ := hu.len
  subst e1
  have HW0 := hid (And.intro (Arr.new w 24 [.int .i64 p, .int .i64 k, .slice ax low.length cx]) ((Below.refl w.heap.size w).alloc (Nat.le_refl _) (.cells #[.int .i64 p, .int .i64 k, .slice ax low.length cx] 24)))
  have r0 := HW0.out.1.range
  have i3 : (Tryd.prog.info? 24).map (·.size) = some 3 := by kernel_rfl
  have HFA := hid (fun w1 (hb : Below w.heap.size w w1) => fact_ok w1 (hp.below hb))
  have HSQ := hid (fun w1 (hb : Below w.heap.size w w1) => Squares_ok (u := .slice ax low.length cx) hF (hp.below hb) (by rw [← hle]; exact hu.below hb) hX)
  have HPW := hid (fun w1 (hb : Below w.heap.size w w1) => Pow_ok (u := .slice ax low.length cx) (a := X) (m := (Q - 1) / 2) hF (hp.below hb) (by rw [← hle]; exact hu.below hb) hX hx0 (by omega))
  rw [← hae] at HPW
  have haz : (a == 0) = false := by rw [beq_eq_false_iff_ne]; omega
  obtain ⟨R, hR⟩ : ∃ r, mpF P K (dgL P n K) X ((Q - 1) / 2) = r := ⟨_, rfl⟩
  rw [hR] at HPW
  have hio := hse.2 hev X hx1 hx0
  rw [← hQ, hR] at hio
  unfold fldV at HSQ HPW
  rw [← hpe, ← hke] at HSQ HPW
  have hlen := hse.1
  rw [← nZ_len] at hlen
  rw [← hQ] at hlen HSQ
  have hle2 := outS_len (sqU P K (dgL P n K) (Q - 1)) 64
  rw [if_neg (by rw [hQ]; omega)] at hlen
  obtain ⟨S, hS⟩ : ∃ S, outS (sqU P K (dgL P n K) (Q - 1)) 64 = S := ⟨_, rfl⟩
  rw [show nZ ((List.range 64).filter (sqU P K (dgL P n K) (Q - 1))) = S from hS] at hlen
  rw [hS] at HSQ hle2
  have hin := inU_all (sqU P K (dgL P n K) (Q - 1)) X (by omega)
  rw [hS, ← hae, show sqU P K (dgL P n K) (Q - 1) X = (R == 1) by rw [Bool.eq_iff_iff, hio, beq_iff_eq]] at hin
  have HIN := hid hin
  have HIS := hid (fun (t : Nat) (h : t < S.length) => inU_succ S a h)
  have HI0 : Hid (inU S a 0 = false) := hid rfl
  have HR1 : Hid ((((R : Nat) : Int) == 1) = (R == 1)) := hid (by rw [Bool.eq_iff_iff, beq_iff_eq, beq_iff_eq]; omega)
  clear hin hio
  obtain ⟨F, hF0⟩ : ∃ F : Nat → Nat, F = fun i => P ^ i := ⟨_, rfl⟩
  have HF0 : Hid (F 0 = 1) := hid (by rw [hF0]; rfl)
  have HFK : Hid (F K = P ^ K) := hid (by rw [hF0])
  have HKE : Hid (k = (K : Int)) := hid hke
  have HFS : Hid (∀ t, t < K → ((F t : Nat) : Int) * p = ((F (t + 1) : Nat) : Int) ∧ F t ≤ 64 ∧ F (t + 1) ≤ 64) := hid (fun t ht => by
    rw [hF0, hpe]
    have h1 : P ^ t ≤ P ^ K := Nat.pow_le_pow_right (by omega) (by omega)
    have h2 : P ^ (t + 1) ≤ P ^ K := Nat.pow_le_pow_right (by omega) (by omega)
    refine ⟨?_, show P ^ t ≤ 64 by omega, show P ^ (t + 1) ≤ 64 by omega⟩
    show ((P ^ t : Nat) : Int) * (P : Int) = ((P ^ (t + 1) : Nat) : Int)
    rw [Nat.pow_succ, Int.natCast_mul])
  clear hF0
  clear hu hp hF hX hY hse hS hpe hke hle B hi64 hR hx1 hx0 hae
  have hQ64 : Q ≤ 64 := by omega
  have hQ2 : 2 ≤ Q := by omega
  have hlenQ : (S.length = (Q - 1) / 2) := by exact hlen
  rw [← hQ] at HFK hev
  clear hQ hq64 hq2 hp2 hp64
  have hmod2 : (Q : Int).tmod 2 = 1 := by rw [Int.tmod_eq_emod_of_nonneg (by omega)]; omega
  have hhalf : ((Q : Int) - 1).tdiv 2 = (((Q - 1) / 2 : Nat) : Int) := by rw [Int.tdiv_eq_ediv_of_nonneg (by omega)]; omega
  rw [← hlenQ] at hhalf HPW
  generalize low.length = N at *
  unfold fldV
  go_enter Tryd.func9, Tryd.ntmps9
  go_wp2_with fail
  refine (HFA.out _ HW0.out.2).mono ?_
  rintro e w1 ⟨rfl, hb1⟩
  have HW1 := hid (And.intro (HW0.out.1.below hb1) (HW0.out.2.trans (hb1.mono HW0.out.2.size)))
  have r1 := HW1.out.1.range
  clear hb1 r0 HW0 HFA
  go_wp2_with (refine wpList_load_mid rfl 24 _ rfl w.heap.size 0 rfl [.int .i64 p, .int .i64 k, .slice ax N cx] _ r1 Tryd.underlying24 rfl i3 ?_)
  refine (HSQ.out _ HW1.out.2).mono ?_
  rintro e w2 ⟨⟨v, rfl, hv⟩, hb2⟩
  obtain ⟨av, cv, e4⟩ := hv.len
  subst e4
  have HV := hid (And.intro (hv.mono HW1.out.2.size) trivial)
  have HW2 := hid (And.intro (HW1.out.1.below hb2) (HW1.out.2.trans (hb2.mono HW1.out.2.size)))
  have r2 := HW2.out.1.range
  clear hb2 r1 HW1 HSQ hv
  generalize hSL : S.length = SL at *
  have HSL := hid hSL
  clear hSL
  clear hlenQ hlen
  go_wp2_with fail
  clear r2
  go_loopw [8, 9] (fun x y wq => ∃ t : Nat, x = .int .i64 (F t : Nat) ∧ y = .int .i64 t ∧ t ≤ K ∧ Arr wq w.heap.size 24 [.int .i64 p, .int .i64 k, .slice ax N cx] ∧ Below w.heap.size w wq ∧ OI w.heap.size wq (.slice av SL cv) S) (fun _ y _ => K - (intOf y).toNat)
  case atStart => exact ⟨0, by rw [HF0.out]; rfl, rfl, Nat.zero_le _, HW2.out.1, HW2.out.2, HV.out.1⟩
  case round =>
    clear HW2 HV
    obtain ⟨t, rfl, rfl, htl, hA, hB, hV⟩ := hrel
    have k0 := hA.cell 0
    have k1 := hA.cell 1
    simp only [List.getElem?_cons_zero, List.getElem?_cons_succ] at k0 k1
    by_cases hte : t < K
    · have htk : (t : Int) < k := by rw [HKE.out]; omega
      have hft := HFS.out t hte
      have hmul : ((F t : Nat) : Int) * p = ((F (t + 1) : Nat) : Int) := hft.1
      have hfl := hft.2.1
      have hfl2 := hft.2.2
      have HX := hid (And.intro hA (And.intro hB hV))
      clear hA hB hV hft
      generalize hf2 : F (t + 1) = f2 at *
      have HF2 := hid hf2
      clear hf2
      go_wp2
      go_roundw
      case rel => exact ⟨t + 1, by rw [HF2.out], by go_num, by omega, HX.out.1, HX.out.2.1, HX.out.2.2⟩
      case measure => simp [intOf] <;> omega
    · obtain rfl : K = t := by omega
      have htk : ¬ (K : Int) < k := by rw [HKE.out]; omega
      have HW3 := hid (And.intro hA hB)
      have HV3 := hid hV
      have r3 := HW3.out.1.range
      clear hA hB hV
      rw [HFK.out]
      go_wp2_with (refine wpList_load_mid rfl 24 _ rfl w.heap.size 0 rfl [.int .i64 p, .int .i64 k, .slice ax N cx] _ r3 Tryd.underlying24 rfl i3 ?_)
      refine (HPW.out _ HW3.out.2).mono ?_
      rintro e w4 ⟨rfl, hb4⟩
      have HW4 := hid (And.intro (HV3.out.below hb4) (HW3.out.2.trans (hb4.mono HW3.out.2.size)))
      clear hb4 r3 HW3 HPW HV3 k0 k1
      go_wp2_with fail
      go_loopw [11, 12] (fun f x wq => ∃ t : Nat, f = .bool (inU S a t) ∧ x = .int .i64 t ∧ t ≤ SL ∧ OI w.heap.size wq (.slice av SL cv) S ∧ Below w.heap.size w wq) (fun _ x _ => SL - (intOf x).toNat)
      case atStart => exact ⟨0, by rw [HI0.out], rfl, Nat.zero_le _, HW4.out.1, HW4.out.2⟩
      case round =>
        clear HW4
        obtain ⟨t, rfl, rfl, htl, hV, hB⟩ := hrel
        by_cases hte : t = SL
        · subst hte
          have HX := hid hB
          rw [HIN.out]
          have hr1 := HR1.out
          clear hV hB
          generalize (R == 1) = bb at *
          go_wp2
          go_ret
          exact ⟨rfl, HX.out⟩
        · have hlt : (t : Int) < (SL : Int) := by omega
          have his := HIS.out t (by omega)
          obtain ⟨g, c, e, hg, hgl⟩ := hV.form (by rw [HSL.out]; omega)
          simp only [Value.slice.injEq] at e
          obtain ⟨rfl, e2, e3⟩ := e
          have hce := hV.cell t (by rw [HSL.out]; omega)
          have HX := hid (And.intro hV hB)
          have HIE := hid his
          clear hV hB his
          generalize S.getD t 0 = y at *
          cases hb : inU S a t <;>
          · rw [hb] at HIE
            clear hb
            go_wp2
            go_roundw
            case rel => exact ⟨t + 1, by rw [HIE.out]; rfl, by go_num, by omega, HX.out.1, HX.out.2⟩
            case measure => simp [intOf] <;> omega

set_option maxHeartbeats 4000000 in
set_option maxRecDepth 100000 in
theorem fieldEuler_walk (w : World) (hp : Prs w) (p k : Int) (ip : I64 p) (ik : I64 k) (u : Value) (low : List Int) (hu : Sl w u low) (hi64 : ∀ x ∈ low, I64 x) (a : Int) (ia : I64 a) :
    Calls Tryd.prog 9 #[fldV p k u, .int .i64 a] w fun e w' => e = .returned (.bool true) ∧ Below w.heap.size w w' := by
  by_cases h1 : faE p k low = 0
  · obtain ⟨P, K, n, hpe, hke, hle, hF⟩ := fa_ok h1
    rcases Nat.mod_two_eq_zero_or_one (P ^ K) with hev | hev
    · exact euler_even w hp p k hpe hke hF u low hle hu ip ik hi64 a ia hev
    · by_cases hz : wiE p k low [a] = 0
      · have ha := (wi_ok hz).2 a (by simp)
        rw [hpe, hke, hF.ord] at ha
        obtain ⟨X, rfl⟩ := Int.eq_ofNat_of_zero_le ha.1
        by_cases h0 : (X : Int) = 0
        · exact euler_zero w hp p k hpe hke hF u low hle hu ip ik hi64 _ ia hev h0
        · exact euler_in w hp p k hpe hke hF u low hle hu ip ik hi64 _ ia hev rfl (by omega) (by omega)
      · exact euler_off w hp p k hpe hke hF u low hle hu ip ik hi64 a ia hev hz
  · have hne : (faE p k low != 0) = true := by simpa using h1
    obtain ⟨ax, cx, e1⟩ := hu.len
    subst e1
    have HW0 := hid (And.intro (Arr.new w 24 [.int .i64 p, .int .i64 k, .slice ax low.length cx]) ((Below.refl w.heap.size w).alloc (Nat.le_refl _) (.cells #[.int .i64 p, .int .i64 k, .slice ax low.length cx] 24)))
    have r0 := HW0.out.1.range
    have i3 : (Tryd.prog.info? 24).map (·.size) = some 3 := by kernel_rfl
    have HFA := hid (fun w1 (hb : Below w.heap.size w w1) => fact_ok w1 (hp.below hb))
    have HS := hid (fun w1 (hb : Below w.heap.size w w1) => Squares_bad p k (.slice ax low.length cx) low w1 ip ik (hp.below hb) (hu.below hb) hi64 h1)
    unfold fldV at HS
    clear hu hp hi64 h1
    generalize faE p k low = e1 at *
    generalize low.length = N at *
    unfold fldV
    go_enter Tryd.func9, Tryd.ntmps9
    go_wp2_with fail
    refine (HFA.out _ HW0.out.2).mono ?_
    rintro e w1 ⟨rfl, hb1⟩
    have HW1 := hid (And.intro (HW0.out.1.below hb1) (HW0.out.2.trans (hb1.mono HW0.out.2.size)))
    have r1 := HW1.out.1.range
    clear hb1 r0 HW0 HFA
    go_wp2_with (refine wpList_load_mid rfl 24 _ rfl w.heap.size 0 rfl [.int .i64 p, .int .i64 k, .slice ax N cx] _ r1 Tryd.underlying24 rfl i3 ?_)
    refine (HS.out _ HW1.out.2).mono ?_
    rintro e w2 ⟨rfl, hb2⟩
    have HW2 := hid (And.intro (HW1.out.1.below hb2) (HW1.out.2.trans (hb2.mono HW1.out.2.size)))
    have r2 := HW2.out.1.range
    clear hb2 r1 HW1 HS
    clear r2
    go_wp2
    go_ret
    exact ⟨rfl, HW2.out.2⟩
end Go.Proofs.YthdlhfgeminoiaaDoor
