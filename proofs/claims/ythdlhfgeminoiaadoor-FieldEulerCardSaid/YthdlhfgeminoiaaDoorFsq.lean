/-
  The walks over field.Squares and parterreref1.SquaresOf. Conditions: the field is one; the slice can be read; the primes are laid.
-/
import Derived.Test.YthdlhfgeminoiaaDoorFref
namespace Go.Proofs.YthdlhfgeminoiaaDoor
set_option linter.unusedVariables false
open Go.RowKit

theorem Tryd.info4 : (Tryd.prog.info? 4).map (fun i => (i.zero, i.size, i.bytes)) = some (some (.bool false), 1, 1) := by kernel_rfl
def boolS (m : Nat) (f : Nat → Bool) : List Value := (List.range m).map fun x => .bool (f x)
theorem boolS_len (m : Nat) (f : Nat → Bool) : (boolS m f).length = m := by simp [boolS]
theorem boolS_get {m : Nat} {f : Nat → Bool} {c : Nat} (h : c < m) : (boolS m f)[c]? = some (.bool (f c)) := by simp [boolS, h]
theorem boolS_set {m : Nat} {f : Nat → Bool} {c : Nat} (h : c < m) : (boolS m f).set c (.bool true) = boolS m (fun x => x == c || f x) := by
  apply List.ext_getElem?
  intro i
  by_cases e : c = i
  · subst e
    rw [List.getElem?_set_self (by rw [boolS_len]; exact h), boolS_get h]
    simp
  · rw [List.getElem?_set_ne e]
    by_cases hi : i < m
    · rw [boolS_get hi, boolS_get hi, show (i == c) = false by simp; omega]
      rfl
    · rw [List.getElem?_eq_none (by rw [boolS_len]; omega), List.getElem?_eq_none (by rw [boolS_len]; omega)]
theorem boolS_none (m : Nat) : boolS m (fun _ => false) = List.replicate m (.bool false) := by
  apply List.ext_getElem?
  intro i
  by_cases hi : i < m
  · rw [boolS_get hi, List.getElem?_replicate, if_pos hi]
  · rw [List.getElem?_eq_none (by rw [boolS_len]; omega), List.getElem?_eq_none (by simp; omega)]
def natL (L : List Nat) : List Int := L.map fun x : Nat => (x : Int)
/-- Those that a test takes. -/
def outS (f : Nat → Bool) (t : Nat) : List Int := nZ ((List.range t).filter f)
theorem outS_on {f : Nat → Bool} {t : Nat} (h : f t = true) : outS f (t + 1) = outS f t ++ [(t : Int)] := by
  unfold outS
  rw [List.range_succ, List.filter_append, List.filter_cons_of_pos (by simpa using h), List.filter_nil, nZ, List.map_append]
  rfl
theorem outS_off {f : Nat → Bool} {t : Nat} (h : f t = false) : outS f (t + 1) = outS f t := by
  unfold outS
  rw [List.range_succ, List.filter_append, List.filter_cons_of_neg (by simp [h]), List.filter_nil, List.append_nil]
theorem outS_len (f : Nat → Bool) (t : Nat) : (outS f t).length ≤ t := by
  unfold outS
  rw [nZ_len]
  exact Nat.le_trans (List.length_filter_le _ _) (by simp)
theorem outS_far {f : Nat → Bool} {P : Nat} (h : ∀ x, P ≤ x → f x = false) : ∀ t, P ≤ t → outS f t = outS f P
  | 0, ht => by rw [show P = 0 by omega]
  | t + 1, ht => by
    by_cases e : P = t + 1
    · rw [e]
    · rw [outS_off (h t (by omega)), outS_far h t (by omega)]
/-- Is it the square of one up to t? -/
def sqU (P K : Nat) (low : List Nat) (t x : Nat) : Bool := (List.range t).any fun b => mulF P K low (b + 1) (b + 1) == x
theorem sqU_zero (P K : Nat) (low : List Nat) : sqU P K low 0 = fun _ => false := rfl
theorem sqU_succ (P K : Nat) (low : List Nat) (t : Nat) : (fun x => x == mulF P K low (t + 1) (t + 1) || sqU P K low t x) = sqU P K low (t + 1) := by
  funext x
  unfold sqU
  rw [List.range_succ, List.any_append, List.any_cons, List.any_nil, Bool.or_false, Bool.or_comm, Bool.beq_comm]
theorem sqU_next (P K : Nat) (low : List Nat) (t x : Nat) : sqU P K low (t + 1) x = (sqU P K low t x || mulF P K low (t + 1) (t + 1) == x) := by
  unfold sqU
  rw [List.range_succ, List.any_append, List.any_cons, List.any_nil, Bool.or_false]
theorem sqU_mono {P K : Nat} {low : List Nat} {t x : Nat} (h : sqU P K low t x = true) {s : Nat} (hs : t ≤ s) : sqU P K low s x = true := by
  obtain ⟨b, hb, he⟩ := List.any_eq_true.1 h
  exact List.any_eq_true.2 ⟨b, List.mem_range.2 (by have := List.mem_range.1 hb; omega), he⟩
theorem sqU_in {P K : Nat} {low : List Nat} {t x : Nat} : sqU P K low t x = true ↔ ∃ b, 1 ≤ b ∧ b ≤ t ∧ mulF P K low b b = x := by
  constructor
  · intro h
    obtain ⟨b, hb, he⟩ := List.any_eq_true.1 h
    exact ⟨b + 1, by omega, by have := List.mem_range.1 hb; omega, by simpa using he⟩
  · rintro ⟨b, h1, h2, h3⟩
    exact List.any_eq_true.2 ⟨b - 1, List.mem_range.2 (by omega), by rw [show b - 1 + 1 = b by omega, h3]; simp⟩
theorem natc_beq (x y : Nat) : ((x : Int) == (y : Int)) = (x == y) := by
  rw [Bool.eq_iff_iff, beq_iff_eq, beq_iff_eq]
  omega
theorem zero64 (w : World) : (zeroValue 64).run Tryd.prog w = .ok (.agg (Array.replicate 64 (.bool false))) w := by kernel_rfl
theorem arr_rep64 (n : Nat) : Array.replicate n (Value.bool false) = (boolS n fun _ => false).toArray := by rw [boolS_none]; simp
theorem zeroS64 (w : World) : (zeroValue 64).run Tryd.prog w = .ok (.agg (boolS 64 (fun _ => false)).toArray) w := by
  rw [zero64, arr_rep64]

set_option maxHeartbeats 1000000 in
set_option maxRecDepth 100000 in
theorem Squares_bad (p k : Int) (u : Value) (low : List Int) (w : World) (ip : I64 p) (ik : I64 k) (hp : Prs w) (hu : Sl w u low) (hi64 : ∀ x ∈ low, I64 x) (hz : faE p k low ≠ 0) :
    Calls Tryd.prog 22 #[fldV p k u] w fun e w' => e = .returned (.tuple #[.slice none 0 0, .int .i64 (faE p k low)]) ∧ Below w.heap.size w w' := by
  obtain ⟨ax, cx, e1⟩ := hu.len
  subst e1
  have hb0 := (Below.refl w.heap.size w).alloc (Nat.le_refl _) (.cells #[.int .i64 p, .int .i64 k, .slice ax low.length cx] 24)
  have HC := hid (open_any p k (.slice ax low.length cx) low _ ip ik (hp.below hb0) (hu.below hb0) hi64)
  have HS := hid hb0
  have hne : (faE p k low != 0) = true := by simpa using hz
  unfold opR rm0 rmV fldV at HC
  rw [if_neg hz] at HC
  clear hb0 hu hp hz hi64
  generalize faE p k low = E at *
  generalize low.length = L at *
  have i3 : (Tryd.prog.info? 24).map (·.size) = some 3 := by kernel_rfl
  have r0 := (Arr.new w 24 [.int .i64 p, .int .i64 k, .slice ax L cx]).range
  unfold fldV
  go_enter Tryd.func22, Tryd.ntmps22
  go_wp2_with fail
  refine HC.out.mono ?_
  rintro e w2 ⟨rfl, hb2⟩
  have hB2 := HS.out.trans (hb2.mono HS.out.size)
  have HB := hid (hB2.alloc hB2.size (.cells #[.int .i64 0, .int .i64 0, .slice none 0 0, .int .i64 0] 57))
  clear hb2 hB2 HS HC
  go_wp2
  go_ret2
  exact ⟨rfl, HB.out⟩

set_option maxHeartbeats 1000000 in
set_option maxRecDepth 100000 in
theorem Squares_ok {P K n : Nat} (hF : FOk P K n) {u : Value} {w : World} {E L : Nat → Nat} (hp : Prs w) (hu : Sl w u (nZ (dgL P n K))) (X : FX P K (dgL P n K) E L)  :
    Calls Tryd.prog 22 #[fldV P K u] w fun e w' => (∃ v, e = .returned (.tuple #[v, .int .i64 0]) ∧ OI w.heap.size w' v (outS (sqU P K (dgL P n K) (P ^ K - 1)) 64)) ∧ Below w.heap.size w w' := by
  obtain ⟨Q, hQ⟩ : ∃ Q : Nat, Q = P ^ K := ⟨_, rfl⟩
  have HC0 := fun w1 (hb : Below w.heap.size w w1) => open1_ok hQ hF (hp.below hb) (hu.below hb)
  have HW := hid (fun w1 (hb : Below w.heap.size w w1) => hF.fw (hu.below hb) X)
  have HQE := hid hQ
  have hQ64 := hF.q64
  have hQq : Q ≤ 64 := by omega
  have hq2 := hF.fb.q2
  have hp2 := hF.fb.p2
  obtain ⟨ax, cx, e1⟩ := hu.len
  subst e1
  have hb0 := (Below.refl w.heap.size w).alloc (Nat.le_refl _) (.cells #[.int .i64 P, .int .i64 K, .slice ax (nZ (dgL P n K)).length cx] 24)
  have HC := hid (HC0 _ hb0)
  have HS := hid hb0
  have i4 : (Tryd.prog.info? 57).map (·.size) = some 4 := by kernel_rfl
  have i3 : (Tryd.prog.info? 24).map (·.size) = some 3 := by kernel_rfl
  clear hb0 hu hp hF HC0 hQ
  generalize (nZ (dgL P n K)).length = N at *
  have r0 := (Arr.new w 24 [.int .i64 (P : Int), .int .i64 (K : Int), .slice ax N cx]).range
  unfold rmV fldV at HC
  unfold fldV
  go_enter Tryd.func22, Tryd.ntmps22
  go_wp2_with fail
  refine HC.out.mono ?_
  rintro e w2 ⟨rfl, hb2⟩
  have hB2 := HS.out.trans (hb2.mono HS.out.size)
  have HB := hid (And.intro (Arr.new w2 57 [.int .i64 (P : Int), .int .i64 (K : Int), .slice ax N cx, .int .i64 (Q : Int)]) (hB2.alloc hB2.size (.cells #[.int .i64 (P : Int), .int .i64 (K : Int), .slice ax N cx, .int .i64 (Q : Int)] 57)))
  clear hb2 hB2 HS HC
  have hQ2 : 2 ≤ Q := by have := HQE.out; omega
  have HMU := hid (fun (w1 : World) (hb : Below w.heap.size w w1) (x y : Nat) (hx : x < Q) (hy : y < Q) => (HW.out w1 hb).mul Q (show x < P ^ K by have := HQE.out; omega) (show y < P ^ K by have := HQE.out; omega))
  have HLT := hid (fun (x y : Nat) => show mulF P K (dgL P n K) x y < Q by rw [HQE.out]; exact mulF_lt (HW.out w (Below.refl _ _)).B.p2 (HW.out w (Below.refl _ _)).B.k6 (dgL P n K) x y)
  have HFQ : Hid (outS (sqU P K (dgL P n K) (P ^ K - 1)) 64 = outS (sqU P K (dgL P n K) (Q - 1)) 64) := hid (by rw [HQE.out])
  have HSN := hid (sqU_succ P K (dgL P n K))
  have HSZ := sqU_zero P K (dgL P n K)
  unfold rmV at HMU
  clear HW hq2 hp2
  obtain ⟨U, hU⟩ : ∃ U, U = sqU P K (dgL P n K) := ⟨_, rfl⟩
  obtain ⟨M, hM⟩ : ∃ M, M = mulF P K (dgL P n K) := ⟨_, rfl⟩
  have HFQ2 : Hid (outS (U (Q - 1)) 64 = outS (sqU P K (dgL P n K) (P ^ K - 1)) 64) := hid (by rw [hU]; exact HFQ.out.symm)
  rw [← hU, ← hM] at HSN
  rw [← hU] at HSZ
  rw [← hM] at HMU HLT
  clear hU hM HFQ
  have HZ := zeroS64
  have hbw := HB.out.2.size
  go_wp2_with fail
  have hA0 : Arr ((w2.alloc (.cells #[.int .i64 (P : Int), .int .i64 (K : Int), .slice ax N cx, .int .i64 (Q : Int)] 57)).alloc (.cells (boolS 64 fun _ => false).toArray 64)) (w2.heap.size + 1) 64 (boolS 64 (U 0)) := by
    have := Arr.new (w2.alloc (.cells #[.int .i64 (P : Int), .int .i64 (K : Int), .slice ax N cx, .int .i64 (Q : Int)] 57)) 64 (boolS 64 (U 0))
    rw [World.size_alloc, HSZ] at this
    rw [HSZ]
    exact this
  have hR0 := HB.out.1.alloc (.cells (boolS 64 fun _ => false).toArray 64)
  have hb0 := HB.out.2.alloc hbw (.cells (boolS 64 fun _ => false).toArray 64)
  have HS0 := hid (And.intro hA0 (And.intro hR0 hb0))
  have hlt0 : w.heap.size ≤ w2.heap.size + 1 := by simpa using hbw
  clear hA0 hR0 hb0 HZ HSZ HB hbw
  go_loopw [7] (fun x wq => ∃ t : Nat, t ≤ Q - 1 ∧ x = .int .i64 ((t + 1 : Nat) : Int) ∧ Arr wq (w2.heap.size + 1) 64 (boolS 64 (U t)) ∧ Arr wq w2.heap.size 57 [.int .i64 (P : Int), .int .i64 (K : Int), .slice ax N cx, .int .i64 (Q : Int)] ∧ Below w.heap.size w wq) (fun x _ => Q - (intOf x).toNat)
  case atStart => exact ⟨0, Nat.zero_le _, by go_num, HS0.out.1, HS0.out.2.1, HS0.out.2.2⟩
  case round =>
    clear HS0
    obtain ⟨t, ht, rfl, hA, hR, hB⟩ := hrel
    have k3 := hR.cell 3
    simp only [List.getElem?_cons_zero, List.getElem?_cons_succ] at k3
    by_cases hte : t = Q - 1
    · have hlt : ¬ ((t + 1 : Nat) : Int) < (Q : Int) := by omega
      have HX := hid (And.intro hA hB)
      have r2 := hA.range
      have i1 : (Tryd.prog.info? 64).map (·.size) = some (boolS 64 (U t)).length := by rw [boolS_len]; kernel_rfl
      have HFIN : Hid (outS (sqU P K (dgL P n K) (P ^ K - 1)) 64 = outS (U t) 64) := hid (by rw [← HFQ2.out, hte])
      generalize ht1 : t + 1 = t1 at *
      clear hA hR hB hte ht ht1 HFQ2 HSN HMU HLT
      obtain ⟨SB, hSB⟩ : ∃ SB, SB = U t := ⟨_, rfl⟩
      rw [← hSB] at r2 i1 HFIN HX
      clear hSB
      go_wp2_with (refine wpList_load_mid rfl 64 _ rfl (w2.heap.size + 1) 0 rfl (boolS 64 SB) _ r2 Tryd.underlying64 rfl i1 ?_)
      have HOL := hid (outS_len SB)
      have HON := hid (fun t (h : SB t = true) => outS_on h)
      have HOFF := hid (fun t (h : SB t = false) => outS_off h)
      have H0 : Hid (outS SB 0 = []) := hid rfl
      have HIX := hid (fun (t : Nat) (w : World) (h : t < 64) => run_index_cell (P := Tryd.prog) 64 4 64 t (boolS 64 SB) (.bool (SB t)) w Tryd.underlying64 Tryd.isAgg4 Tryd.sizeOf4 h (boolS_get h))
      generalize boolS 64 SB = BL at *
      obtain ⟨O, hO⟩ : ∃ O, O = outS SB := ⟨_, rfl⟩
      rw [← hO] at HOL HON HOFF H0 HFIN
      clear hO k3 hlt
      go_loopw [8, 31] (fun o i wr => ∃ t : Nat, t ≤ 64 ∧ i = .int .i64 t ∧ OI (w2.heap.size + 1) wr o (O t) ∧ Below w.heap.size w wr ∧ Hid (w2.heap.size + 1 ≤ wr.heap.size)) (fun _ i _ => 64 - (intOf i).toNat)
      case atStart => exact ⟨0, Nat.zero_le _, rfl, by rw [H0.out]; exact OI.nil _ _, HX.out.2, hid (Nat.le_of_lt HX.out.1.lt)⟩
      case round =>
        obtain ⟨t, ht, rfl, ho, hb, HSZ⟩ := hrel
        clear HX r2 i1
        by_cases hlt : t < 64
        · have hget := HIX.out t wr hlt
          have hti : (t : Int) < 64 := by omega
          cases hS : SB t with
          | true =>
            rw [hS] at hget
            have HE := hid (HON.out t hS)
            clear hS
            have hl2 : (O t).length ≤ 1000000000000 := Nat.le_trans (HOL.out t) (by omega)
            have hsz : w2.heap.size + 1 ≤ wr.heap.size := HSZ.out
            go_wp2_with (at_builtin; refine wpList_appi wr _ _ 22 rfl rfl Tryd.underlying22 Tryd.info3 (w2.heap.size + 1) _ _ rfl ho rfl hl2 hsz ?_; intro g c w4 hown1 hg1 hg2 hg3)
            have HY := hid (And.intro (hown1.cast HE.out.symm) (And.intro ((ho.mono hlt0).grown hb hg1 (Nat.le_trans hlt0 hsz)) (Nat.le_trans hsz hg1.size)))
            clear hown1 hg1 hg2 hg3 ho hb
            go_roundw
            case rel => exact ⟨t + 1, by omega, by go_num, HY.out.1, HY.out.2.1, hid HY.out.2.2⟩
            case measure => simp [intOf] <;> omega
          | false =>
            rw [hS] at hget
            have HE := hid (HOFF.out t hS)
            have HY := hid (And.intro ho hb)
            clear hS ho hb
            go_wp2
            go_roundw
            case rel => exact ⟨t + 1, by omega, by go_num, by rw [HE.out]; exact HY.out.1, HY.out.2, HSZ⟩
            case measure => simp [intOf] <;> omega
        · obtain rfl : t = 64 := by omega
          have HY := hid (And.intro (ho.mono hlt0) hb)
          clear ho hb
          go_wp2
          go_ret2
          refine ⟨⟨_, rfl, ?_⟩, HY.out.2⟩
          rw [HFIN.out]
          exact HY.out.1
    · have hlt : ((t + 1 : Nat) : Int) < (Q : Int) := by omega
      have HX := hid (And.intro hA (And.intro hR hB))
      have r1 := hR.range
      have HC := hid (HMU.out _ hB (t + 1) (t + 1) (by omega) (by omega))
      have HST := hid (HSN.out t)
      have hmlt := HLT.out (t + 1) (t + 1)
      have htQ : t + 1 ≤ Q - 1 := by omega
      have HB2 := hid hB.size
      generalize M (t + 1) (t + 1) = c at *
      generalize ht1 : t + 1 = t1 at *
      have HT1 := hid ht1
      clear hA hR hB hte ht ht1
      go_wp2_with (refine wpList_load_mid rfl 57 _ rfl w2.heap.size 0 rfl [.int .i64 (P : Int), .int .i64 (K : Int), .slice ax N cx, .int .i64 (Q : Int)] _ r1 Tryd.underlying57 rfl i4 ?_)
      refine HC.out.mono ?_
      rintro e w5 ⟨rfl, hb5⟩
      have hA5 := HX.out.1.below hb5
      have hR5 := HX.out.2.1.below hb5
      have hB5 := HX.out.2.2.trans (hb5.mono HX.out.2.2.size)
      have hc64 : c < 64 := by omega
      have hcell := hA5.cell c
      rw [boolS_get hc64] at hcell
      have hfz := hA5.frozen c
      obtain ⟨hs, hg⟩ := hA5.stored c (.bool true)
      rw [boolS_set hc64, HST.out] at hs
      have HY := hid (And.intro hs (And.intro (hR5.kept hg (fun e => by have := Option.some.inj e; omega)) (hB5.grown hg hB5.size (fun b e => by cases e; exact hlt0))))
      clear hb5 r1 HX HC hA5 hR5 hB5 hs hg k3
      generalize U t c = old at *
      go_wp2
      go_roundw
      case rel => exact ⟨t1, htQ, by go_num, by exact HY.out.1, HY.out.2.1, HY.out.2.2⟩
      case measure => simp [intOf] <;> omega

set_option maxHeartbeats 1000000 in
set_option maxRecDepth 100000 in
theorem SquaresOf_ok {P K n : Nat} (hF : FOk P K n) {u : Value} {w : World} {E L : Nat → Nat} (hu : Sl w u (nZ (dgL P n K))) (X : FX P K (dgL P n K) E L)  :
    Calls Tryd.prog 24 #[fldV P K u] w fun e w' => (∃ v, e = .returned v ∧ OI w.heap.size w' v (outS (sqU P K (dgL P n K) (P ^ K - 1)) 64)) ∧ Below w.heap.size w w' := by
  obtain ⟨Q, hQ⟩ : ∃ Q : Nat, Q = P ^ K := ⟨_, rfl⟩
  have hQ64 : Q ≤ 64 := by have := hF.q64; omega
  have hQ2 : 2 ≤ Q := by have := hF.fb.q2; have := hF.p2; omega
  have HSZ := hid (fun w1 (hb : Below w.heap.size w w1) => size_ok hQ hF (hu.below hb))
  have HTM := hid (fun w1 (hb : Below w.heap.size w w1) (x y : Nat) (hx : x < Q) (hy : y < Q) => tim_ok hQ hF (hu.below hb) hx hy)
  have HFQ : Hid (outS (sqU P K (dgL P n K) (P ^ K - 1)) 64 = outS (sqU P K (dgL P n K) (Q - 1)) Q) := hid (by
    rw [← hQ]
    refine outS_far (fun x hx => ?_) 64 hQ64
    cases h : sqU P K (dgL P n K) (Q - 1) x with
    | false => rfl
    | true =>
      obtain ⟨b, _, _, hb⟩ := sqU_in.1 h
      have := mulF_lt hF.p2 hF.k6 (dgL P n K) b b
      omega)
  have HLT := hid (fun (x y : Nat) => show mulF P K (dgL P n K) x y < Q by rw [hQ]; exact mulF_lt hF.p2 hF.k6 (dgL P n K) x y)
  have HSN := hid (sqU_next P K (dgL P n K))
  have HMN := hid (fun (t s x : Nat) (h : sqU P K (dgL P n K) t x = true) (hs : t ≤ s) => sqU_mono h hs)
  have HZ0 : Hid (sqU P K (dgL P n K) (Q - 1) 0 = false) := hid (by
    cases h : sqU P K (dgL P n K) (Q - 1) 0 with
    | false => rfl
    | true =>
      obtain ⟨b, hb1, hb2, hb⟩ := sqU_in.1 h
      have h1 := X.mp_ne hb1 (show b < P ^ K by omega) 2
      refine absurd ?_ h1
      show mulF P K (dgL P n K) (mpF P K (dgL P n K) b 1) b = 0
      rw [X.mp1 hF.fb (by omega), hb])
  have HSU0 : Hid (∀ x, sqU P K (dgL P n K) 0 x = false) := hid fun x => rfl
  obtain ⟨U, hU⟩ : ∃ U, U = sqU P K (dgL P n K) := ⟨_, rfl⟩
  rw [← hU] at HFQ HSN HMN HZ0 HSU0 ⊢
  clear hU
  have HQE := hid hQ
  clear hQ
  obtain ⟨ax, cx, e1⟩ := hu.len
  subst e1
  generalize (nZ (dgL P n K)).length = N at *
  have HW0 := hid (And.intro (Arr.new w 24 [.int .i64 (P : Int), .int .i64 (K : Int), .slice ax N cx]) ((Below.refl w.heap.size w).alloc (Nat.le_refl _) (.cells #[.int .i64 (P : Int), .int .i64 (K : Int), .slice ax N cx] 24)))
  have r0 := HW0.out.1.range
  have i3 : (Tryd.prog.info? 24).map (·.size) = some 3 := by kernel_rfl
  clear hu hF X
  unfold fldV at HSZ HTM
  unfold fldV
  go_enter Tryd.func24, Tryd.ntmps24
  go_wp2_with (refine wpList_load_mid rfl 24 _ rfl w.heap.size 0 rfl [.int .i64 (P : Int), .int .i64 (K : Int), .slice ax N cx] _ r0 Tryd.underlying24 rfl i3 ?_)
  refine (HSZ.out _ HW0.out.2).mono ?_
  rintro e w1 ⟨rfl, hb1⟩
  have HW1 := hid (And.intro (HW0.out.1.below hb1) (HW0.out.2.trans (hb1.mono HW0.out.2.size)))
  clear hb1 r0 HW0
  have HOL := hid (outS_len (U (Q - 1)))
  have HON := hid (fun t (h : U (Q - 1) t = true) => outS_on h)
  have HOFF := hid (fun t (h : U (Q - 1) t = false) => outS_off h)
  have H1 : Hid (outS (U (Q - 1)) 1 = []) := hid (outS_off HZ0.out)
  obtain ⟨O, hO⟩ : ∃ O, O = outS (U (Q - 1)) := ⟨_, rfl⟩
  have HFIN : Hid (outS (U (P ^ K - 1)) 64 = O Q) := hid (by rw [HFQ.out, hO])
  rw [← hO] at HOL HON HOFF H1
  clear hO HFQ HZ0
  go_wp2_with fail
  go_loopw [4, 5, 6, 7, 8] (fun o x _ _ _ wq => ∃ a : Nat, x = .int .i64 a ∧ 1 ≤ a ∧ a ≤ Q ∧ OI (w.heap.size + 1) wq o (O a) ∧ Arr wq w.heap.size 24 [.int .i64 (P : Int), .int .i64 (K : Int), .slice ax N cx] ∧ Below w.heap.size w wq) (fun _ x _ _ _ _ => Q - (intOf x).toNat)
  case atStart => exact ⟨1, rfl, Nat.le_refl _, by omega, by rw [H1.out]; exact OI.nil _ _, HW1.out.1, HW1.out.2⟩
  case round =>
    clear HW1
    obtain ⟨a, rfl, ha1, haq, ho, hA, hB⟩ := hrel
    by_cases hae : a = Q
    · subst hae
      have HX := hid (And.intro (ho.mono (Nat.le_succ _)) hB)
      clear ho hA hB
      go_wp2
      go_ret
      refine ⟨⟨_, rfl, ?_⟩, HX.out.2⟩
      rw [HFIN.out]
      exact HX.out.1
    · have haqi : (a : Int) < (Q : Int) := by omega
      have HX := hid (And.intro ho (And.intro hA hB))
      clear ho hA hB
      go_wp2_with fail
      go_loopw [6, 7, 8] (fun f x _ wq => ∃ (t : Nat) (is : Bool), f = .bool is ∧ x = .int .i64 ((t + 1 : Nat) : Int) ∧ t ≤ Q - 1 ∧ is = U t a ∧ OI (w.heap.size + 1) wq u4 (O a) ∧ Arr wq w.heap.size 24 [.int .i64 (P : Int), .int .i64 (K : Int), .slice ax N cx] ∧ Below w.heap.size w wq) (fun _ x _ _ => Q - (intOf x).toNat)
      case atStart => exact ⟨0, false, rfl, by go_num, Nat.zero_le _, (HSU0.out a).symm, HX.out.1, HX.out.2.1, HX.out.2.2⟩
      case round =>
        clear HX
        obtain ⟨t, is, rfl, rfl, htq, his, ho, hA, hB⟩ := hrel
        have hul : (O a).length ≤ 1000000000000 := Nat.le_trans (HOL.out a) (by omega)
        have hsz : w.heap.size + 1 ≤ wr.heap.size := hA.lt
        by_cases hstop : is = true ∨ t = Q - 1
        · have hU : U (Q - 1) a = is := by
            rcases hstop with h | h
            · rw [h] at his
              rw [h]
              exact HMN.out t (Q - 1) a his.symm htq
            · rw [his, h]
          have hcond : is = true ∨ ¬ ((t + 1 : Nat) : Int) < (Q : Int) := by
            rcases hstop with h | h
            · exact .inl h
            · exact .inr (by omega)
          have HX := hid (And.intro hA hB)
          clear his htq hstop
          generalize ht1 : t + 1 = t1 at *
          clear ht1
          cases is with
          | true =>
            have HE := hid (HON.out a hU)
            clear hU hcond
            have hone : ∀ z, z = decide ((t1 : Int) < (Q : Int)) → z = z := fun _ _ => rfl
            clear hone
            generalize hz : decide ((t1 : Int) < (Q : Int)) = z at *
            have HZ := hid hz
            by_cases hz2 : (t1 : Int) < (Q : Int)
            all_goals
              clear hz
              go_wp2_with (at_builtin; refine wpList_appi wr _ _ 22 rfl rfl Tryd.underlying22 Tryd.info3 (w.heap.size + 1) _ _ rfl ho rfl hul hsz ?_; intro g c w4 hown1 hg1 hg2 hg3)
              have hb4 := (ho.mono (Nat.le_succ _)).grown HX.out.2 hg1 (by omega)
              have hA4 := HX.out.1.kept hg1 (fun e => by have := (OI.lt ho _ e.symm).1; omega)
              have HY := hid (And.intro (hown1.cast HE.out.symm) (And.intro hA4 hb4))
              clear hown1 hg1 hg2 hg3 hb4 hA4 ho
              go_roundw
            all_goals first
              | exact ⟨a + 1, by go_num, by omega, by omega, HY.out.1, HY.out.2.1, HY.out.2.2⟩
              | (simp [intOf] <;> omega)
          | false =>
            have hz2 : ¬ (t1 : Int) < (Q : Int) := by
              rcases hcond with h | h
              · cases h
              · exact h
            have HE := hid (HOFF.out a hU)
            have HY := hid (And.intro ho HX.out)
            clear hU hcond ho HX
            go_wp2
            go_roundw
            case rel => exact ⟨a + 1, by go_num, by omega, by omega, by rw [HE.out]; exact HY.out.1, HY.out.2.1, HY.out.2.2⟩
            case measure => simp [intOf] <;> omega
        · obtain rfl : is = false := by cases is with | false => rfl | true => exact absurd (.inl rfl) hstop
          have ht2 : t < Q - 1 := by
            rcases Nat.lt_or_ge t (Q - 1) with h | h
            · exact h
            · exact absurd (.inr (by omega)) hstop
          have hlt : ((t + 1 : Nat) : Int) < (Q : Int) := by omega
          have hsn := HSN.out t a
          rw [← his, Bool.false_or] at hsn
          have r1 := hA.range
          have HC := hid (HTM.out _ hB (t + 1) (t + 1) (by omega) (by omega))
          have HX := hid (And.intro ho (And.intro hA hB))
          have htQ : t + 1 ≤ Q - 1 := by omega
          generalize mulF P K (dgL P n K) (t + 1) (t + 1) = c at *
          generalize ht1 : t + 1 = t1 at *
          have HT1 := hid ht1
          clear ho hA hB his hstop ht1 htq ht2
          have HSN2 := hid hsn
          clear hsn
          go_wp2_with (refine wpList_load_mid rfl 24 _ rfl w.heap.size 0 rfl [.int .i64 (P : Int), .int .i64 (K : Int), .slice ax N cx] _ r1 Tryd.underlying24 rfl i3 ?_)
          refine HC.out.mono ?_
          rintro e w5 ⟨rfl, hb5⟩
          have HY := hid (And.intro (HX.out.1.below hb5) (And.intro (HX.out.2.1.below hb5) (HX.out.2.2.trans (hb5.mono HX.out.2.2.size))))
          clear hb5 r1 HX HC
          go_wp2
          go_roundw
          case rel => exact ⟨t1, _, rfl, by go_num, htQ, by rw [HSN2.out, natc_beq], HY.out.1, HY.out.2.1, HY.out.2.2⟩
          case measure => simp [intOf] <;> omega
end Go.Proofs.YthdlhfgeminoiaaDoor
