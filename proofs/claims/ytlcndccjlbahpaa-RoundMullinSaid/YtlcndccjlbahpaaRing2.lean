/-
  The walks over round.whole and parterreref4.ringOf. Conditions: two rounds that can be read.
-/
import Derived.Test.YtlcndccjlbahpaaRing2P
namespace Go.Proofs.Ytlcndccjlbahpaa
set_option linter.unusedVariables false
open Go.RowKit

theorem whole_ok (n : Nat) (v u : Value) (l m : List Int) (p q : Nat → Nat) (w : World) (hl : Sl w v l) (hm : Sl w u m) (hp : Rnd n p) (hq : Rnd n q) (h0 : 0 < n) (hn : n ≤ 64) (hll : l.length = n) (hml : m.length = n)
    (hlp : ∀ x, x < n → l[x]?.getD 0 = (p x : Int)) (hmq : ∀ x, x < n → m[x]?.getD 0 = (q x : Int)) :
    Calls Try.prog 31 #[.int .i64 n, v, u] w fun e w' => e = .returned (.bool (2 * per (sg p q) n 0 == n)) ∧ w = w' := by
  obtain ⟨P1, P2, P3, P4⟩ := (sg_pm hp hq).per_spec h0
  have HIT : Hid (∀ k, it (sg p q) (k + 1) 0 = q (p (it (sg p q) k 0))) := hid fun k => rfl
  have HI0 : Hid (it (sg p q) 0 0 = 0) := hid rfl
  have HX := hid ((sg_pm hp hq).it_lt h0)
  have HP1 := hid P1
  have HP4 := hid P4
  have HPL := hid hp.lt
  obtain ⟨a, c, N, rfl, hN, hl1, hl2⟩ := hl.open
  obtain ⟨a', c', N', rfl, hN', hm1, hm2⟩ := hm.open
  obtain rfl : N = n := by rw [← hN.out]; exact hll
  obtain rfl : N' = N := by rw [← hN'.out]; exact hml
  have HLP := hid hlp
  have HMQ := hid hmq
  have hbeq : ((2 * (per (sg p q) N' 0 : Nat) : Int) == (N' : Int)) = (2 * per (sg p q) N' 0 == N') := by
    rw [Bool.eq_iff_iff, beq_iff_eq, beq_iff_eq]; omega
  have HBQ := hid hbeq
  clear hlp hmq hl hm P1 P4 hll hml hbeq hp hq
  generalize per (sg p q) N' 0 = pe at *
  generalize it (sg p q) = f at *
  go_enter Try.func31, Try.ntmps31
  go_wp2
  go_loopw [7, 8] (fun x y wr => ∃ k : Nat, k < pe ∧ x = .int .i64 (2 * (k : Nat) : Int) ∧ y = .int .i64 (f k 0 : Nat) ∧ w = wr) (fun x _ _ => 2 * pe - (intOf x).toNat)
  case atStart => exact ⟨0, by omega, rfl, by rw [HI0.out]; rfl, rfl⟩
  case round =>
    obtain ⟨k, hk, rfl, rfl, rfl⟩ := hrel
    obtain ⟨b, off, rfl, hb, hc⟩ := hl2 (by omega)
    obtain ⟨b', off', rfl, hb', hc'⟩ := hm2 (by omega)
    have hx := HX.out k
    have hx2 := HPL.out _ hx
    have hx3 := HX.out (k + 1)
    have c1 := hc _ hx
    have c2 := hc' _ hx2
    rw [HLP.out _ hx] at c1
    rw [HMQ.out _ hx2, ← HIT.out k] at c2
    have HNZ := hid (fun h => HP4.out (k + 1) (by omega) h)
    have HZ : Hid (k + 1 = pe → f (k + 1) 0 = 0) := hid (fun e => by rw [e]; exact HP1.out)
    clear hc hc' hl2 hm2
    by_cases he : f (k + 1) 0 = 0
    · have hke : k + 1 = pe := by
        rcases Nat.lt_or_ge (k + 1) pe with h | h
        · exact absurd he (HNZ.out h)
        · omega
      rw [he] at c2 hx3
      have hq2 : ((2 : Int) * (k : Int) + 2 == (N' : Int)) = (2 * pe == N') := by
        rw [← HBQ.out, Bool.eq_iff_iff, beq_iff_eq, beq_iff_eq]; omega
      have HQ2 := hid hq2
      clear he hq2
      generalize f k 0 = x at *
      generalize p x = y at *
      go_wp2
      go_ret
      exact ⟨by rw [← HQ2.out]; rfl, rfl⟩
    · have hke : k + 1 < pe := by
        rcases Nat.lt_or_ge (k + 1) pe with h | h
        · exact h
        · exact absurd (HZ.out (by omega)) he
      have hq2 : (((f (k + 1) 0 : Nat) : Int) == 0) = false := by rw [beq_eq_false_iff_ne]; omega
      have HF : Hid (∃ z, f (k + 1) 0 = z) := hid ⟨_, rfl⟩
      obtain ⟨z, hz⟩ := HF.out
      rw [hz] at c2 hx3 hq2
      have HZE := hid hz
      clear he hz HF
      generalize f k 0 = x at *
      generalize p x = y at *
      go_wp2
      go_roundw
      case rel => exact ⟨k + 1, hke, by go_num, by rw [HZE.out], by trivial⟩
      case measure => simp [intOf] <;> omega

/-- Closed up to k. -/
def cls (p q : Nat → Nat) (T : Nat → Bool) (k : Nat) : Prop := ∀ x, x < k → (T (p x) = true → T x = true) ∧ (T (q x) = true → T x = true)
def moW (n : Nat) : Value → Value → Nat
  | .int _ m, .bool true => n + 1 - m.toNat
  | _, _ => 0
theorem Try.info4 : (Try.prog.info? 4).map (fun i => (i.zero, i.size, i.bytes)) = some (some (.bool false), 1, 1) := by kernel_rfl

set_option maxHeartbeats 1000000 in
set_option maxRecDepth 100000 in
theorem ringOf_ok (n : Nat) (v u : Value) (l m : List Int) (p q : Nat → Nat) (w : World) (hl : Sl w v l) (hm : Sl w u m) (hp : Rnd n p) (hq : Rnd n q) (h0 : 0 < n) (hn : n ≤ 64) (hll : l.length = n) (hml : m.length = n)
    (hlp : ∀ x, x < n → l[x]?.getD 0 = (p x : Int)) (hmq : ∀ x, x < n → m[x]?.getD 0 = (q x : Int)) :
    Calls Try.prog 32 #[v, u] w fun e w' => e = .returned (.int .i64 (2 * per (sg p q) n 0 : Nat)) ∧ Below w.heap.size w w' := by
  have HEND := hid (fun T h h1 h2 h3 => mk_ring hp hq h0 (T := T) h h1 h2 h3)
  have HRP := hid (fun x h => ring_p hp hq h0 (x := x) h)
  have HRQ := hid (fun x h => ring_q hp hq h0 (x := x) h)
  have HR0 := hid (ring_zero hp hq h0)
  have HPL := hid hp.lt
  have HQL := hid hq.lt
  have HPB := hid hp.back
  have HQB := hid hq.back
  have HMO := hid (fun x T (hx : x < n) h => mk_one (n := n) (x := x) (T := T) hx h)
  have HML := hid (mk_le n)
  have HM0 : Hid (mk n (fun y => y == 0 || false) = 1) := hid (by
    rw [mk_one (T := fun _ => false) h0 rfl]
    have : (List.range n).filter (fun _ => false) = [] := by simp
    simp [mk])
  obtain ⟨a, c, N, rfl, hN, hl1, hl2⟩ := hl.open
  obtain ⟨a', c', N', rfl, hN', hm1, hm2⟩ := hm.open
  obtain rfl : N = n := by rw [← hN.out]; exact hll
  obtain rfl : N' = N := by rw [← hN'.out]; exact hml
  have HLP := hid hlp
  have HMQ := hid hmq
  clear hlp hmq hl hm hll hml hp hq
  generalize ringL p q N' = RL' at *
  generalize 2 * per (sg p q) N' 0 = R at *
  go_enter Try.func32, Try.ntmps32
  go_wp2_with (at_make; refine wpList_mk (w := w) _ _ 55 4 (.bool false) 1 rfl rfl Try.underlying55 Try.info4 rfl (by decide) w.heap.size _ N' rfl rfl rfl (by omega) (Nat.le_refl _) ?_; intro w6 hs6 hgr6 hz6; rw [bolL_none] at hs6; have hcell := hs6.cell 0 (by rw [bolL_len]; exact h0); rw [bolL_get h0] at hcell; have hfz := hs6.frozen 0)
  obtain ⟨hs, hg⟩ := hs6.stored 0 (.bool true)
  rw [bolL_set h0] at hs
  have hb6 := (Below.refl w.heap.size w).grown hgr6 (Nat.le_refl _) (fun k h => by cases h)
  have HS0 := hid (And.intro hs (hb6.grown hg (Nat.le_of_lt hz6) (fun k h => by cases h; exact Nat.le_refl _)))
  clear hs hg hs6 hgr6 hb6 hcell hfz
  go_loopw [6, 7, 8] (fun x y _ wr => ∃ (T : Nat → Bool) (mo : Bool), x = .int .i64 (mk N' T : Nat) ∧ y = .bool mo ∧ Ow 4 w.heap.size wr (.slice (some ⟨w.heap.size, 0, none⟩) N' N') (bolL N' T) ∧ Hid (T 0 = true ∧ (∀ x, x < N' → T x = true → x ∈ RL') ∧ (mo = false → cls p q T N')) ∧ Below w.heap.size w wr) (fun x y _ _ => moW N' x y)
  case atStart => exact ⟨fun y => y == 0 || false, true, by rw [HM0.out]; rfl, rfl, HS0.out.1, hid ⟨rfl, fun x hx h => by
    have : x = 0 := by simpa using h
    rw [this]; exact HR0.out, fun h => by cases h⟩, HS0.out.2⟩
  case round =>
    clear HS0
    obtain ⟨T, mo, rfl, rfl, hT, hP, hb⟩ := hrel
    have hmk := HML.out T
    have HMK : Hid (∃ mm, mk N' T = mm) := hid ⟨_, rfl⟩
    obtain ⟨mm, hmm⟩ := HMK.out
    cases mo with
    | false =>
      have HE := hid (HEND.out T hP.out.2.1 hP.out.1 (fun x hx => (hP.out.2.2 rfl x hx).1) (fun x hx => (hP.out.2.2 rfl x hx).2))
      rw [HE.out] at hmm hmk ⊢
      have HB := hid hb
      clear hT hP hb hl2 hm2 HMK
      go_wp2
      go_ret
      exact ⟨rfl, HB.out⟩
    | true =>
      have HST := hid (And.intro hT (And.intro hb (And.intro hP.out.1 hP.out.2.1)))
      rw [hmm] at hmk ⊢
      have HMM := hid hmm
      clear hT hP hb hmm HMK
      go_wp2
      go_loopw [6, 7, 8] (fun x y z wr => ∃ (T : Nat → Bool) (mo : Bool) (k : Nat), k ≤ N' ∧ x = .int .i64 (mk N' T : Nat) ∧ y = .bool mo ∧ z = .int .i64 k ∧ Ow 4 w.heap.size wr (.slice (some ⟨w.heap.size, 0, none⟩) N' N') (bolL N' T) ∧ Hid (T 0 = true ∧ (∀ x, x < N' → T x = true → x ∈ RL') ∧ (mo = false → cls p q T k) ∧ (mo = true → mm < mk N' T) ∧ mm ≤ mk N' T) ∧ Below w.heap.size w wr) (fun _ _ z _ => N' - (intOf z).toNat)
      case atStart => exact ⟨T, false, 0, Nat.zero_le _, by rw [HMM.out], rfl, rfl, HST.out.1, hid ⟨HST.out.2.2.1, HST.out.2.2.2, fun _ x hx => by omega, (fun h => nomatch h), by rw [HMM.out]; exact Nat.le_refl _⟩, HST.out.2.1⟩
      case round =>
        clear HST HMM
        obtain ⟨T, mo, k, hk, rfl, rfl, rfl, hT, hP, hb⟩ := hrel
        have hmk2 := HML.out T
        by_cases hlt : k < N'
        · obtain ⟨b, off, rfl, hb1, hc⟩ := hl2 (by omega)
          obtain ⟨b', off', rfl, hb1', hc'⟩ := hm2 (by omega)
          have c1 := (hb.cell (p := ⟨b, off + k, none⟩) hb1).trans (hc k hlt)
          have c2 := (hb.cell (p := ⟨b', off' + k, none⟩) hb1').trans (hc' k hlt)
          rw [HLP.out k hlt] at c1
          rw [HMQ.out k hlt] at c2
          have hpk := HPL.out k hlt
          have hqk := HQL.out k hlt
          have t0 := hT.cell k (by rw [bolL_len]; exact hlt)
          have t1 := hT.cell (p k) (by rw [bolL_len]; exact hpk)
          have t2 := hT.cell (q k) (by rw [bolL_len]; exact hqk)
          rw [bolL_get hlt] at t0
          rw [bolL_get hpk] at t1
          rw [bolL_get hqk] at t2
          have HN : Hid (T k = true ∨ (T (p k) = false ∧ T (q k) = false) → mo = false → cls p q T (k + 1)) := hid (fun h hmo x hx => by
            by_cases e : x = k
            · subst e
              rcases h with h | ⟨h1, h2⟩
              · exact ⟨fun _ => h, fun _ => h⟩
              · exact ⟨(fun h => by rw [h1] at h; cases h), (fun h => by rw [h2] at h; cases h)⟩
            · exact hP.out.2.2.1 hmo x (by omega))
          have HY : Hid (T k = false → (T (p k) = true ∨ T (q k) = true) → (∀ x, x < N' → (x == k || T x) = true → x ∈ RL') ∧ mk N' (fun y => y == k || T y) = mk N' T + 1) := hid (fun h1 h2 => ⟨fun x hx h => by
            rw [Bool.or_eq_true, beq_iff_eq] at h
            rcases h with rfl | h
            · rcases h2 with h2 | h2
              · have := HRP.out _ (hP.out.2.1 _ hpk h2)
                rwa [HPB.out x hx] at this
              · have := HRQ.out _ (hP.out.2.1 _ hqk h2)
                rwa [HQB.out x hx] at this
            · exact hP.out.2.1 x hx h, HMO.out k T hlt h1⟩)
          have HT0 : Hid ((0 == k || T 0) = true) := hid (by rw [hP.out.1]; simp)
          have hfz := hT.frozen k
          obtain ⟨hs, hg⟩ := hT.stored k (.bool true)
          rw [bolL_set hlt] at hs
          have HSS := hid (And.intro hs (hb.grown hg hb.size (fun k h => by cases h; exact Nat.le_refl _)))
          have HKEEP := hid (And.intro hT hb)
          have hmm2 := hP.out.2.2.2.2
          have HPP := hP
          clear hc hc' hl2 hm2 hs hg hT hb hP
          have HMT : Hid (∃ mt, mk N' T = mt) := hid ⟨_, rfl⟩
          obtain ⟨mt, hmt⟩ := HMT.out
          rw [hmt] at hmk2 hmm2 ⊢
          have HMTE := hid hmt
          clear hmt HMT
          have mark : ∀ b1, T k = b1 → True := fun _ _ => trivial
          clear mark
          cases h1 : T k with
          | true =>
            have HE := hid (HN.out (.inl h1))
            rw [h1] at t0
            clear h1 t1 t2 c1 c2
            generalize p k = x at *
            generalize q k = y at *
            go_wp2
            go_roundw
            case rel => exact ⟨T, mo, k + 1, by omega, by rw [HMTE.out], by trivial, by go_num, HKEEP.out.1, hid ⟨HPP.out.1, HPP.out.2.1, HE.out, HPP.out.2.2.2.1, HPP.out.2.2.2.2⟩, HKEEP.out.2⟩
            case measure => simp [intOf] <;> omega
          | false =>
            rw [h1] at t0
            cases h2 : T (p k) with
            | true =>
              have HE := hid (HY.out h1 (.inl h2))
              have hmk3 := HML.out (fun y => y == k || T y)
              rw [HE.out.2, HMTE.out] at hmk3
              rw [h2] at t1
              clear h1 h2 t2 c2
              generalize p k = x at *
              generalize q k = y at *
              go_wp2
              go_roundw
              case rel => exact ⟨fun y => y == k || T y, true, k + 1, by omega, by rw [HE.out.2, HMTE.out]; go_num, by trivial, by go_num, HSS.out.1, hid ⟨HT0.out, HE.out.1, (fun h => nomatch h), fun _ => by rw [HE.out.2, HMTE.out]; omega, by rw [HE.out.2, HMTE.out]; omega⟩, HSS.out.2⟩
              case measure => simp [intOf] <;> omega
            | false =>
              rw [h2] at t1
              cases h3 : T (q k) with
              | true =>
                have HE := hid (HY.out h1 (.inr h3))
                have hmk3 := HML.out (fun y => y == k || T y)
                rw [HE.out.2, HMTE.out] at hmk3
                rw [h3] at t2
                clear h1 h2 h3
                generalize p k = x at *
                generalize q k = y at *
                go_wp2
                go_roundw
                case rel => exact ⟨fun y => y == k || T y, true, k + 1, by omega, by rw [HE.out.2, HMTE.out]; go_num, by trivial, by go_num, HSS.out.1, hid ⟨HT0.out, HE.out.1, (fun h => nomatch h), fun _ => by rw [HE.out.2, HMTE.out]; omega, by rw [HE.out.2, HMTE.out]; omega⟩, HSS.out.2⟩
                case measure => simp [intOf] <;> omega
              | false =>
                have HE := hid (HN.out (.inr ⟨h2, h3⟩))
                rw [h3] at t2
                clear h1 h2 h3
                generalize p k = x at *
                generalize q k = y at *
                go_wp2
                go_roundw
                case rel => exact ⟨T, mo, k + 1, by omega, by rw [HMTE.out], by trivial, by go_num, HKEEP.out.1, hid ⟨HPP.out.1, HPP.out.2.1, HE.out, HPP.out.2.2.2.1, HPP.out.2.2.2.2⟩, HKEEP.out.2⟩
                case measure => simp [intOf] <;> omega
        · obtain rfl : k = N' := by omega
          have HX := hid (And.intro hT hb)
          have HPP := hP
          clear hT hb hP
          go_wp2
          go_roundw
          case rel => exact ⟨T, mo, by trivial, by trivial, HX.out.1, hid ⟨HPP.out.1, HPP.out.2.1, HPP.out.2.2.1⟩, HX.out.2⟩
          case measure =>
            have := HPP.out.2.2.2.1
            cases mo with
            | false => simp [moW] <;> omega
            | true => have := this rfl; simp [moW] <;> omega
end Go.Proofs.Ytlcndccjlbahpaa
