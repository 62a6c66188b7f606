/-
  The walk over parterrelaw4.WordOnce: for all numbers it returns true. No condition.
-/
import Derived.Test.YtiohfgofoklncaaOnce
import Derived.Test.YtiohfgofoklncaaWfact
namespace Go.Proofs.Ytiohfgofoklncaa
open Go.RowKit

theorem wordOnce_bad (w : World) (k n : Int) (h : k < 1 ∨ 10 < k ∨ n < 1) :
    Calls Try.prog 7 #[.int .i64 k, .int .i64 n] w fun e w' => e = .returned (.bool true) ∧ Below w.heap.size w w' := by
  have H := hid h
  clear h
  go_enter Try.func7, Try.ntmps7
  go_wp2_with fail
  refine (wordFact_any w).mono ?_
  rintro e w1 ⟨rfl, hb1⟩
  go_wp2_with fail
  refine (Bruijn_range k n _ H.out).mono ?_
  rintro e w' ⟨rfl, rfl⟩
  go_wp2
  go_ret
  exact ⟨rfl, hb1⟩
theorem wordOnce_long (w : World) (k n : Int) (h1 : 1 ≤ k) (h2 : k ≤ 10) (h : 12 < n) :
    Calls Try.prog 7 #[.int .i64 k, .int .i64 n] w fun e w' => e = .returned (.bool true) ∧ Below w.heap.size w w' := by
  go_enter Try.func7, Try.ntmps7
  go_wp2_with fail
  refine (wordFact_any w).mono ?_
  rintro e w1 ⟨rfl, hb1⟩
  go_wp2_with fail
  refine (Bruijn_long k n _ h1 h2 h).mono ?_
  rintro e w' ⟨rfl, rfl⟩
  go_wp2
  go_ret
  exact ⟨rfl, hb1⟩
theorem wordOnce_full (w : World) (k n : Nat) (h1 : 1 ≤ k) (h2 : k ≤ 10) (h3 : 1 ≤ n) (h4 : n ≤ 12) (h : 4096 < k ^ n) :
    Calls Try.prog 7 #[.int .i64 k, .int .i64 n] w fun e w' => e = .returned (.bool true) ∧ Below w.heap.size w w' := by
  have H := hid h
  clear h
  go_enter Try.func7, Try.ntmps7
  go_wp2_with fail
  refine (wordFact_any w).mono ?_
  rintro e w1 ⟨rfl, hb1⟩
  go_wp2_with fail
  refine (Bruijn_full k n _ h1 h2 h3 h4 H.out).mono ?_
  rintro e w' ⟨rfl, rfl⟩
  go_wp2
  go_ret
  exact ⟨rfl, hb1⟩

theorem Once.cyc_lt {k n : Nat} {l : List Int} (h : Once k n l) (hp : 0 < k ^ n) (i : Nat) : l.getD (i % k ^ n) 0 = (cyc l i : Int) ∧ cyc l i < k := by
  have hm : i % l.length < l.length := Nat.mod_lt _ (by rw [h.len]; exact hp)
  have := h.lo (l.getD (i % l.length) 0) (by rw [List.getD_eq_getElem?_getD, List.getElem?_eq_getElem hm]; exact List.getElem_mem _)
  unfold cyc
  rw [h.len] at *
  omega

set_option maxRecDepth 100000 in
set_option maxHeartbeats 1000000 in
theorem wordOnce_ok (w : World) (k n : Nat) (h1 : 1 ≤ k) (h2 : k ≤ 10) (h3 : 1 ≤ n) (h4 : n ≤ 12) (h5 : k ^ n ≤ 4096) :
    Calls Try.prog 7 #[.int .i64 k, .int .i64 n] w fun e w' => e = .returned (.bool true) ∧ Below w.heap.size w w' := by
  have HO := hid (once_all h1 h2 h3 h4 h5)
  have HBR := hid (fun (w : World) => Bruijn_ok k n w h1 h2 h3 h4 h5)
  have hpos : 0 < k ^ n := Nat.pow_pos (by omega)
  have HC := hid (fun i => HO.out.cyc_lt hpos i)
  have HPU := hid (fun i (h : i ≤ n) => pow_up (k := k) h1 h)
  have hlen := HO.out.len
  have HSUM := hid HO.out.sum
  have HCODE := hid HO.out.code
  have HAL := hid HO.out.alone
  generalize greed k n = R at *
  obtain ⟨all, hall⟩ : ∃ r, r = k ^ n := ⟨_, rfl⟩
  rw [← hall] at h5 hpos HC hlen HSUM HCODE HAL HPU
  have HA := hid hall
  have HL := hid hlen
  clear hall hlen
  go_enter Try.func7, Try.ntmps7
  go_wp2_with fail
  refine (wordFact_any w).mono ?_
  rintro e w1 ⟨rfl, hb1⟩
  go_wp2_with fail
  refine (HBR.out _).mono ?_
  rintro e w2 ⟨⟨u, rfl, hown⟩, hb2⟩
  obtain ⟨g, c, rfl, hg1, hg2⟩ := hown.form (by rw [HL.out]; omega)
  rw [HL.out] at hown ⊢
  have hbb := hb1.trans (hb2.mono hb1.size)
  clear hb2
  go_wp2
  go_loop [8, 9] (fun o i => ∃ j p : Nat, j ≤ n ∧ i = .int .i64 j ∧ o = .int .i64 p ∧ Hid (p = k ^ j)) (fun _ i => n - (intOf i).toNat)
  case atStart => exact ⟨0, 1, Nat.zero_le _, rfl, rfl, hid rfl⟩
  case round =>
    obtain ⟨j, p, hj, rfl, rfl, hp⟩ := hrel
    by_cases hlt : j < n
    · have hpk : p * k ≤ all := by rw [hp.out, ← pow_step, HA.out, ← HA.out]; exact HPU.out _ hlt
      have h6 : ((p * k : Nat) : Int) = (p : Int) * (k : Int) := by simp
      have h7 : 0 ≤ (p : Int) * (k : Int) := Int.mul_nonneg (by omega) (by omega)
      have h8 : (p : Int) * (k : Int) ≤ 40960 := by omega
      clear h6 hpk
      go_wp2
      go_round
      case rel => exact ⟨j + 1, p * k, by omega, by go_num, by simp, hid (by rw [hp.out, pow_step])⟩
      case measure => simp [intOf] <;> omega
    · obtain rfl : n = j := by omega
      obtain rfl : p = all := by rw [hp.out, HA.out]
      clear hp hlt
      go_wp2_with (at_make; refine wpList_mk (w := w2) _ _ 42 4 (.bool false) 1 rfl rfl Try.underlying42 Try.info4 rfl (by decide) w2.heap.size _ p rfl rfl rfl (by omega) (Nat.le_refl _) ?_; intro w3 hs3 hgr3 hz3)
      have hs0 : Ow 4 w2.heap.size w3 (.slice (some ⟨w2.heap.size, 0, none⟩) p p) (seenL p 0) := by rw [← seenL_zero]; exact hs3
      have hb3 : Below w.heap.size w w3 := hbb.grown hgr3 hbb.size (fun k h => by cases h)
      have ho3 := hown.kept hgr3 (.inr (by simp [Value.ownBlock]))
      clear hs3 hgr3 hown
      go_loopw [11, 12, 13, 14] (fun i _ _ _ wr => ∃ (t s : Nat), t ≤ p ∧ i = .int .i64 t ∧ OI w1.heap.size wr (.slice (some ⟨g, 0, none⟩) p c) R ∧ Ow 4 w2.heap.size wr (.slice (some ⟨w2.heap.size, 0, none⟩) p p) (seenL p s) ∧ Hid (∀ c, s.testBit c = true → ∃ j, j < t ∧ c = wc k R j n) ∧ Below w.heap.size w wr) (fun i _ _ _ _ => p - (intOf i).toNat)
      case atStart => exact ⟨0, 0, Nat.zero_le _, rfl, ho3, hs0, hid (fun c h => by simp at h), hb3⟩
      case round =>
        obtain ⟨t, s, ht, rfl, ho, hse, hmask, hb⟩ := hrel
        clear ho3 hs0 hb3
        by_cases hlt : t < p
        · go_wp2
          go_loop [12, 13, 14] (fun c j _ => ∃ jj : Nat, jj ≤ n ∧ j = .int .i64 jj ∧ c = .int .i64 (wc k R t jj : Nat)) (fun _ j _ => n - (intOf j).toNat)
          case atStart => exact ⟨0, Nat.zero_le _, rfl, rfl⟩
          case round =>
            obtain ⟨jj, hj, rfl, rfl⟩ := hrel
            by_cases hjn : jj < n
            · obtain ⟨x1, x2⟩ := HC.out (t + jj)
              have hm : (t + jj) % p < p := Nat.mod_lt _ hpos
              have hcell := ho.cell ((t + jj) % p) (by rw [HL.out]; exact hm)
              rw [x1] at hcell
              have hm1 : 0 ≤ ((t : Int) + (jj : Int)) % (p : Int) := Int.emod_nonneg _ (by omega)
              have hm2 : ((t : Int) + (jj : Int)) % (p : Int) < (p : Int) := Int.emod_lt_of_pos _ (by omega)
              have hw1 : wc k R t (jj + 1) = wc k R t jj * k + cyc R (t + jj) := rfl
              have hw2 : wc k R t jj * k ≤ 4096 * 10 := by
                have q1 : wc k R t jj < k ^ jj := wc_lt (fun i => (HC.out i).2) t jj
                have q2 := HPU.out jj hj
                exact Nat.mul_le_mul (by omega) h2
              have HW := hid hw1
              clear hw1 x1 hmask
              generalize cyc R (t + jj) = x at *
              generalize wc k R t jj = q at *
              have hq1 : ((q * k : Nat) : Int) = (q : Int) * (k : Int) := by simp
              have hq2 : 0 ≤ (q : Int) * (k : Int) := Int.mul_nonneg (by omega) (by omega)
              have hq3 : (q : Int) * (k : Int) ≤ 40960 := by omega
              have HQ := hid hq1
              clear hq1 hw2
              go_wp2
              go_round
              case rel => exact ⟨jj + 1, by omega, by go_num, by rw [HW.out]; simp⟩
              case measure => simp [intOf] <;> omega
            · obtain rfl : jj = n := by omega
              have hcode := HCODE.out t
              have hsb : s.testBit (wc k R t jj) = false := by
                cases h : s.testBit (wc k R t jj) with
                | false => rfl
                | true =>
                  obtain ⟨j, hj, he⟩ := hmask.out _ h
                  exact absurd he (HAL.out t j hj hlt)
              have HMASK : Hid (∀ c, (s ||| 2 ^ wc k R t jj).testBit c = true → ∃ j, j < t + 1 ∧ c = wc k R j jj) := by
                intro c hc
                rw [Nat.testBit_or, Nat.testBit_two_pow] at hc
                simp only [Bool.or_eq_true, decide_eq_true_eq] at hc
                rcases hc with hc | hc
                · obtain ⟨j, hj, he⟩ := hmask.out c hc
                  exact ⟨j, by omega, he⟩
                · exact ⟨t, by omega, hc.symm⟩
              clear hmask
              generalize wc k R t jj = q at *
              have hcell := hse.cell q (by rw [seenL_len]; exact hcode)
              rw [seenL_get hcode, hsb] at hcell
              have hfz := hse.frozen q
              have hst := hse.stored q (.bool true)
              rw [seenL_set hcode] at hst
              obtain ⟨hst1, hst2⟩ := hst
              have ho4 := ho.kept hst2 (.inr (by simp [Value.ownBlock]; omega))
              have hbs := hb.grown hst2 hb.size (fun k' e => by cases e; exact hbb.size)
              clear hsb hst2
              go_wp2
              go_roundw
              case rel => exact ⟨t + 1, s ||| 2 ^ q, by omega, by go_num, ho4, hst1, HMASK, hbs⟩
              case measure => simp [intOf] <;> omega
        · have HBD := hid HO.out.bd
          clear hmask hse ho
          go_wp2
          go_loop [15, 16, 17, 18] (fun sm d _ _ => ∃ dd : Nat, 1 ≤ dd ∧ dd ≤ n + 1 ∧ d = .int .i64 dd ∧ sm = .int .i64 (osum k n (dd - 1))) (fun _ d _ _ => n + 1 - (intOf d).toNat)
          case atStart => exact ⟨1, by omega, by omega, rfl, rfl⟩
          case round =>
            obtain ⟨dd, hd1, hd2, rfl, rfl⟩ := hrel
            by_cases hdn : dd ≤ n
            · by_cases hdv : n % dd = 0
              · have hmod : ((n : Int) % (dd : Int) == 0) = true := by
                  rw [beq_iff_eq, ← Int.natCast_emod, hdv]; rfl
                have hos : osum k n dd = osum k n (dd - 1) + (dd : Int) * pr k dd := by
                  obtain ⟨e, rfl⟩ : ∃ e, dd = e + 1 := ⟨dd - 1, by omega⟩
                  simp only [osum, Nat.add_sub_cancel]
                  rw [if_pos hdv]
                obtain ⟨b1, b2, _, _⟩ := HBD.out dd hdn
                obtain ⟨_, _, b3, b4⟩ := HBD.out (dd - 1) (by omega)
                have hpk : k ^ dd ≤ 4096 := by have := HPU.out dd hdn; omega
                have HP := hid (fun (w : World) => Primes_ok k dd w h1 hd1 (by omega) (by omega))
                have hz1 : 0 ≤ (dd : Int) * pr k dd := Int.mul_nonneg (by omega) b1
                have hz2 : (dd : Int) * pr k dd ≤ 12 * 4096 := Int.mul_le_mul (by omega) b2 b1 (by omega)
                have HOS := hid hos
                clear hos hpk hdv
                go_wp2_with fail
                refine (HP.out _).mono ?_
                rintro e w' ⟨rfl, rfl⟩
                rw [show (sumA k dd dd).tdiv (dd : Int) = pr k dd from rfl]
                generalize pr k dd = z at *
                go_wp2
                go_round
                case rel => exact ⟨dd + 1, by omega, by omega, by go_num, by rw [Nat.add_sub_cancel, HOS.out]⟩
                case measure => simp [intOf] <;> omega
              · have hmod : ((n : Int) % (dd : Int) == 0) = false := by
                  rw [beq_eq_false_iff_ne, ← Int.natCast_emod]; omega
                have hos : osum k n dd = osum k n (dd - 1) := by
                  obtain ⟨e, rfl⟩ : ∃ e, dd = e + 1 := ⟨dd - 1, by omega⟩
                  simp only [osum, Nat.add_sub_cancel]
                  rw [if_neg hdv, Int.add_zero]
                have HOS := hid hos
                clear hos hdv
                go_wp2
                go_round
                case rel => exact ⟨dd + 1, by omega, by omega, by go_num, by rw [Nat.add_sub_cancel, HOS.out]⟩
                case measure => simp [intOf] <;> omega
            · obtain rfl : dd = n + 1 := by omega
              have hs := HSUM.out
              rw [Nat.add_sub_cancel]
              rw [hs]
              clear hs
              have hq : ((p : Int) == (p : Int)) = true := by simp
              go_wp2
              go_ret
              exact ⟨rfl, hb⟩
theorem wordOnce_walk (w : World) (k : Int) (_ : I64 k) (n : Int) (_ : I64 n) :
    Calls Try.prog 7 #[.int .i64 k, .int .i64 n] w fun e w' => e = .returned (.bool true) ∧ Below w.heap.size w w' := by
  by_cases h : k < 1 ∨ 10 < k ∨ n < 1
  · exact wordOnce_bad w k n h
  by_cases h2 : 12 < n
  · exact wordOnce_long w k n (by omega) (by omega) h2
  obtain ⟨n, rfl⟩ : ∃ m : Nat, n = (m : Int) := ⟨n.toNat, by omega⟩
  obtain ⟨k, rfl⟩ : ∃ m : Nat, k = (m : Int) := ⟨k.toNat, by omega⟩
  by_cases h3 : 4096 < k ^ n
  · exact wordOnce_full w k n (by omega) (by omega) (by omega) (by omega) h3
  · exact wordOnce_ok w k n (by omega) (by omega) (by omega) (by omega) (by omega)
end Go.Proofs.Ytiohfgofoklncaa
