/-
  The walks over parterreref4.BruijnFault and BruijnOf. Conditions: the numbers' ranges, as each theorem states.
-/
import Derived.Test.YtiohfgofoklncaaWbruijn
namespace Go.Proofs.Ytiohfgofoklncaa
open Go.RowKit

theorem Try.info4 : (Try.prog.info? 4).map (fun i => (i.zero, i.size, i.bytes)) = some (some (.bool false), 1, 1) := by kernel_rfl

theorem bruijnfault_range (k n : Int) (w : World) (h : k < 1 ∨ 10 < k ∨ n < 1) :
    Calls Try.prog 24 #[.int .i64 k, .int .i64 n] w fun e w' => e = .returned (.int .i64 1) ∧ w = w' := by
  by_cases h1 : k < 1
  · go_enter Try.func24, Try.ntmps24
    go_wp2
    all_goals (go_ret; exact ⟨rfl, rfl⟩)
  by_cases h2 : 10 < k
  · go_enter Try.func24, Try.ntmps24
    go_wp2
    all_goals (go_ret; exact ⟨rfl, rfl⟩)
  · have h3 : n < 1 := by omega
    go_enter Try.func24, Try.ntmps24
    go_wp2
    all_goals (go_ret; exact ⟨rfl, rfl⟩)

theorem bruijnfault_long (k n : Int) (w : World) (h1 : 1 ≤ k) (h2 : k ≤ 10) (h : 12 < n) :
    Calls Try.prog 24 #[.int .i64 k, .int .i64 n] w fun e w' => e = .returned (.int .i64 3) ∧ w = w' := by
  go_enter Try.func24, Try.ntmps24
  go_wp2
  all_goals (go_ret; exact ⟨rfl, rfl⟩)

theorem bruijnfault_small (k n : Nat) (w : World) (h1 : 1 ≤ k) (h2 : k ≤ 10) (h3 : 1 ≤ n) (h4 : n ≤ 12) :
    Calls Try.prog 24 #[.int .i64 k, .int .i64 n] w fun e w' => e = .returned (.int .i64 (if 4096 < k ^ n then 3 else 0)) ∧ w = w' := by
  obtain ⟨r, hr⟩ : ∃ r, r = k ^ n := ⟨_, rfl⟩
  rw [← hr]
  have HR := hid hr
  clear hr
  have HF : Hid (4096 < r → (if 4096 < r then (3 : Int) else 0) = 3) := hid (fun h => if_pos h)
  have HG : Hid (¬ 4096 < r → (if 4096 < r then (3 : Int) else 0) = 0) := hid (fun h => if_neg h)
  generalize (if 4096 < r then (3 : Int) else 0) = ans at *
  go_enter Try.func24, Try.ntmps24
  go_wp2
  go_loop [5, 6] (fun o i => ∃ j p : Nat, j ≤ n ∧ i = .int .i64 j ∧ o = .int .i64 p ∧ Hid (p = k ^ j) ∧ p ≤ 4096) (fun _ i => n - (intOf i).toNat)
  case atStart => exact ⟨0, 1, Nat.zero_le _, rfl, rfl, hid rfl, by omega⟩
  case round =>
    obtain ⟨j, p, hj, rfl, rfl, hp, hp4⟩ := hrel
    by_cases hlt : j < n
    · have h5 : ((p * k : Nat) : Int) = (p : Int) * (k : Int) := by simp
      have h6 : p * k ≤ 4096 * 10 := Nat.mul_le_mul hp4 h2
      have h7 : 0 ≤ (p : Int) * (k : Int) := Int.mul_nonneg (by omega) (by omega)
      have h8 : (p : Int) * (k : Int) ≤ 40960 := by omega
      have HP : Hid (p * k = k ^ (j + 1)) := hid (by rw [hp.out, pow_step])
      by_cases hbig : 4096 < p * k
      · have h9 : 4096 < (p : Int) * (k : Int) := by omega
        obtain rfl := HF.out (by
          rw [HR.out]
          have := pow_up (i := j + 1) (n := n) h1 hlt
          rw [← HP.out] at this
          omega)
        clear h5 h6 hbig
        go_wp2
        go_ret
        exact ⟨rfl, rfl⟩
      · have h9 : (p : Int) * (k : Int) ≤ 4096 := by omega
        have h10 : Hid (p * k ≤ 4096) := hid (by omega)
        clear h5 h6 hbig
        go_wp2
        go_round
        case rel => exact ⟨j + 1, p * k, by omega, by go_num, by simp, HP, h10.out⟩
        case measure => simp [intOf] <;> omega
    · obtain rfl : j = n := by omega
      obtain rfl := HG.out (by rw [HR.out, ← hp.out]; omega)
      go_wp2
      go_ret
      exact ⟨rfl, rfl⟩

/-- A set of codes as a list of truths. -/
def seenL (all s : Nat) : List Value := (List.range all).map fun c => .bool (s.testBit c)
theorem seenL_len (all s : Nat) : (seenL all s).length = all := by simp [seenL]
theorem seenL_zero (all : Nat) : List.replicate all (Value.bool false) = seenL all 0 := by
  apply List.ext_getElem?
  intro i
  by_cases h : i < all
  · simp [seenL, h]
  · simp [seenL, h]
theorem seenL_get {all s c : Nat} (h : c < all) : (seenL all s)[c]? = some (.bool (s.testBit c)) := by simp [seenL, h]
theorem seenL_set {all s c : Nat} (h : c < all) : (seenL all s).set c (.bool true) = seenL all (s ||| 2 ^ c) := by
  apply List.ext_getElem?
  intro i
  by_cases hi : i < all
  · rw [seenL_get hi]
    by_cases e : c = i
    · subst e
      rw [List.getElem?_set_self (by rw [seenL_len]; exact h)]
      simp
    · rw [List.getElem?_set_ne e, seenL_get hi]
      rw [Nat.testBit_or, Nat.testBit_two_pow]
      simp [e]
  · rw [List.getElem?_eq_none (by simp [seenL_len]; omega), List.getElem?_eq_none (by rw [seenL_len]; omega)]

theorem greedy_step {k all f code seen x : Nat} {out : List Int} : pick k all code seen (k + 1) 0 = some x → greedy k all (f + 1) code seen out = greedy k all f ((code * k + x) % all) (seen ||| 2 ^ ((code * k + x) % all)) ((x : Int) :: out) := by
  intro h; simp only [greedy]; rw [h]
theorem greedy_skip {k all f code seen : Nat} {out : List Int} : pick k all code seen (k + 1) 0 = none → greedy k all (f + 1) code seen out = greedy k all f code seen out := by
  intro h; simp only [greedy]; rw [h]
theorem pick_end {k all code seen f x : Nat} (h : ¬ x < k) : pick k all code seen f x = none := by
  cases f with
  | zero => rfl
  | succ f => simp only [pick]; rw [if_neg h]
theorem pick_seen {k all code seen f x : Nat} (h : x < k) (hs : seen.testBit ((code * k + x) % all) = true) : pick k all code seen (f + 1) x = pick k all code seen f (x + 1) := by
  simp only [pick]; rw [if_pos h, if_pos hs]
theorem pick_new {k all code seen f x : Nat} (h : x < k) (hs : seen.testBit ((code * k + x) % all) = false) : pick k all code seen (f + 1) x = some x := by
  simp only [pick]; rw [if_pos h, if_neg (by rw [hs]; simp)]

theorem bruijnof_any (k n : Nat) (w : World) (h1 : 1 ≤ k) (h2 : k ≤ 10) (h3 : 1 ≤ n) (h4 : n ≤ 12) (h : k ^ n ≤ 4096) :
    Calls Try.prog 26 #[.int .i64 k, .int .i64 n] w fun e w' => (∃ u, e = .returned u ∧ OI w.heap.size w' u (greed k n)) ∧ Below w.heap.size w w' := by
  obtain ⟨all, hall⟩ : ∃ r, r = k ^ n := ⟨_, rfl⟩
  have HG : Hid (greed k n = (greedy k all all (all - 1) 0 []).reverse) := hid (by rw [hall]; rfl)
  rw [← hall] at h
  have hpos : 0 < all := by rw [hall]; exact Nat.pow_pos (by omega)
  have HA := hid hall
  clear hall
  generalize greed k n = R at *
  go_enter Try.func26, Try.ntmps26
  go_wp2
  go_loop [5, 6] (fun o i => ∃ j p : Nat, j ≤ n ∧ i = .int .i64 j ∧ o = .int .i64 p ∧ Hid (p = k ^ j)) (fun _ i => n - (intOf i).toNat)
  case atStart => exact ⟨0, 1, Nat.zero_le _, rfl, rfl, hid rfl⟩
  case round =>
    obtain ⟨j, p, hj, rfl, rfl, hp⟩ := hrel
    by_cases hlt : j < n
    · have hpk : p * k ≤ all := by rw [hp.out, ← pow_step, HA.out]; exact pow_up h1 hlt
      have h5 : ((p * k : Nat) : Int) = (p : Int) * (k : Int) := by simp
      have h7 : 0 ≤ (p : Int) * (k : Int) := Int.mul_nonneg (by omega) (by omega)
      have h8 : (p : Int) * (k : Int) ≤ 40960 := by omega
      clear h5 hpk
      go_wp2
      go_round
      case rel => exact ⟨j + 1, p * k, by omega, by go_num, by simp, hid (by rw [hp.out, pow_step])⟩
      case measure => simp [intOf] <;> omega
    · obtain rfl : j = n := by omega
      obtain rfl : p = all := by rw [hp.out, HA.out]
      clear hp hlt
      go_wp2_with (at_make; refine wpList_mk (w := w) _ _ 42 4 (.bool false) 1 rfl rfl Try.underlying42 Try.info4 rfl (by decide) w.heap.size _ p rfl rfl rfl (by omega) (Nat.le_refl _) ?_; intro w1 hs1 hg1 hz1)
      have hs0 : Ow 4 w.heap.size w1 (.slice (some ⟨w.heap.size, 0, none⟩) p p) (seenL p 0) := by rw [← seenL_zero]; exact hs1
      have hb0 : Below w.heap.size w w1 := (Below.refl _ _).grown hg1 (Nat.le_refl _) (fun k h => by cases h)
      clear hs1 hg1
      go_loopw [8, 9, 10] (fun cd vo i wr => ∃ (t code s : Nat) (out : List Int), t ≤ p ∧ i = .int .i64 t ∧ cd = .int .i64 code ∧ code < p ∧ OI (w.heap.size + 1) wr vo out ∧ Ow 4 w.heap.size wr (.slice (some ⟨w.heap.size, 0, none⟩) p p) (seenL p s) ∧ Hid ((greedy k p (p - t) code s out.reverse).reverse = R) ∧ out.length ≤ t ∧ Below w.heap.size w wr ∧ w.heap.size < wr.heap.size) (fun _ _ i _ => p - (intOf i).toNat)
      case atStart => exact ⟨0, p - 1, 0, [], Nat.zero_le _, rfl, by go_num, by omega, OI.nil _ _, hs0, hid HG.out.symm, by simp, hb0, hz1⟩
      case round =>
        obtain ⟨t, code, s, out, ht, rfl, rfl, hcd, hoo, hse, hgr, hol, hb, hzz⟩ := hrel
        clear hs0 hb0
        by_cases htp : t < p
        · have HST := hid (fun x => greedy_step (x := x) (k := k) (all := p) (f := p - t - 1) (code := code) (seen := s) (out := out.reverse))
          have HSK := hid (greedy_skip (k := k) (all := p) (f := p - t - 1) (code := code) (seen := s) (out := out.reverse))
          rw [show p - t - 1 + 1 = p - t by omega] at HST HSK
          have hB : w.heap.size + 1 ≤ wr.heap.size := hzz
          go_wp2
          go_loop [8, 9, 11, 12] (fun cd o x _ => ∃ xx : Nat, xx ≤ k ∧ x = .int .i64 xx ∧ cd = .int .i64 code ∧ o = u9 ∧ Hid (pick k p code s (k + 1 - xx) xx = pick k p code s (k + 1) 0)) (fun _ _ x _ => k - (intOf x).toNat)
          case atStart => exact ⟨0, Nat.zero_le _, rfl, rfl, rfl, hid rfl⟩
          case round =>
            obtain ⟨x, hx, rfl, rfl, rfl, hpk⟩ := hrel
            by_cases hxk : x < k
            · have hmod : (code * k + x) % p < p := Nat.mod_lt _ hpos
              have hck : code * k ≤ 4096 * 10 := Nat.mul_le_mul (by omega) h2
              have hcc : ((code * k : Nat) : Int) = (code : Int) * (k : Int) := by simp
              have hc0 : 0 ≤ (code : Int) * (k : Int) := Int.mul_nonneg (by omega) (by omega)
              have hc1 : (code : Int) * (k : Int) ≤ 40960 := by omega
              have hcm : (((code * k + x) % p : Nat) : Int) = ((code : Int) * (k : Int) + (x : Int)) % (p : Int) := by simp
              have hcell := hse.cell ((code * k + x) % p) (by rw [seenL_len]; exact hmod)
              rw [seenL_get hmod] at hcell
              have hfz := hse.frozen ((code * k + x) % p)
              have hst := hse.stored ((code * k + x) % p) (.bool true)
              rw [seenL_set hmod] at hst
              obtain ⟨hst1, hst2⟩ := hst
              have hob : OI (w.heap.size + 1) (wr.setCell ⟨w.heap.size, (code * k + x) % p, none⟩ (.bool true)) u9 out := ownsRow_setCell_below (w := wr) hoo (a := ⟨w.heap.size, (code * k + x) % p, none⟩) (by simp) (.bool true)
              have hs1 := HST.out x
              have hps := pick_seen (k := k) (all := p) (code := code) (seen := s) (f := k - x) (x := x) hxk
              have hpn := pick_new (k := k) (all := p) (code := code) (seen := s) (f := k - x) (x := x) hxk
              rw [show k - x + 1 = k + 1 - x by omega] at hps hpn
              have hcq1 : 0 ≤ ((code : Int) * (k : Int) + (x : Int)) % (p : Int) := Int.emod_nonneg _ (by omega)
              have hcq2 : ((code : Int) * (k : Int) + (x : Int)) % (p : Int) < (p : Int) := Int.emod_lt_of_pos _ (by omega)
              clear hcm hcc hck
              cases hb1 : s.testBit ((code * k + x) % p) with
              | true =>
                rw [hb1] at hcell
                have HP := hid ((hps hb1).symm.trans hpk.out)
                clear hb1 hps hpn hpk hs1 hob hst1 hst2 hfz
                go_wp2
                go_round
                case rel => exact ⟨x + 1, by omega, by go_num, rfl, rfl, hid (by have := HP.out; rwa [show k + 1 - (x + 1) = k - x by omega])⟩
                case measure => simp [intOf] <;> omega
              | false =>
                rw [hb1] at hcell
                have HP := hid (hs1 (hpk.out.symm.trans (hpn hb1)))
                have hbs := hb.grown hst2 hb.size (fun k' e => by cases e; exact Nat.le_refl _)
                have hol2 : out.length ≤ 1000000000000 := by omega
                have hBs : w.heap.size + 1 ≤ (wr.setCell ⟨w.heap.size, (code * k + x) % p, none⟩ (.bool true)).heap.size := by simp [World.setCell]; omega
                clear hb1 hps hpn hpk hs1
                go_wp2_with (at_builtin; refine wpList_appi (wr.setCell ⟨w.heap.size, (code * k + x) % p, none⟩ (.bool true)) _ _ 23 rfl rfl Try.underlying23 Try.info3 (w.heap.size + 1) _ _ rfl hob rfl hol2 hBs ?_; intro g c2 w2 hown2 hg2 hg3 hg4)
                go_roundw
                case rel => exact ⟨t + 1, (code * k + x) % p, s ||| 2 ^ ((code * k + x) % p), out ++ [(x : Int)], by omega, by go_num, by simp, hmod, hown2, hst1.kept_other rfl hob hg2, hid (by have := hgr.out; rw [HP.out] at this; rw [show p - (t + 1) = p - t - 1 by omega, List.reverse_append]; exact this), by rw [List.length_append]; simp; omega, hbs.grown hg2 (by omega) (fun k' e => by have := (hob.lt k' e).1; omega), by have := hg2.size; omega⟩
                case measure => simp [intOf] <;> omega
            · have hnone := hpk.out
              rw [pick_end hxk] at hnone
              have HN := hid (hgr.out.symm.trans (by rw [HSK.out hnone.symm]))
              clear hnone hpk
              go_wp2
              go_roundw
              case rel => exact ⟨t + 1, code, s, out, by omega, by go_num, rfl, hcd, hoo, hse, hid (by rw [HN.out, show p - t - 1 = p - (t + 1) by omega]), by omega, hb, hzz⟩
              case measure => simp [intOf] <;> omega
        · obtain rfl : t = p := by omega
          have HE : Hid (R = out) := hid (by have := hgr.out; rw [Nat.sub_self] at this; simpa [greedy] using this.symm)
          go_wp2
          go_ret
          exact ⟨⟨_, rfl, by rw [HE.out]; exact hoo.mono (by omega)⟩, hb⟩
end Go.Proofs.Ytiohfgofoklncaa
