/-
  The walks over recur.row and over the function that it makes: it hands the numbers of a row to yield, till that says no. Conditions: what was handed over is a recurrence and its seed.
-/
import Derived.Test.YtlnfkkapepgilaaEver
import Derived.Test.YtlnfkkapepgilaaWin
import Derived.Test.YtlnfkkapepgilaaClone
import Derived.Test.YtlnfkkapepgilaaRrow
import Derived.Deep.LoopGhost
import Derived.TacticsInMore
import Derived.LoopIn
namespace Go.Proofs.Ytlnfkkapepgilaa
set_option linter.unusedVariables false
open Go.RowKit

theorem row_make (p : Int) (a a' : Option Addr) (n c n' c' : Nat) (w : World) :
    Calls Try.prog 50 #[.int .i64 p, .slice a n c, .slice a' n' c'] w fun e w' => e = .returned (.func (.func 53) #[] #[.pointer (some ⟨w.heap.size + 1 + 1, 0, none⟩), .pointer (some ⟨w.heap.size + 1, 0, none⟩), .pointer (some ⟨w.heap.size, 0, none⟩)]) ∧
      w' = ((w.alloc (.cells #[.int .i64 p] 3)).alloc (.cells #[.slice a n c] 30)).alloc (.cells #[.slice a' n' c'] 30) := by
  go_enter Try.func50, Try.ntmps50
  go_wp2
  go_ret
  exact ⟨rfl, rfl⟩

/-- What a row is made from. -/
structure RowSrc (p : Int) (taps seed : List Int) (bs bt bp : Nat) (sv tv : Value) (A : World) : Prop where
  cp : A.cell? ⟨bp, 0, none⟩ = some (.int .i64 p)
  ct : A.cell? ⟨bt, 0, none⟩ = some tv
  cs : A.cell? ⟨bs, 0, none⟩ = some sv
  tl : Sl A tv taps
  sl : Sl A sv seed

theorem below_grown {a w : World} (h : Below a.heap.size a w) (row : Option Nat) : a.grownBy w row := ⟨h.os, h.tape, h.output, h.size, fun k hk _ => h.block k hk⟩

theorem Sl.at' {b off n c : Nat} {w : World} {l : List Int} (h : Sl w (.slice (some ⟨b, off, none⟩) n c) l) (i : Nat) (hi : i < n) : b < w.heap.size ∧ w.cell? ⟨b, off + i, none⟩ = some (.int .i64 (l[i]?.getD 0)) := by
  obtain ⟨a, c', N, e, hN, h1, h2⟩ := h.open
  simp only [Value.slice.injEq] at e
  obtain ⟨rfl, rfl, rfl⟩ := e
  obtain ⟨b', off', e, hb, hc⟩ := h2 (by omega)
  simp only [Option.some.injEq, Addr.mk.injEq, and_true] at e
  obtain ⟨rfl, rfl⟩ := e
  exact ⟨hb, hc i hi⟩

set_option maxHeartbeats 1000000 in
theorem row_ever (p : Int) (taps seed : List Int) (R : Recur p taps seed) (bs bt bp : Nat) (sv tv : Value) (N : Nat) :
    Ever Try.prog 53 #[.pointer (some ⟨bs, 0, none⟩), .pointer (some ⟨bt, 0, none⟩), .pointer (some ⟨bp, 0, none⟩)] (rowF p taps seed) (RowSrc p taps seed bs bt bp sv tv) N := by
  intro l J Jx W hS hA hY h0
  refine callsIn_wide.2 ?_
  show Calls _ _ #[.func (.yield l) #[] #[], .pointer (some ⟨bs, 0, none⟩), .pointer (some ⟨bt, 0, none⟩), .pointer (some ⟨bp, 0, none⟩)] W _
  have hsrc := (hS _ _ _ h0).1
  have hk1 := R.k1
  have hk8 := R.k8
  have hlen := R.len
  have hc0 := hsrc.cs
  have hsl := hsrc.sl
  obtain ⟨a', c', M, rfl, hM, hm1, hm2⟩ := hsl.open
  rw [hM.out] at hlen
  obtain ⟨b', off', rfl, hb', hc'⟩ := hm2 (by omega)
  obtain ⟨a2, c2, M2, rfl, hM2, hn1, hn2⟩ := hsrc.tl.open
  obtain ⟨b2, off2, rfl, hb2, _⟩ := hn2 (by rw [← hM2.out]; omega)
  obtain rfl : M = M2 := by rw [hlen, hM2.out]
  have HS := hid hS
  have HA := hid hA
  have HY := hid hY
  have H0 := hid h0
  have HR := hid R
  have HTL := hid hlen
  clear hS hA hY h0 hsrc hm2 hc' R hlen hn2
  go_enter Try.func53, Try.ntmps53
  go_wp2_with fail
  refine (clone_ints b' off' M c' seed W hsl (by rw [hM.out, HTL.out]; omega)).mono ?_
  rintro e w1 ⟨⟨u, rfl, hown⟩, hb⟩
  have hw1 : Win W.heap.size w1 u (winL p taps seed 0) := by rw [win_zero]; exact Win.of_ow hown (by rw [hM.out, HTL.out]; exact hk1)
  have hj1 : J 0 (.slice none 0 0) w1 := HA.out _ _ _ _ none H0.out (below_grown hb _) (fun r e => by cases e)
  clear hc0 hsl hown hb
  go_wp2_with fail
  go_loopg [5] N (fun f v wr => ∃ k q, f + k = N ∧ J k q wr ∧ Win W.heap.size wr v (winL p taps seed k) ∧ (∀ g, v.ownBlock = some g → q.ownBlock ≠ some g))
  case atStart => exact ⟨0, _, by omega, hj1, hw1, fun g _ => by simp [Value.ownBlock]⟩
  case round =>
    obtain ⟨k, q, hf, hj, hw, hne⟩ := hrel
    obtain ⟨b, off, c, rfl⟩ := hw.form
    have hM1 : 1 ≤ M := by rw [HTL.out]; exact hk1
    have hM8 : M ≤ 8 := by rw [HTL.out]; exact hk8
    rw [win_len, hM.out] at hw hne ⊢
    have hB := hw.lt.1
    have hblt := hw.lt.2.1
    have hMc := hw.lt.2.2.2
    have hcell := hw.cell 0 (by rw [win_len, hM.out]; exact hM1)
    rw [win_get (by rw [hM.out]; exact hM1), Nat.add_zero] at hcell
    obtain ⟨fn, tmps, assign, body, hy, hRd⟩ := HY.out k q wr hj
    refine wp_seq_k fun K1 hK1 => ?_
    refine wp_seq_k fun K2 hK2 => ?_
    refine (wpIn_wide (n := 0)).1 ?_
    gi_wp2
    refine ⟨rfl, hRd.mono ?_⟩
    rintro e C (⟨rfl, q', hj', hrest, hown⟩ | ⟨rfl, q', hx⟩)
    · obtain ⟨⟨s1, s2, s3, s4, s5⟩, s6, s7⟩ := HS.out _ _ _ hj'
      have hw2 := hw.same (hrest.same b hB hblt (hne b rfl))
      have hne2 : q'.ownBlock ≠ some b := fun e => by
        rcases hown b e with h | h
        · exact hne b rfl h
        · omega
      have hCs := hrest.size
      have HJ := hid hj'
      have HN2 := hid hne2
      have HW2 := hid hw2
      have HTC := hid (fun i (hi : i < M) => (s4.at' i hi).2)
      have HWC := hid (fun i (hi : i < M) => hw2.cell i (by rw [win_len, hM.out]; exact hi))
      have hxm : ∀ x ∈ winL p taps seed k, 0 ≤ x ∧ x < p := fun x hx => row_mem (by have := HR.out.p2; omega) HR.out.fs _ x (List.mem_of_mem_drop hx)
      have HXB := hid (fun j => getD_nn (by have := HR.out.p2; omega) hxm j)
      have HTB := hid (fun j => getD_nn (by have := HR.out.p2; omega) HR.out.ft j)
      have HDB := hid (dot_bd (by have := HR.out.p2; omega) HR.out.p7 HR.out.ft hxm)
      have HST : Hid (∀ j, dot taps (winL p taps seed k) (j + 1) = dot taps (winL p taps seed k) j + taps.getD j 0 * (winL p taps seed k).getD (M - 1 - j) 0) := hid (fun j => by simp only [dot]; rw [win_len, hM.out])
      have HNX := hid (win_next p taps seed k (by rw [hM.out]; exact hM1))
      have hXL : Hid ((winL p taps seed k).length = M) := hid (by rw [win_len, hM.out])
      have hp2 := HR.out.p2
      have hp7 := HR.out.p7
      clear hw hne hj hcell hy hRd hrest hown hw2 hne2 hj' s3 s4 s5 hxm
      generalize winL p taps seed k = xs at *
      gi_wp2
      go_wp2
      go_loop [6, 7, 8, 18] (fun s _ _ i => ∃ jj : Nat, jj ≤ M ∧ i = .int .i64 jj ∧ s = .int .i64 (dot taps xs jj)) (fun _ _ _ i => M - (intOf i).toNat)
      case atStart => exact ⟨0, Nat.zero_le _, rfl, rfl⟩
      case round =>
        obtain ⟨jj, hj, rfl, rfl⟩ := hrel
        by_cases hjm : jj < M
        · have c1 := HTC.out jj hjm
          have c3 := HWC.out (M - 1 - jj) (by omega)
          have b1 := HTB.out jj
          have b2' := HXB.out (M - 1 - jj)
          obtain ⟨b31, b32⟩ := HDB.out jj
          obtain ⟨b41, b42⟩ := mul_bd b1 b2' hp7
          have HS' := hid (HST.out jj)
          rw [getD_q] at b1 b41 b42 HS'
          obtain ⟨z, hz⟩ : ∃ z : Nat, z = M - 1 - jj := ⟨_, rfl⟩
          rw [← hz] at c3 b2' b41 b42 HS'
          have hqi : (M : Int) - 1 - (jj : Int) = (z : Int) := by omega
          have hzM : z < M := by omega
          generalize taps[jj]?.getD 0 = x at *
          generalize xs.getD z 0 = y at *
          generalize dot taps xs jj = s at *
          clear hz b1 b2'
          go_wp2
          go_round
          case rel => exact ⟨jj + 1, by omega, by go_num, by rw [HS'.out]⟩
          case measure => simp [intOf] <;> omega
        · obtain rfl : M = jj := by omega
          obtain ⟨b31, b32⟩ := HDB.out M
          have hq1 : 0 ≤ dot taps xs M % p := Int.emod_nonneg _ (by omega)
          have hq2 : dot taps xs M % p < p := Int.emod_lt_of_pos _ (by omega)
          have HNX2 : Hid (winL p taps seed (k + 1) = xs.drop 1 ++ [dot taps xs M % p]) := hid (by
            rcases HNX.out with h | h
            · rw [h, ← HTL.out]
            · exact absurd (by rw [← HTL.out, hM.out]) h)
          generalize dot taps xs M = s at *
          have hBs : W.heap.size ≤ C.heap.size := by omega
          have hxl : (xs.drop 1).length ≤ 1000000000000 := by rw [List.length_drop, hXL.out]; omega
          have hM1i : (1 : Int) ≤ (M : Int) := by omega
          have hp0 : ¬ p = 0 := by omega
          have htm : s.tmod p = s % p := Int.tmod_eq_emod_of_nonneg b31
          by_cases hc1 : c = 1
          · subst hc1
            obtain rfl : M = 1 := by omega
            have hs1 := HW2.out.slice1 (by omega) off rfl
            have HS1 := hid hs1
            clear hs1
            go_wp2
            go_region_law (refine step_win C _ _ 30 rfl rfl Try.underlying30 Try.info3 W.heap.size b off _ _ (xs.drop 1) rfl HS1.out rfl hxl hBs ?_; intro v' w2 hown1 hg1 hg2)
            go_wp2
            go_roundg (gk - 1)
            case measure => omega
            case rel => exact ⟨k + 1, q', by omega, HA.out _ _ _ _ _ HJ.out hg1 (fun r e => by cases e; exact ⟨hB, HN2.out⟩), by rw [HNX2.out]; exact hown1, fun g hg e => by
              rcases hg2 g hg with h | h
              · subst h; exact HN2.out e
              · have := s7 g e
                omega⟩
          · have hc1i : ¬ ((c : Int) = 1) := by omega
            have hs1 := HW2.out.slice1 (by omega) (off + 1) (by rw [if_neg hc1])
            have HS1 := hid hs1
            clear hs1
            go_wp2
            go_region_law (refine step_win C _ _ 30 rfl rfl Try.underlying30 Try.info3 W.heap.size b (off + 1) _ _ (xs.drop 1) rfl HS1.out rfl hxl hBs ?_; intro v' w2 hown1 hg1 hg2)
            go_wp2
            go_roundg (gk - 1)
            case measure => omega
            case rel => exact ⟨k + 1, q', by omega, HA.out _ _ _ _ _ HJ.out hg1 (fun r e => by cases e; exact ⟨hB, HN2.out⟩), by rw [HNX2.out]; exact hown1, fun g hg e => by
              rcases hg2 g hg with h | h
              · subst h; exact HN2.out e
              · have := s7 g e
                omega⟩
    · gi_wp2
      go_wp2
      go_end0
      exact ⟨⟨_, rfl⟩, _, _, hx⟩
end Go.Proofs.Ytlnfkkapepgilaa
