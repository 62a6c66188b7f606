/-
  The walk over parterrelaw1.PermTexts. Conditions: the slice can be read; a text of at most 1,000,000,000 letters; the library's variables lie.
-/
import Derived.Test.YtgfdddknajeknaaDoorTwpar
import Derived.Test.YtgfdddknajeknaaDoorWints
namespace Go.Proofs.YtgfdddknajeknaaDoor
set_option linter.unusedVariables false
open Go.RowKit

theorem ints_self (v u : Value) (l : List Int) (w : World) (hl : Sl w v l) (hm : Sl w u l) :
    Calls Tryd.prog 10 #[v, u] w fun e w' => e = .returned (.bool true) ∧ ∃ n, w' = w.drewN n :=
  (ints_any v u l l w hl hm).mono fun e w' ⟨h1, h2⟩ => ⟨by rw [h1, decide_eq_true rfl], h2⟩
/-- What is read: an error and a list. -/
def TRes (n : Int) (T : List UInt8) (E : Int) (l : List Int) : Prop :=
  ((n < 0 ∨ 12 < n) ∧ l = [] ∧ E = 1) ∨ (∃ (N : Nat) (f : Nat → Nat), n = (N : Int) ∧ N ≤ 12 ∧ Pm N f ∧ T = wrT f N ∧ l = intsL ((List.range N).map f) ∧ E = 0) ∨ (∃ N : Nat, n = (N : Int) ∧ N ≤ 12 ∧ (¬ ∃ f, Pm N f ∧ T = wrT f N) ∧ l = [] ∧ E = 5)
theorem TRes.one {n : Int} {T : List UInt8} {E E' : Int} {l l' : List Int} (h : TRes n T E l) (g : TRes n T E' l') : E = E' ∧ l = l' := by
  rcases h with ⟨h1, rfl, rfl⟩ | ⟨N, f, rfl, hN, P, hT, rfl, rfl⟩ | ⟨N, rfl, hN, hno, rfl, rfl⟩
  · rcases g with ⟨_, rfl, rfl⟩ | ⟨N, f, rfl, hN, _⟩ | ⟨N, rfl, hN, _⟩
    · exact ⟨rfl, rfl⟩
    · omega
    · omega
  · rcases g with ⟨h1, _⟩ | ⟨M, g, e, hM, Q, hT2, rfl, rfl⟩ | ⟨M, e, hM, hno, _⟩
    · omega
    · obtain rfl : N = M := by omega
      rw [hT] at hT2
      rw [wr_inj hN P Q hT2]
      exact ⟨rfl, rfl⟩
    · obtain rfl : N = M := by omega
      exact absurd ⟨f, P, hT⟩ hno
  · rcases g with ⟨h1, _⟩ | ⟨M, g, e, hM, Q, hT2, rfl, rfl⟩ | ⟨M, e, hM, _, rfl, rfl⟩
    · omega
    · obtain rfl : N = M := by omega
      exact absurd ⟨g, Q, hT2⟩ hno
    · exact ⟨rfl, rfl⟩
theorem TEnd.res {n : Int} {T : List UInt8} {w w' : World} {e : Ending} (h : TEnd n T w e w') : ∃ u E l, e = .returned (.tuple #[u, .int .i64 E]) ∧ TRes n T E l ∧ Sl w' u l ∧ Below w.heap.size w w' := by
  obtain ⟨⟨u, E, rfl, h⟩, hb⟩ := h
  rcases h with ⟨h1, rfl, rfl⟩ | ⟨N, f, rfl, hN, P, hT, ho, rfl⟩ | ⟨N, rfl, hN, hno, rfl, rfl⟩
  · exact ⟨_, _, [], rfl, .inl ⟨h1, rfl, rfl⟩, Sl.nil' _ _, hb⟩
  · exact ⟨_, _, _, rfl, .inr (.inl ⟨N, f, rfl, hN, P, hT, rfl, rfl⟩), ho.sl (by rw [intsL_len]; simp; omega), hb⟩
  · exact ⟨_, _, [], rfl, .inr (.inr ⟨N, rfl, hN, hno, rfl, rfl⟩), Sl.nil' _ _, hb⟩
theorem Parse_res (T : List UInt8) (n : Int) (w : World) (hs : T.length ≤ 1000000000) (hL : LibW w) :
    Calls Tryd.prog 8 #[.string (str T), .int .i64 n] w fun e w' => ∃ u E l, e = .returned (.tuple #[u, .int .i64 E]) ∧ TRes n T E l ∧ Sl w' u l ∧ Below w.heap.size w w' := by
  by_cases h : n < 0 ∨ 12 < n
  · exact (Parse_far T n w h).mono fun e w' h => h.res
  · obtain ⟨N, rfl⟩ := Int.eq_ofNat_of_zero_le (show 0 ≤ n by omega)
    exact (Parse_in T N (by omega) w hs hL).mono fun e w' h => h.res
theorem OfText_res (T : List UInt8) (n : Int) (w : World) (hs : T.length ≤ 1000000000) :
    Calls Tryd.prog 9 #[.string (str T), .int .i64 n] w fun e w' => ∃ u E l, e = .returned (.tuple #[u, .int .i64 E]) ∧ TRes n T E l ∧ Sl w' u l ∧ Below w.heap.size w w' := by
  by_cases h : n < 0 ∨ 12 < n
  · exact (oftext_far T n w h).mono fun e w' h => h.res
  · obtain ⟨N, rfl⟩ := Int.eq_ofNat_of_zero_le (show 0 ≤ n by omega)
    exact (oftext_any T N (by omega) w hs).mono fun e w' h => h.res

set_option maxHeartbeats 2000000 in
theorem permTexts_walk (w : World) (hL : LibW w) (v : Value) (l : List Int) (hl : Sl w v l) (T : List UInt8) (hT : T.length ≤ 1000000000) (n : Int) :
    Calls Tryd.prog 3 #[v, .string (str T), .int .i64 n] w fun e w' => e = .returned (.bool true) ∧ Below w.heap.size w w' := by
  have H1 := hid (permfault_any v l w hl)
  have HP := hid (fun (w1 : World) (hb : Below w.heap.size w w1) => Parse_res T n w1 hT (hL.below hb))
  have HO := hid (fun (w1 : World) => OfText_res T n w1 hT)
  have HI := hid (fun (a b : Value) (x : List Int) (w1 : World) (h1 : Sl w1 a x) (h2 : Sl w1 b x) => ints_self a b x w1 h1 h2)
  by_cases hE : permE l = 0
  · have P := pm_of hE
    have H2 := hid (fun (q : Nat) => Cycles_ok v l l.length (fL l) (w.drewN q) (hl.drewN q) P hE)
    have H3 := hid (fun (w1 : World) (hb : Below w.heap.size w w1) => permtext_ok v l l.length (fL l) w1 (hl.below hb) P)
    rw [hE] at H1
    clear P hL hl hE
    generalize wrT (fL l) l.length = X at *
    have hq : ((str X).toList == (str X).toList) = true := by simp
    go_enter Tryd.func3, Tryd.ntmps3
    go_wp2_with fail
    refine H1.out.mono ?_
    rintro e w1 ⟨rfl, q, rfl⟩
    go_wp2_with fail
    refine (H2.out q).mono ?_
    rintro e w2 ⟨rfl, hb2⟩
    have HB2 := hid ((below_drewN (Below.refl _ _) q : Below w.heap.size w (w.drewN q)).trans hb2)
    clear hb2 H1 H2
    go_wp2_with fail
    refine (H3.out _ HB2.out).mono ?_
    rintro e w3 ⟨rfl, hb3⟩
    have HB3 := hid (HB2.out.trans (hb3.mono HB2.out.size))
    clear hb3 H3
    go_wp2_with fail
    refine (HP.out _ HB3.out).mono ?_
    rintro e w4 ⟨u, E, m, rfl, r1, s1, hb4⟩
    have HB4 := hid (HB3.out.trans (hb4.mono HB3.out.size))
    have HS1 := hid s1
    have HR1 := hid r1
    clear hb4 HP s1 r1
    go_wp2_with fail
    refine (HO.out w4).mono ?_
    rintro e w5 ⟨u2, E2, m2, rfl, r2, s2, hb5⟩
    obtain ⟨rfl, rfl⟩ := HR1.out.one r2
    have HB5 := hid (HB4.out.trans (hb5.mono HB4.out.size))
    have HS2 := hid (And.intro (HS1.out.below hb5) s2)
    clear hb5 HO s2 r2 HS1
    go_wp2_with fail
    refine (HI.out u u2 m w5 HS2.out.1 HS2.out.2).mono ?_
    rintro e w6 ⟨rfl, q6, rfl⟩
    have HB6 := hid (below_drewN HB5.out q6)
    go_wp2
    go_ret
    exact ⟨rfl, HB6.out⟩
  · have H2 := hid (fun (q : Nat) => Cycles_bad v l (w.drewN q) (hl.drewN q) hE)
    have hEb : (permE l == 0) = false := beq_eq_false_iff_ne.2 hE
    have hEn : ¬ permE l = 0 := hE
    clear hL hl hE
    generalize permE l = F at *
    have hz : (str [] : ByteArray) = ⟨#[]⟩ := rfl
    rw [hz] at H2
    go_enter Tryd.func3, Tryd.ntmps3
    go_wp2_with fail
    refine H1.out.mono ?_
    rintro e w1 ⟨rfl, q, rfl⟩
    go_wp2_with fail
    refine (H2.out q).mono ?_
    rintro e w2 ⟨rfl, hb2⟩
    have HB3 := hid ((below_drewN (Below.refl _ _) q : Below w.heap.size w (w.drewN q)).trans hb2)
    clear hb2 H1 H2
    go_wp2_with fail
    refine (HP.out _ HB3.out).mono ?_
    rintro e w4 ⟨u, E, m, rfl, r1, s1, hb4⟩
    have HB4 := hid (HB3.out.trans (hb4.mono HB3.out.size))
    have HS1 := hid s1
    have HR1 := hid r1
    clear hb4 HP s1 r1
    go_wp2_with fail
    refine (HO.out w4).mono ?_
    rintro e w5 ⟨u2, E2, m2, rfl, r2, s2, hb5⟩
    obtain ⟨rfl, rfl⟩ := HR1.out.one r2
    have HB5 := hid (HB4.out.trans (hb5.mono HB4.out.size))
    have HS2 := hid (And.intro (HS1.out.below hb5) s2)
    clear hb5 HO s2 r2 HS1
    go_wp2_with fail
    refine (HI.out u u2 m w5 HS2.out.1 HS2.out.2).mono ?_
    rintro e w6 ⟨rfl, q6, rfl⟩
    have HB6 := hid (below_drewN HB5.out q6)
    go_wp2
    go_ret
    exact ⟨rfl, HB6.out⟩
end Go.Proofs.YtgfdddknajeknaaDoor
