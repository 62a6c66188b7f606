/-
  The walk over the law PermPowers. Conditions: the slice can be read.
-/
import Derived.Test.YtgfdddknajeknaaPpow2
import Derived.Test.YtgfdddknajeknaaPofr
namespace Go.Proofs.Ytgfdddknajeknaa
set_option linter.unusedVariables false
open Go.RowKit

/-- Both ways to turn a rank back, side by side. -/
theorem unrank_any (n k : Int) : ∃ (z : Int) (R : List Int), R.length ≤ 12 ∧ (z = 0 ∨ R = []) ∧ (∀ w, Calls Try.prog 27 #[.int .i64 n, .int .i64 k] w fun e w' => (∃ u, e = .returned (.tuple #[u, .int .i64 z]) ∧ OI w.heap.size w' u R) ∧ Below w.heap.size w w') ∧
    ∀ w, Calls Try.prog 28 #[.int .i64 n, .int .i64 k] w fun e w' => (∃ u, e = .returned (.tuple #[u, .int .i64 z]) ∧ OI w.heap.size w' u R) ∧ Below w.heap.size w w' := by
  by_cases h : n < 0 ∨ 12 < n
  · refine ⟨1, [], by simp, .inr rfl, fun w => (Unrank_far n k w h).mono ?_, fun w => (OfRank_far n k w h).mono ?_⟩ <;>
    · rintro e w' ⟨rfl, hb⟩
      exact ⟨⟨_, rfl, OI.nil _ _⟩, hb⟩
  · obtain ⟨m, rfl⟩ : ∃ m : Nat, n = (m : Int) := ⟨n.toNat, by omega⟩
    by_cases hk : k < 0 ∨ (fac m : Int) ≤ k
    · refine ⟨1, [], by simp, .inr rfl, fun w => (Unrank_ok m k w (by omega)).mono ?_, fun w => (OfRank_ok m k w (by omega)).mono ?_⟩ <;>
      · rintro e w' ⟨⟨_, rfl⟩ | ⟨h2, _⟩, hb⟩
        · exact ⟨⟨_, rfl, OI.nil _ _⟩, hb⟩
        · exact absurd hk h2
    · refine ⟨0, intsL (outL m k.toNat m), by rw [intsL_len, out_len]; omega, .inl rfl, fun w => (Unrank_ok m k w (by omega)).mono ?_, fun w => (OfRank_ok m k w (by omega)).mono ?_⟩ <;>
      · rintro e w' ⟨⟨h2, _⟩ | ⟨_, u, rfl, hu⟩, hb⟩
        · exact absurd h2 hk
        · exact ⟨⟨_, rfl, hu⟩, hb⟩

theorem permPowers_walk (w : World) (v : Value) (l : List Int) (hl : Sl w v l) (_ : ∀ x ∈ l, I64 x) (n : Int) (_ : I64 n) (m : Int) (_ : I64 m) (k : Int) (_ : I64 k) :
    Calls Try.prog 6 #[v, .int .i64 n, .int .i64 m, .int .i64 k] w fun e w' => e = .returned (.bool true) ∧ Below w.heap.size w w' := by
  obtain ⟨z, R, hRL, hz0, hU, hO⟩ := unrank_any m k
  have HUN := hid hU
  have HOF := hid hO
  have HRL : Hid (R.length ≤ 17592186044416) := hid (by omega)
  have ezz : (z == z) = true := by simp
  clear hU hO hRL hz0
  have HF := hid (permfault_any v l w hl)
  have B0 := hid (Below.refl w.heap.size w)
  by_cases hz : permE l = 0
  · rw [hz] at HF
    by_cases hn : n < -4611686018427387904 ∨ 4611686018427387904 < n
    · have HP := hid (fun w1 (h : Below w.heap.size w w1) => Power_far v l n w1 (hl.below h) hz hn)
      clear hz hl
      go_enter Try.func6, Try.ntmps6
      go_wp2_with fail
      refine HF.out.mono ?_
      rintro e w1 ⟨rfl, n1, rfl⟩
      have B1 := hid (below_drewN B0.out n1)
      rcases hn with hn | hn
      all_goals
        go_wp2_with fail
        refine (HP.out _ B1.out).mono ?_
        rintro e w2 ⟨rfl, hb2⟩
        have BX := hid (B1.out.trans (hb2.mono B1.out.size))
        clear hb2
        go_wp2_with fail
        refine (HUN.out _).mono ?_
        rintro e wa ⟨⟨ra, rfl, hra⟩, hba⟩
        have BA := hid (BX.out.trans (hba.mono BX.out.size))
        have RA := hid hra
        clear hba hra
        go_wp2_with fail
        refine (HOF.out _).mono ?_
        rintro e wb ⟨⟨rb, rfl, hrb⟩, hbb⟩
        have BB := hid (BA.out.trans (hbb.mono BA.out.size))
        have RA2 := hid (RA.out.below hbb)
        have RB := hid hrb
        clear hbb hrb
        go_wp2_with fail
        refine (ints_any _ _ R R _ (RA2.out.sl HRL.out) (RB.out.sl HRL.out)).mono ?_
        rintro e wc ⟨rfl, nc, rfl⟩
        have hd : decide (R = R) = true := by simp
        go_wp2
        go_ret
        exact ⟨rfl, below_drewN BB.out _⟩
    · have P := pm_of hz
      have hn' := not_or.1 hn
      have hn1 : ¬ n < -4611686018427387904 := hn'.1
      have hn2 : ¬ 4611686018427387904 < n := hn'.2
      have HP := hid (fun w1 (h : Below w.heap.size w w1) => Power_ok v l l.length (fL l) n w1 (hl.below h) P hz hn)
      have HQ := hid (fun w1 (h : Below w.heap.size w w1) => permpower_ok v l l.length (fL l) n w1 (hl.below h) P hn)
      have HPL := hid (by rw [pow_len]; have := P.n12; omega : (powL (fL l) l.length (powT n (ordN (fL l) l.length))).length ≤ 17592186044416)
      clear hz hl hn hn' P
      generalize powL (fL l) l.length (powT n (ordN (fL l) l.length)) = pw at *
      go_enter Try.func6, Try.ntmps6
      go_wp2_with fail
      refine HF.out.mono ?_
      rintro e w1 ⟨rfl, n1, rfl⟩
      have B1 := hid (below_drewN B0.out n1)
      go_wp2_with fail
      refine (HP.out _ B1.out).mono ?_
      rintro e w2 ⟨⟨r2, rfl, hr2⟩, hb2⟩
      have B2 := hid (B1.out.trans (hb2.mono B1.out.size))
      have R2 := hid hr2
      clear hb2 hr2
      go_wp2_with fail
      refine (HQ.out _ B2.out).mono ?_
      rintro e w3 ⟨⟨r3, rfl, hr3⟩, hb3⟩
      have B3 := hid (B2.out.trans (hb3.mono B2.out.size))
      have R3 := hid (R2.out.below hb3)
      have S3 := hid hr3
      clear hb3 hr3
      go_wp2_with fail
      refine (ints_any _ _ pw pw _ (R3.out.sl HPL.out) (S3.out.sl HPL.out)).mono ?_
      rintro e w8 ⟨rfl, n8, rfl⟩
      have hdp : decide (pw = pw) = true := by simp
      have BX := hid (below_drewN B3.out n8)
      go_wp2_with fail
      refine (HUN.out _).mono ?_
      rintro e wa ⟨⟨ra, rfl, hra⟩, hba⟩
      have BA := hid (BX.out.trans (hba.mono BX.out.size))
      have RA := hid hra
      clear hba hra
      go_wp2_with fail
      refine (HOF.out _).mono ?_
      rintro e wb ⟨⟨rb, rfl, hrb⟩, hbb⟩
      have BB := hid (BA.out.trans (hbb.mono BA.out.size))
      have RA2 := hid (RA.out.below hbb)
      have RB := hid hrb
      clear hbb hrb
      go_wp2_with fail
      refine (ints_any _ _ R R _ (RA2.out.sl HRL.out) (RB.out.sl HRL.out)).mono ?_
      rintro e wc ⟨rfl, nc, rfl⟩
      have hd : decide (R = R) = true := by simp
      go_wp2
      go_ret
      exact ⟨rfl, below_drewN BB.out _⟩
  · have HP := hid (fun w1 (h : Below w.heap.size w w1) => Power_bad v l n w1 (hl.below h) hz)
    have qz0 : (permE l == 0) = false := by simpa using hz
    have qzz : (permE l != permE l) = false := by simp
    clear hl hz
    generalize permE l = y at *
    go_enter Try.func6, Try.ntmps6
    go_wp2_with fail
    refine HF.out.mono ?_
    rintro e w1 ⟨rfl, n1, rfl⟩
    have B1 := hid (below_drewN B0.out n1)
    go_wp2_with fail
    refine (HP.out _ B1.out).mono ?_
    rintro e w2 ⟨rfl, hb2⟩
    have BX := hid (B1.out.trans (hb2.mono B1.out.size))
    clear hb2
    go_wp2_with fail
    refine (HUN.out _).mono ?_
    rintro e wa ⟨⟨ra, rfl, hra⟩, hba⟩
    have BA := hid (BX.out.trans (hba.mono BX.out.size))
    have RA := hid hra
    clear hba hra
    go_wp2_with fail
    refine (HOF.out _).mono ?_
    rintro e wb ⟨⟨rb, rfl, hrb⟩, hbb⟩
    have BB := hid (BA.out.trans (hbb.mono BA.out.size))
    have RA2 := hid (RA.out.below hbb)
    have RB := hid hrb
    clear hbb hrb
    go_wp2_with fail
    refine (ints_any _ _ R R _ (RA2.out.sl HRL.out) (RB.out.sl HRL.out)).mono ?_
    rintro e wc ⟨rfl, nc, rfl⟩
    have hd : decide (R = R) = true := by simp
    go_wp2
    go_ret
    exact ⟨rfl, below_drewN BB.out _⟩
end Go.Proofs.Ytgfdddknajeknaa
