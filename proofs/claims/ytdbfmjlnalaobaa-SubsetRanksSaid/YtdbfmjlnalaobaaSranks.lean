/-
  The walk over the law SubsetRanks. Condition: the slice can be read.
-/
import Derived.Test.YtdbfmjlnalaobaaSunr
import Derived.Test.YtdbfmjlnalaobaaWints
namespace Go.Proofs.Ytdbfmjlnalaobaa
set_option linter.unusedVariables false
open Go.RowKit

/-- Both ways to turn a rank back, side by side. -/
theorem unb_any (k r : Int) (ik : I64 k) (ir : I64 r) : ∃ (z : Int) (R : List Int), R.length ≤ 30 ∧ (∀ w, Calls Try.prog 23 #[.int .i64 k, .int .i64 r] w fun e w' => (∃ u, e = .returned (.tuple #[u, .int .i64 z]) ∧ OI w.heap.size w' u R) ∧ Below w.heap.size w w') ∧
    ∀ w, Calls Try.prog 24 #[.int .i64 k, .int .i64 r] w fun e w' => (∃ u, e = .returned (.tuple #[u, .int .i64 z]) ∧ OI w.heap.size w' u R) ∧ Below w.heap.size w w' := by
  by_cases h : UB k r
  · refine ⟨1, [], by simp, fun w => (Unrank_any k r w ik ir).mono ?_, fun w => (UnrankOf_any k r w ik ir).mono ?_⟩ <;>
    · rintro e w' ⟨⟨_, rfl⟩ | ⟨h2, _⟩, hb⟩
      · exact ⟨⟨_, rfl, OI.nil _ _⟩, hb⟩
      · exact absurd h h2
  · refine ⟨0, unbL k.toNat r.toNat k.toNat, by rw [unb_len]; unfold UB at h; omega, fun w => (Unrank_any k r w ik ir).mono ?_, fun w => (UnrankOf_any k r w ik ir).mono ?_⟩ <;>
    · rintro e w' ⟨⟨h2, _⟩ | ⟨_, u, rfl, hu⟩, hb⟩
      · exact absurd h2 h
      · exact ⟨⟨_, rfl, hu⟩, hb⟩

theorem subsetRanks_walk (w : World) (v : Value) (l : List Int) (hl : Sl w v l) (hb : ∀ x ∈ l, I64 x) (k : Int) (ik : I64 k) (r : Int) (ir : I64 r) :
    Calls Try.prog 4 #[v, .int .i64 k, .int .i64 r] w fun e w' => e = .returned (.bool true) ∧ Below w.heap.size w w' := by
  obtain ⟨z, R, hRL, hU, hO⟩ := unb_any k r ik ir
  have HUN := hid hU
  have HOF := hid hO
  have HRL : Hid (R.length ≤ 17592186044416) := hid (by omega)
  have ezz : (z == z) = true := by simp
  clear hU hO hRL
  have HF := hid (rankfault_any v l w hl)
  have B0 := hid (Below.refl w.heap.size w)
  by_cases hz : rankE l = 0
  · rw [hz] at HF
    have HR := hid (fun n => Rank_ok v l (w.drewN n) (hl.drewN n) hb hz)
    have HRO := hid (fun n => RankOf_ok v l (w.drewN n) (hl.drewN n) hz)
    clear hz hl hb
    generalize ((rkS l l.length : Nat) : Int) = s at *
    have e3 : (s != s) = false := by simp
    go_enter Try.func4, Try.ntmps4
    go_wp2_with fail
    refine HF.out.mono ?_
    rintro e w1 ⟨rfl, n1, rfl⟩
    go_wp2_with fail
    refine (HR.out n1).mono ?_
    rintro e w2 ⟨rfl, n2, rfl⟩
    go_wp2_with fail
    refine (HRO.out (n1 + n2)).mono ?_
    rintro e w3 ⟨rfl, hb3⟩
    have BX := hid ((below_drewN B0.out (n1 + n2)).trans hb3)
    clear hb3
    go_wp2_with fail
    refine (HUN.out _).mono ?_
    rintro e wa ⟨⟨ra, rfl, hra⟩, hba⟩
    have BA := hid (BX.out.trans (hba.mono BX.out.size))
    have RA := hid hra
    clear hba hra
    go_wp2_with fail
    refine (HOF.out _).mono ?_
    rintro e wb ⟨⟨rb, rfl, hrb⟩, hbb⟩
    have BB := hid (BA.out.trans (hbb.mono BA.out.size))
    have RA2 := hid (RA.out.below hbb)
    have RB := hid hrb
    clear hbb hrb
    go_wp2_with fail
    refine (ints_any _ _ R R _ (RA2.out.sl HRL.out) (RB.out.sl HRL.out)).mono ?_
    rintro e wc ⟨rfl, nc, rfl⟩
    have hd : decide (R = R) = true := by simp
    go_wp2
    go_ret
    exact ⟨rfl, below_drewN BB.out _⟩
  · have HR := hid (fun n => Rank_bad v l (w.drewN n) (hl.drewN n) hb hz)
    have qz0 : (rankE l == 0) = false := by simpa using hz
    have qzz : (rankE l != rankE l) = false := by simp
    clear hl hz hb
    generalize rankE l = y at *
    go_enter Try.func4, Try.ntmps4
    go_wp2_with fail
    refine HF.out.mono ?_
    rintro e w1 ⟨rfl, n1, rfl⟩
    go_wp2_with fail
    refine (HR.out n1).mono ?_
    rintro e w2 ⟨rfl, n2, rfl⟩
    have BX := hid (below_drewN B0.out (n1 + n2))
    go_wp2_with fail
    refine (HUN.out _).mono ?_
    rintro e wa ⟨⟨ra, rfl, hra⟩, hba⟩
    have BA := hid (BX.out.trans (hba.mono BX.out.size))
    have RA := hid hra
    clear hba hra
    go_wp2_with fail
    refine (HOF.out _).mono ?_
    rintro e wb ⟨⟨rb, rfl, hrb⟩, hbb⟩
    have BB := hid (BA.out.trans (hbb.mono BA.out.size))
    have RA2 := hid (RA.out.below hbb)
    have RB := hid hrb
    clear hbb hrb
    go_wp2_with fail
    refine (ints_any _ _ R R _ (RA2.out.sl HRL.out) (RB.out.sl HRL.out)).mono ?_
    rintro e wc ⟨rfl, nc, rfl⟩
    have hd : decide (R = R) = true := by simp
    go_wp2
    go_ret
    exact ⟨rfl, below_drewN BB.out _⟩
end Go.Proofs.Ytdbfmjlnalaobaa
