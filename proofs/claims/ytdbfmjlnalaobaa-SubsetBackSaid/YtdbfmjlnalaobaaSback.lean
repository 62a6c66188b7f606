/-
  The walk over the law SubsetBack. Condition: the slice can be read.
-/
import Derived.Test.YtdbfmjlnalaobaaSfact
import Derived.Test.YtdbfmjlnalaobaaSunr
namespace Go.Proofs.Ytdbfmjlnalaobaa
set_option linter.unusedVariables false
open Go.RowKit

theorem subsetBack_walk (w : World) (v : Value) (l : List Int) (hl : Sl w v l) (hb : ∀ x ∈ l, I64 x) :
    Calls Try.prog 6 #[v] w fun e w' => e = .returned (.bool true) ∧ Below w.heap.size w w' := by
  have HFA := hid (fact_any w)
  by_cases hz : rankE l = 0
  · have R := rk_of hz
    have HR := hid (fun w1 (h : Below w.heap.size w w1) => Rank_ok v l w1 (hl.below h) hb hz)
    have hin := rk_in R
    have hlen := R.len
    have hbk := rk_back R
    have hrb := rkS_bd R l.length (Nat.le_refl _)
    have HU : Hid (∀ w1, Calls Try.prog 23 #[.int .i64 l.length, .int .i64 (rkS l l.length : Nat)] w1 fun e w' => (∃ u, e = .returned (.tuple #[u, .int .i64 0]) ∧ OI w1.heap.size w' u l) ∧ Below w1.heap.size w1 w') := hid (fun w1 => by
      refine (Unrank_any (l.length : Int) ((rkS l l.length : Nat) : Int) w1 (by unfold I64; omega) (by unfold I64; omega)).mono ?_
      rintro e w' ⟨⟨h, _⟩ | ⟨_, u, rfl, hu⟩, hb⟩
      · unfold UB at h
        rw [Int.toNat_natCast] at h
        omega
      · rw [Int.toNat_natCast, Int.toNat_natCast, hbk] at hu
        exact ⟨⟨_, rfl, hu⟩, hb⟩)
    have HSL := hid (fun w1 (h : Below w.heap.size w w1) => hl.below h)
    obtain ⟨a, c, N, hv, hN, hl1, hl2⟩ := hl.open
    clear hl2 hl hb hz R hin hbk
    generalize rkS l l.length = rk at *
    rw [hN.out] at HU hlen
    subst hv
    go_enter Try.func6, Try.ntmps6
    go_wp2_with fail
    refine HFA.out.mono ?_
    rintro e w1 ⟨rfl, hb1⟩
    have B1 := hid hb1
    clear hb1
    go_wp2_with fail
    refine (HR.out _ B1.out).mono ?_
    rintro e w2 ⟨rfl, n2, rfl⟩
    have B2 := hid (below_drewN B1.out n2)
    go_wp2_with fail
    refine (HU.out _).mono ?_
    rintro e w3 ⟨⟨r, rfl, hr⟩, hb3⟩
    have B3 := hid (B2.out.trans (hb3.mono B2.out.size))
    have R3 := hid hr
    clear hb3 hr
    go_wp2_with fail
    refine (ints_any _ _ l l _ (HSL.out _ B3.out) (R3.out.sl (by rw [hN.out]; omega))).mono ?_
    rintro e w4 ⟨rfl, n4, rfl⟩
    have hd : decide (l = l) = true := by simp
    go_wp2
    go_ret
    exact ⟨rfl, below_drewN B3.out _⟩
  · have HR := hid (fun w1 (h : Below w.heap.size w w1) => Rank_bad v l w1 (hl.below h) hb hz)
    have qz1 : (rankE l != 0) = true := by simpa using hz
    clear hl hb hz
    generalize rankE l = z at *
    go_enter Try.func6, Try.ntmps6
    go_wp2_with fail
    refine HFA.out.mono ?_
    rintro e w1 ⟨rfl, hb1⟩
    have B1 := hid hb1
    clear hb1
    go_wp2_with fail
    refine (HR.out _ B1.out).mono ?_
    rintro e w2 ⟨rfl, n2, rfl⟩
    go_wp2
    go_ret
    exact ⟨rfl, below_drewN B1.out _⟩
end Go.Proofs.Ytdbfmjlnalaobaa
