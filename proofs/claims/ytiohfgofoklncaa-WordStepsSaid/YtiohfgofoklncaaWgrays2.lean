/-
  The walk over parterrelaw4.WordGrays: for every n and x it returns true. No condition.
-/
import Derived.Test.YtiohfgofoklncaaWgrayof
import Derived.Test.YtiohfgofoklncaaWints
import Derived.Test.YtiohfgofoklncaaPlain
namespace Go.Proofs.Ytiohfgofoklncaa
open Go.RowKit

theorem mir_grays : ∀ n, n < 13 → mir n = grays (2 ^ n) := fun n h =>
  eqB_spec (allB_spec (f := fun n => eqB (mir n) (grays (2 ^ n))) (n := 13) (by decide +kernel) n h)
theorem place_gray : ∀ x, x < 4096 → gray (placeF 13 x) = x := fun x h =>
  of_decide_eq_true (allB_spec (f := fun x => decide (gray (placeF 13 x) = x)) (n := 4096) (by decide +kernel) x h)
theorem place_lt : ∀ n, n < 13 → ∀ x, x < 2 ^ n → placeF 13 x < 2 ^ n := fun n h x hx =>
  of_decide_eq_true (allB_spec (allB_spec (f := fun n => allB (fun x => decide (placeF 13 x < 2 ^ n)) (2 ^ n)) (n := 13) (by decide +kernel) n h) x hx)

theorem wordGrays_walk (w : World) (n : Int) (hn : I64 n) (x : Int) (hx : I64 x) :
    Calls Try.prog 4 #[.int .i64 n, .int .i64 x] w fun e w' => e = .returned (.bool true) ∧ Below w.heap.size w w' := by
  by_cases h : n < 0 ∨ 12 < n
  · go_enter Try.func4, Try.ntmps4
    go_wp2_with fail
    refine (gray_no n _ h).mono ?_
    rintro e w' ⟨rfl, rfl⟩
    go_wp2_with fail
    refine (grayof_no n _ h).mono ?_
    rintro e w' ⟨rfl, rfl⟩
    go_wp2_with fail
    refine (ints_any _ _ [] [] _ ((OI.nil w.heap.size _).sl (by simp)) ((OI.nil w.heap.size _).sl (by simp))).mono ?_
    rintro e w' ⟨rfl, ⟨k, rfl⟩⟩
    go_wp2_with fail
    refine (place_no n x _ (by omega)).mono ?_
    rintro e w' ⟨rfl, rfl⟩
    go_wp2
    go_ret
    exact ⟨rfl, below_drewN (Below.refl _ _) _⟩
  · obtain ⟨n, rfl⟩ : ∃ m : Nat, n = (m : Int) := ⟨n.toNat, by omega⟩
    have hn12 : n ≤ 12 := by omega
    have HM := hid (mir_grays n (by omega))
    have hp := pow_le12 hn12
    have HPL := hid (place_lt n (by omega))
    have HGL := hid (grays_len (2 ^ n))
    have hp0 : 0 < 2 ^ n := Nat.pow_pos (by decide)
    by_cases hneg : x < 0
    · 
      go_enter Try.func4, Try.ntmps4
      go_wp2_with fail
      refine (gray_yes n _ hn12).mono ?_
      rintro e w1 ⟨v, rfl, hown1, hb1⟩
      go_wp2_with fail
      refine (grayof_yes n _ hn12).mono ?_
      rintro e w2 ⟨u, rfl, hown2, hb2⟩
      rw [HM.out] at hown2
      have hbb := hb1.trans (hb2.mono hb1.size)
      have s1 := (hown1.below hb2).sl (by rw [HGL.out]; omega)
      have s2 := hown2.sl (by rw [HGL.out]; omega)
      obtain ⟨a1, c1, rfl⟩ := hown1.len
      obtain ⟨g, c2, rfl, _, _⟩ := hown2.form (by rw [HGL.out]; exact hp0)
      rw [HGL.out] at s1 s2 hown2 ⊢
      clear hown1 hown2 hb1 hb2
      go_wp2_with fail
      refine (ints_any _ _ (grays (2 ^ n)) (grays (2 ^ n)) _ s1 s2).mono ?_
      rintro e w' ⟨rfl, ⟨k, rfl⟩⟩
      go_wp2_with fail
      refine (place_no n x _ (by omega)).mono ?_
      rintro e w' ⟨rfl, rfl⟩
      go_wp2
      go_ret
      exact ⟨rfl, below_drewN hbb _⟩
    by_cases hfar : ((2 ^ n : Nat) : Int) ≤ x
    · have hlen : (2 : Int) ^ n ≤ x := by rw [← pow_cast]; exact hfar
      go_enter Try.func4, Try.ntmps4
      go_wp2_with fail
      refine (gray_yes n _ hn12).mono ?_
      rintro e w1 ⟨v, rfl, hown1, hb1⟩
      go_wp2_with fail
      refine (grayof_yes n _ hn12).mono ?_
      rintro e w2 ⟨u, rfl, hown2, hb2⟩
      rw [HM.out] at hown2
      have hbb := hb1.trans (hb2.mono hb1.size)
      have s1 := (hown1.below hb2).sl (by rw [HGL.out]; omega)
      have s2 := hown2.sl (by rw [HGL.out]; omega)
      obtain ⟨a1, c1, rfl⟩ := hown1.len
      obtain ⟨g, c2, rfl, _, _⟩ := hown2.form (by rw [HGL.out]; exact hp0)
      rw [HGL.out] at s1 s2 hown2 ⊢
      clear hown1 hown2 hb1 hb2
      go_wp2_with fail
      refine (ints_any _ _ (grays (2 ^ n)) (grays (2 ^ n)) _ s1 s2).mono ?_
      rintro e w' ⟨rfl, ⟨k, rfl⟩⟩
      go_wp2_with fail
      refine (place_far n x _ hn12 hfar).mono ?_
      rintro e w' ⟨rfl, rfl⟩
      go_wp2
      go_ret
      exact ⟨rfl, below_drewN hbb _⟩
    · obtain ⟨x, rfl⟩ : ∃ m : Nat, x = (m : Int) := ⟨x.toNat, by omega⟩
      have hxl : x < 2 ^ n := by omega
      have hlen : ¬ (2 : Int) ^ n ≤ (x : Int) := by rw [← pow_cast]; exact hfar
      have hpl := HPL.out x hxl
      have hpg := place_gray x (by omega)
      generalize hP : placeF 13 x = P at *
      have hpl2 : (P : Int) < (2 : Int) ^ n := by rw [← pow_cast]; omega
      have hpl3 : 0 ≤ (P : Int) := by omega
      have HP := hid hP
      have HGP : Hid ((grays (2 ^ n)).getD P 0 = (x : Int)) := hid (by simp [grays, hpl, hpg])
      clear hP hpg
      go_enter Try.func4, Try.ntmps4
      go_wp2_with fail
      refine (gray_yes n _ hn12).mono ?_
      rintro e w1 ⟨v, rfl, hown1, hb1⟩
      go_wp2_with fail
      refine (grayof_yes n _ hn12).mono ?_
      rintro e w2 ⟨u, rfl, hown2, hb2⟩
      rw [HM.out] at hown2
      have hbb := hb1.trans (hb2.mono hb1.size)
      have s1 := (hown1.below hb2).sl (by rw [HGL.out]; omega)
      have s2 := hown2.sl (by rw [HGL.out]; omega)
      obtain ⟨a1, c1, rfl⟩ := hown1.len
      obtain ⟨g, c2, rfl, _, _⟩ := hown2.form (by rw [HGL.out]; exact hp0)
      rw [HGL.out] at s1 s2 hown2 ⊢
      have hcell := hown2.cell P (by rw [HGL.out]; exact hpl)
      rw [HGP.out] at hcell
      clear hown1 hown2 hb1 hb2
      go_wp2_with fail
      refine (ints_any _ _ (grays (2 ^ n)) (grays (2 ^ n)) _ s1 s2).mono ?_
      rintro e w' ⟨rfl, ⟨k, rfl⟩⟩
      go_wp2_with fail
      refine (place_yes n x _ hn12 hxl).mono ?_
      rintro e w' ⟨rfl, rfl⟩
      rw [HP.out]
      go_wp2
      go_ret
      exact ⟨rfl, below_drewN hbb _⟩
end Go.Proofs.Ytiohfgofoklncaa
