/-
  The walks over field.Add and field.Mul. Conditions: the slice can be read; the numbers are of 64 bits; the primes are laid.
-/
import Derived.Test.YthdlhfgeminoiaaDoorFok
namespace Go.Proofs.YthdlhfgeminoiaaDoor
set_option linter.unusedVariables false
open Go.RowKit

/-- A sum, or 0 and what is wrong. -/
def addR (p k : Int) (low : List Int) (x y : Int) : Int := if wiE p k low [x, y] = 0 then (addF p.toNat k.toNat x.toNat y.toNat : Nat) else 0
theorem ordF_I (p k : Int) : ordF p k ≤ 64 := by unfold ordF; split <;> omega

set_option maxHeartbeats 1000000 in
set_option maxRecDepth 100000 in
theorem Add_any (p k x y : Int) (u : Value) (low : List Int) (w : World) (ip : I64 p) (ik : I64 k) (ix : I64 x) (iy : I64 y) (hp : Prs w) (hu : Sl w u low) (hi64 : ∀ x ∈ low, I64 x) :
    Calls Tryd.prog 15 #[fldV p k u, .int .i64 x, .int .i64 y] w fun e w' => e = .returned (.tuple #[.int .i64 (addR p k low x y), .int .i64 (wiE p k low [x, y])]) ∧ Below w.heap.size w w' := by
  have hb0 := ((Below.refl w.heap.size w).alloc (Nat.le_refl _) (.cells #[.int .i64 p, .int .i64 k, u] 24)).alloc (by simp) (.cells #[.int .i64 x, .int .i64 y] 3)
  have hsl := (OI.lit2 0 (w.alloc (.cells #[.int .i64 p, .int .i64 k, u] 24)) x y (by omega)).sl (by simp)
  have HC := hid (with_any p k u _ low [x, y] _ ip ik (hp.below hb0) (hu.below hb0) hi64 hsl (by intro z hz; simp at hz; rcases hz with rfl | rfl <;> assumption))
  have HS := hid hb0
  have i4 : (Tryd.prog.info? 57).map (·.size) = some 4 := by kernel_rfl
  rw [World.size_alloc] at HC
  clear hb0 hsl
  obtain ⟨a, c, e1⟩ := hu.len
  subst e1
  have hlenI : low.length ≤ 17592186044416 := by obtain ⟨_, _, _, h, _⟩ := hu.out; omega
  by_cases hz : wiE p k low [x, y] = 0
  · obtain ⟨hf, hes⟩ := wi_ok hz
    obtain ⟨P, K, n, rfl, rfl, rfl, hF⟩ := fa_ok hf
    have hx := hes x (by simp)
    have hy := hes y (by simp)
    rw [hF.ord] at hx hy
    obtain ⟨X, rfl⟩ := Int.eq_ofNat_of_zero_le hx.1
    obtain ⟨Y, rfl⟩ := Int.eq_ofNat_of_zero_le hy.1
    have hQ64 := hF.q64
    have hx64 : X < 64 := by omega
    have hy64 : Y < 64 := by omega
    rw [show addR (P : Int) (K : Int) (nZ (dgL P n K)) X Y = (addF P K X Y : Nat) by rw [addR, if_pos hz]; simp]
    rw [hz] at HC ⊢
    unfold opR rmV fldV at HC
    rw [if_pos rfl] at HC
    have HADD := hid (fun (w1 : World) => add_ok P K (ordF (P : Int) (K : Int)) X Y (.slice a (nZ (dgL P n K)).length c) w1 ⟨_, _, _, rfl⟩ hF.p2 (by have := hF.p61; omega) hF.k1 hF.k6 hF.q64 hx64 hy64)
    unfold rmV at HADD
    clear hx hy hes hf hz hF hu hp
    generalize (nZ (dgL P n K)).length = L at *
    generalize ordF (P : Int) (K : Int) = Q at *
    generalize addF P K X Y = R at *
    unfold fldV
    go_enter Tryd.func15, Tryd.ntmps15
    go_wp2_with fail
    refine HC.out.mono ?_
    rintro e w2 ⟨rfl, hb2⟩
    have hB2 := HS.out.trans (hb2.mono HS.out.size)
    have hB3 := hB2.alloc hB2.size (.cells #[.int .i64 (P : Int), .int .i64 (K : Int), .slice a L c, .int .i64 (Q : Int)] 57)
    have r3 := (Arr.new w2 57 [.int .i64 (P : Int), .int .i64 (K : Int), .slice a L c, .int .i64 (Q : Int)]).range
    have HB := hid hB3
    clear hb2 hB2 HS HC hB3
    go_wp2_with (refine wpList_load_mid rfl 57 _ rfl w2.heap.size 0 rfl [.int .i64 (P : Int), .int .i64 (K : Int), .slice a L c, .int .i64 (Q : Int)] _ r3 Tryd.underlying57 rfl i4 ?_)
    refine (HADD.out _).mono ?_
    rintro e w4 ⟨rfl, hb4⟩
    have HB4 := hid (HB.out.trans (hb4.mono HB.out.size))
    go_wp2
    go_ret2
    exact ⟨rfl, HB4.out⟩
  · rw [show addR p k low x y = 0 from if_neg hz]
    unfold opR rm0 rmV fldV at HC
    rw [if_neg hz] at HC
    have hne : (wiE p k low [x, y] != 0) = true := by simpa using hz
    generalize wiE p k low [x, y] = E at *
    generalize low.length = L at *
    clear hu hp hz
    unfold fldV
    go_enter Tryd.func15, Tryd.ntmps15
    go_wp2_with fail
    refine HC.out.mono ?_
    rintro e w2 ⟨rfl, hb2⟩
    have hB2 := HS.out.trans (hb2.mono HS.out.size)
    have HB := hid (hB2.alloc hB2.size (.cells #[.int .i64 0, .int .i64 0, .slice none 0 0, .int .i64 0] 57))
    clear hb2 hB2 HS HC
    go_wp2
    go_ret2
    exact ⟨rfl, HB.out⟩
/-- A product, or 0 and what is wrong. -/
def mulR (p k : Int) (low : List Int) (x y : Int) : Int := if wiE p k low [x, y] = 0 then (mulF p.toNat k.toNat (toN low) x.toNat y.toNat : Nat) else 0
set_option maxHeartbeats 1000000 in
set_option maxRecDepth 100000 in
theorem Mul_any (p k x y : Int) (u : Value) (low : List Int) (w : World) (ip : I64 p) (ik : I64 k) (ix : I64 x) (iy : I64 y) (hp : Prs w) (hu : Sl w u low) (hi64 : ∀ x ∈ low, I64 x) :
    Calls Tryd.prog 16 #[fldV p k u, .int .i64 x, .int .i64 y] w fun e w' => e = .returned (.tuple #[.int .i64 (mulR p k low x y), .int .i64 (wiE p k low [x, y])]) ∧ Below w.heap.size w w' := by
  have hb0 := ((Below.refl w.heap.size w).alloc (Nat.le_refl _) (.cells #[.int .i64 p, .int .i64 k, u] 24)).alloc (by simp) (.cells #[.int .i64 x, .int .i64 y] 3)
  have hsl := (OI.lit2 0 (w.alloc (.cells #[.int .i64 p, .int .i64 k, u] 24)) x y (by omega)).sl (by simp)
  have HC := hid (with_any p k u _ low [x, y] _ ip ik (hp.below hb0) (hu.below hb0) hi64 hsl (by intro z hz; simp at hz; rcases hz with rfl | rfl <;> assumption))
  have HS := hid hb0
  have i4 : (Tryd.prog.info? 57).map (·.size) = some 4 := by kernel_rfl
  rw [World.size_alloc] at HC
  clear hb0 hsl
  obtain ⟨a, c, e1⟩ := hu.len
  subst e1
  have hlenI : low.length ≤ 17592186044416 := by obtain ⟨_, _, _, h, _⟩ := hu.out; omega
  by_cases hz : wiE p k low [x, y] = 0
  · obtain ⟨hf, hes⟩ := wi_ok hz
    obtain ⟨P, K, n, rfl, rfl, rfl, hF⟩ := fa_ok hf
    have hx := hes x (by simp)
    have hy := hes y (by simp)
    rw [hF.ord] at hx hy
    obtain ⟨X, rfl⟩ := Int.eq_ofNat_of_zero_le hx.1
    obtain ⟨Y, rfl⟩ := Int.eq_ofNat_of_zero_le hy.1
    have hQ64 := hF.q64
    have hx64 : X < 64 := by omega
    have hy64 : Y < 64 := by omega
    rw [show mulR (P : Int) (K : Int) (nZ (dgL P n K)) X Y = (mulF P K (dgL P n K) X Y : Nat) by rw [mulR, if_pos hz, toN_of]; simp]
    rw [hz] at HC ⊢
    unfold opR rmV fldV at HC
    rw [if_pos rfl] at HC
    have HADD := hid (fun (w1 : World) (hb : Below w.heap.size w w1) => mul_ok P K (ordF (P : Int) (K : Int)) X Y (.slice a (nZ (dgL P n K)).length c) (dgL P n K) w1 (hu.below hb) hF.p2 (by have := hF.p61; omega) hF.k1 hF.k6 hF.q64 (dgL_len _ _ _) (dgL_lt hF.p2 _) hx64 hy64)
    unfold rmV at HADD
    clear hx hy hes hf hz hF hu hp
    generalize (nZ (dgL P n K)).length = L at *
    generalize ordF (P : Int) (K : Int) = Q at *
    generalize mulF P K (dgL P n K) X Y = R at *
    unfold fldV
    go_enter Tryd.func16, Tryd.ntmps16
    go_wp2_with fail
    refine HC.out.mono ?_
    rintro e w2 ⟨rfl, hb2⟩
    have hB2 := HS.out.trans (hb2.mono HS.out.size)
    have hB3 := hB2.alloc hB2.size (.cells #[.int .i64 (P : Int), .int .i64 (K : Int), .slice a L c, .int .i64 (Q : Int)] 57)
    have r3 := (Arr.new w2 57 [.int .i64 (P : Int), .int .i64 (K : Int), .slice a L c, .int .i64 (Q : Int)]).range
    have HB := hid hB3
    clear hb2 hB2 HS HC hB3
    go_wp2_with (refine wpList_load_mid rfl 57 _ rfl w2.heap.size 0 rfl [.int .i64 (P : Int), .int .i64 (K : Int), .slice a L c, .int .i64 (Q : Int)] _ r3 Tryd.underlying57 rfl i4 ?_)
    refine (HADD.out _ HB.out).mono ?_
    rintro e w4 ⟨rfl, hb4⟩
    have HB4 := hid (HB.out.trans (hb4.mono HB.out.size))
    go_wp2
    go_ret2
    exact ⟨rfl, HB4.out⟩
  · rw [show mulR p k low x y = 0 from if_neg hz]
    unfold opR rm0 rmV fldV at HC
    rw [if_neg hz] at HC
    have hne : (wiE p k low [x, y] != 0) = true := by simpa using hz
    generalize wiE p k low [x, y] = E at *
    generalize low.length = L at *
    clear hu hp hz
    unfold fldV
    go_enter Tryd.func16, Tryd.ntmps16
    go_wp2_with fail
    refine HC.out.mono ?_
    rintro e w2 ⟨rfl, hb2⟩
    have hB2 := HS.out.trans (hb2.mono HS.out.size)
    have HB := hid (hB2.alloc hB2.size (.cells #[.int .i64 0, .int .i64 0, .slice none 0 0, .int .i64 0] 57))
    clear hb2 hB2 HS HC
    go_wp2
    go_ret2
    exact ⟨rfl, HB.out⟩
end Go.Proofs.YthdlhfgeminoiaaDoor
