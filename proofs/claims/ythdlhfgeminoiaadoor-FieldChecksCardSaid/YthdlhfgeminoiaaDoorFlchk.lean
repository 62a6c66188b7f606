/-
  The walk over parterrelaw1.FieldChecks. Conditions: the numbers are of 64 bits; the primes are laid; the slice can be read.
-/
import Derived.Test.YthdlhfgeminoiaaDoorFsq
namespace Go.Proofs.YthdlhfgeminoiaaDoor
set_option linter.unusedVariables false
open Go.RowKit

set_option maxHeartbeats 4000000 in
set_option maxRecDepth 100000 in
theorem fieldChecks_walk (w : World) (hp : Prs w) (p k : Int) (ip : I64 p) (ik : I64 k) (u : Value) (low : List Int) (hu : Sl w u low) (hi64 : ∀ x ∈ low, I64 x) :
    Calls Tryd.prog 5 #[fldV p k u] w fun e w' => e = .returned (.bool true) ∧ Below w.heap.size w w' := by
  obtain ⟨ax, cx, e1⟩ := hu.len
  subst e1
  have HW0 := hid (And.intro (Arr.new w 24 [.int .i64 p, .int .i64 k, .slice ax low.length cx]) ((Below.refl w.heap.size w).alloc (Nat.le_refl _) (.cells #[.int .i64 p, .int .i64 k, .slice ax low.length cx] 24)))
  have r0 := HW0.out.1.range
  have i3 : (Tryd.prog.info? 24).map (·.size) = some 3 := by kernel_rfl
  have HF := hid (fun w1 (hb : Below w.heap.size w w1) => Fault_any p k (.slice ax low.length cx) low w1 ip ik (hu.below hb) hi64)
  have HC := hid (fun w1 (hb : Below w.heap.size w w1) => Check_any p k (.slice ax low.length cx) low w1 ip ik (hp.below hb) (hu.below hb) hi64)
  unfold fldV at HF HC
  by_cases h0 : faE p k low = 0
  · obtain ⟨P, K, n, hpe, hke, hle, hF⟩ := fa_ok h0
    obtain ⟨⟨E, L, hX⟩, _⟩ := hF.fx
    obtain ⟨o, r, lg, hR⟩ := hX.fr hF.fb
    have HR := hid (fun w1 (hb : Below w.heap.size w w1) => Root_ok (u := .slice ax low.length cx) hF (hp.below hb) (by rw [← hle]; exact hu.below hb) hX hR)
    have HS := hid (fun w1 (hb : Below w.heap.size w w1) => Squares_ok (u := .slice ax low.length cx) hF (hp.below hb) (by rw [← hle]; exact hu.below hb) hX)
    have HRo := hid (fun w1 (hb : Below w.heap.size w w1) => RootOf_ok (u := .slice ax low.length cx) hF (by rw [← hle]; exact hu.below hb) hX hR)
    have HSo := hid (fun w1 (hb : Below w.heap.size w w1) => SquaresOf_ok (u := .slice ax low.length cx) hF (by rw [← hle]; exact hu.below hb) hX)
    have hsl := outS_len (sqU P K (dgL P n K) (P ^ K - 1)) 64
    rw [h0] at HF HC
    unfold fldV at HR HS HRo HSo
    rw [← hpe, ← hke] at HR HS HRo HSo
    generalize outS (sqU P K (dgL P n K) (P ^ K - 1)) 64 = S at *
    clear hu hp hi64 h0 hX hR hF hpe hke hle
    generalize low.length = N at *
    unfold fldV
    go_enter Tryd.func5, Tryd.ntmps5
    go_wp2_with (refine wpList_load_mid rfl 24 _ rfl w.heap.size 0 rfl [.int .i64 p, .int .i64 k, .slice ax N cx] _ r0 Tryd.underlying24 rfl i3 ?_)
    refine (HF.out _ HW0.out.2).mono ?_
    rintro e w1 ⟨rfl, hb1⟩
    have HW1 := hid (And.intro (HW0.out.1.below hb1) (HW0.out.2.trans (hb1.mono HW0.out.2.size)))
    have r1 := HW1.out.1.range
    clear hb1 r0 HW0 HF
    go_wp2_with (refine wpList_load_mid rfl 24 _ rfl w.heap.size 0 rfl [.int .i64 p, .int .i64 k, .slice ax N cx] _ r1 Tryd.underlying24 rfl i3 ?_)
    refine (HC.out _ HW1.out.2).mono ?_
    rintro e w2 ⟨rfl, hb2⟩
    have HW2 := hid (And.intro (HW1.out.1.below hb2) (HW1.out.2.trans (hb2.mono HW1.out.2.size)))
    have r2 := HW2.out.1.range
    clear hb2 r1 HW1 HC
    go_wp2_with (refine wpList_load_mid rfl 24 _ rfl w.heap.size 0 rfl [.int .i64 p, .int .i64 k, .slice ax N cx] _ r2 Tryd.underlying24 rfl i3 ?_)
    refine (HR.out _ HW2.out.2).mono ?_
    rintro e w3 ⟨rfl, hb3⟩
    have HW3 := hid (And.intro (HW2.out.1.below hb3) (HW2.out.2.trans (hb3.mono HW2.out.2.size)))
    have r3 := HW3.out.1.range
    clear hb3 r2 HW2 HR
    go_wp2_with (refine wpList_load_mid rfl 24 _ rfl w.heap.size 0 rfl [.int .i64 p, .int .i64 k, .slice ax N cx] _ r3 Tryd.underlying24 rfl i3 ?_)
    refine (HS.out _ HW3.out.2).mono ?_
    rintro e w4 ⟨⟨v, rfl, hv⟩, hb4⟩
    obtain ⟨av, cv, e4⟩ := hv.len
    subst e4
    have HW4 := hid (And.intro (hv.mono HW3.out.2.size) (And.intro (HW3.out.1.below hb4) (HW3.out.2.trans (hb4.mono HW3.out.2.size))))
    have r4 := HW4.out.2.1.range
    clear hb4 r3 HW3 HS hv
    go_wp2_with (refine wpList_load_mid rfl 24 _ rfl w.heap.size 0 rfl [.int .i64 p, .int .i64 k, .slice ax N cx] _ r4 Tryd.underlying24 rfl i3 ?_)
    refine (HRo.out _ HW4.out.2.2).mono ?_
    rintro e w5 ⟨rfl, hb5⟩
    have HW5 := hid (And.intro (HW4.out.1.below hb5) (And.intro (HW4.out.2.1.below hb5) (HW4.out.2.2.trans (hb5.mono HW4.out.2.2.size))))
    have r5 := HW5.out.2.1.range
    clear hb5 r4 HW4 HRo
    go_wp2_with (refine wpList_load_mid rfl 24 _ rfl w.heap.size 0 rfl [.int .i64 p, .int .i64 k, .slice ax N cx] _ r5 Tryd.underlying24 rfl i3 ?_)
    refine (HSo.out _ HW5.out.2.2).mono ?_
    rintro e w6 ⟨⟨v6, rfl, hv6⟩, hb6⟩
    have hs1 := (HW5.out.1.below hb6).sl (by omega)
    have hs2 := hv6.sl (by omega)
    have HI := hid (ints_any _ _ S S w6 hs1 hs2)
    rw [show decide (S = S) = true by simp] at HI
    have HW6 := hid (HW5.out.2.2.trans (hb6.mono HW5.out.2.2.size))
    clear hb6 r5 HW5 HSo hs1 hs2 hv6
    go_wp2_with fail
    refine HI.out.mono ?_
    rintro e w7 ⟨rfl, n7, rfl⟩
    go_wp2
    go_ret
    exact ⟨rfl, below_drewN HW6.out n7⟩
  · have HR := hid (fun w1 (hb : Below w.heap.size w w1) => Root_bad p k (.slice ax low.length cx) low w1 ip ik (hp.below hb) (hu.below hb) hi64 h0)
    have HS := hid (fun w1 (hb : Below w.heap.size w w1) => Squares_bad p k (.slice ax low.length cx) low w1 ip ik (hp.below hb) (hu.below hb) hi64 h0)
    have hne2 : (faE p k low != 0) = true := by simpa using h0
    unfold fldV at HR HS
    clear hu hp hi64 h0
    generalize faE p k low = E at *
    generalize low.length = N at *
    unfold fldV
    go_enter Tryd.func5, Tryd.ntmps5
    go_wp2_with (refine wpList_load_mid rfl 24 _ rfl w.heap.size 0 rfl [.int .i64 p, .int .i64 k, .slice ax N cx] _ r0 Tryd.underlying24 rfl i3 ?_)
    refine (HF.out _ HW0.out.2).mono ?_
    rintro e w1 ⟨rfl, hb1⟩
    have HW1 := hid (And.intro (HW0.out.1.below hb1) (HW0.out.2.trans (hb1.mono HW0.out.2.size)))
    have r1 := HW1.out.1.range
    clear hb1 r0 HW0 HF
    go_wp2_with (refine wpList_load_mid rfl 24 _ rfl w.heap.size 0 rfl [.int .i64 p, .int .i64 k, .slice ax N cx] _ r1 Tryd.underlying24 rfl i3 ?_)
    refine (HC.out _ HW1.out.2).mono ?_
    rintro e w2 ⟨rfl, hb2⟩
    have HW2 := hid (And.intro (HW1.out.1.below hb2) (HW1.out.2.trans (hb2.mono HW1.out.2.size)))
    have r2 := HW2.out.1.range
    clear hb2 r1 HW1 HC
    go_wp2_with (refine wpList_load_mid rfl 24 _ rfl w.heap.size 0 rfl [.int .i64 p, .int .i64 k, .slice ax N cx] _ r2 Tryd.underlying24 rfl i3 ?_)
    refine (HR.out _ HW2.out.2).mono ?_
    rintro e w3 ⟨rfl, hb3⟩
    have HW3 := hid (And.intro (HW2.out.1.below hb3) (HW2.out.2.trans (hb3.mono HW2.out.2.size)))
    have r3 := HW3.out.1.range
    clear hb3 r2 HW2 HR
    go_wp2_with (refine wpList_load_mid rfl 24 _ rfl w.heap.size 0 rfl [.int .i64 p, .int .i64 k, .slice ax N cx] _ r3 Tryd.underlying24 rfl i3 ?_)
    refine (HS.out _ HW3.out.2).mono ?_
    rintro e w4 ⟨rfl, hb4⟩
    have HW4 := hid (And.intro (HW3.out.1.below hb4) (HW3.out.2.trans (hb4.mono HW3.out.2.size)))
    have r4 := HW4.out.1.range
    clear hb4 r3 HW3 HS
    clear r4
    go_wp2
    go_ret
    exact ⟨rfl, HW4.out.2⟩
end Go.Proofs.YthdlhfgeminoiaaDoor
