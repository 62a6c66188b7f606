/-
  The walk over parterreref1.Lengths; when two have as many cycles of each length. Conditions: the slice can be read and is a permutation.
-/
import Derived.Test.YtnbgnoimanpjnaaGPkind
import Derived.Test.YtnbgnoimanpjnaaGPcomp
namespace Go.Proofs.Ytnbgnoimanpjnaa
set_option linter.unusedVariables false
open Go.RowKit

def lenL (f : Nat → Nat) (N k : Nat) : List Int := (List.range (N + 1)).map fun c => ((sumN (fun i => if per f N i = c then 1 else 0) k : Nat) : Int)
theorem lenL_len (f : Nat → Nat) (N k : Nat) : (lenL f N k).length = N + 1 := by simp [lenL]
theorem lenL_get {f : Nat → Nat} {N k c : Nat} (h : c < N + 1) : (lenL f N k).getD c 0 = ((sumN (fun i => if per f N i = c then 1 else 0) k : Nat) : Int) := by simp [lenL, h]
theorem lenL_zero (f : Nat → Nat) (N : Nat) : lenL f N 0 = List.replicate (N + 1) 0 := by
  refine List.ext_getElem (by simp [lenL]) fun i h1 h2 => ?_
  simp [lenL, sumN]
theorem lenL_set {f : Nat → Nat} {N k : Nat} (h : per f N k < N + 1) : (lenL f N k).set (per f N k) ((lenL f N k).getD (per f N k) 0 + 1) = lenL f N (k + 1) := by
  refine List.ext_getElem? fun i => ?_
  by_cases e : per f N k = i
  · subst e
    rw [List.getElem?_set_self (by rw [lenL_len]; exact h), lenL_get h]
    simp [lenL, h, sumN]
  · rw [List.getElem?_set_ne e]
    by_cases hi : i < N + 1
    · simp [lenL, hi, sumN, e]
    · simp [lenL, hi]
theorem sumN_le (g : Nat → Nat) (h : ∀ i, g i ≤ 1) : ∀ k, sumN g k ≤ k
  | 0 => Nat.le_refl _
  | k + 1 => by
    have := sumN_le g h k
    have := h k
    simp only [sumN]; omega

theorem lengths_ok (v : Value) (l : List Int) (N : Nat) (f : Nat → Nat) (w : World) (hl : Sl w v l) (P : PmL l N f) :
    Calls Try.prog 69 #[v] w fun e w' => (∃ u, e = .returned u ∧ OI w.heap.size w' u (lenL f N N)) ∧ Below w.heap.size w w' := by
  obtain ⟨a, cp, N', rfl, hN, hl1, hl2⟩ := hl.open
  obtain rfl : N' = N := by rw [← hN.out, P.len]
  have h12 := P.n12
  have HPM := hid P.pm
  have HAT := hid P.at'
  have HLT := hid (fun i (hi : i < N') k => P.pm.it_lt hi k)
  have HLL := hid (fun k => lenL_len f N' k)
  have HSET := hid (fun k (h : per f N' k < N' + 1) => lenL_set h)
  have HGET := hid (fun k c (h : c < N' + 1) => lenL_get (f := f) (k := k) h)
  have HZ := hid (lenL_zero f N')
  clear hl P
  go_enter Try.func69, Try.ntmps69
  have hcast : Hid ((N' : Int) + 1 = ((N' + 1 : Nat) : Int)) := hid (by omega)
  go_wp2_with (at_make; refine wpList_mk (w := w) _ _ 23 3 (.int .i64 0) 8 rfl rfl Try.underlying23 Try.info3 rfl (by decide) w.heap.size _ (N' + 1) rfl rfl hcast.out (by omega) (Nat.le_refl _) ?_; intro w3 hs3 hgr3 hz3)
  have ho3 : OI w.heap.size w3 (.slice (some ⟨w.heap.size, 0, none⟩) (N' + 1) (N' + 1)) (lenL f N' 0) := by
    unfold OI
    rw [HZ.out, List.map_replicate]
    exact hs3
  have hb3 : Below w.heap.size w w3 := (Below.refl _ _).grown hgr3 (Nat.le_refl _) (fun k h => by cases h)
  clear hs3 hgr3 hz3
  go_loopw [4] (fun i wr => ∃ k : Nat, k ≤ N' ∧ i = .int .i64 k ∧ OI w.heap.size wr (.slice (some ⟨w.heap.size, 0, none⟩) (N' + 1) (N' + 1)) (lenL f N' k) ∧ Below w.heap.size w wr) (fun i _ => N' - (intOf i).toNat)
  case atStart => exact ⟨0, Nat.zero_le _, rfl, ho3, hb3⟩
  case round =>
    obtain ⟨k, hk, rfl, ho, hb⟩ := hrel
    clear ho3 hb3
    by_cases hlt : k < N'
    · obtain ⟨hm0, hm1, hm2, hm3⟩ := HPM.out.per_spec hlt
      have HM0 := hid hm0
      have HM3 := hid hm3
      have hget := HGET.out k (per f N' k) (by omega)
      have hcell := ho.cell (per f N' k) (by rw [HLL.out]; omega)
      have hfz := ho.frozen (per f N' k)
      obtain ⟨hs1, hg1⟩ := ho.stored (per f N' k) ((lenL f N' k).getD (per f N' k) 0 + 1)
      rw [HSET.out k (by omega)] at hs1
      have hbd : sumN (fun i => if per f N' i = per f N' k then 1 else 0) k ≤ k := sumN_le _ (fun i => by split <;> omega) k
      have hb1 := hb.grown hg1 hb.size (fun b e => by cases e; exact Nat.le_refl _)
      have HO := hid (And.intro ho hb)
      have HO1 := hid (And.intro hs1 hb1)
      rw [hget] at hcell HO1
      clear ho hb hm0 hm3 hs1 hg1 hb1 hget
      generalize sumN (fun i => if per f N' i = per f N' k then 1 else 0) k = cnt at *
      generalize per f N' k = m at *
      obtain ⟨b, off, rfl, hblt, hc⟩ := hl2 (by omega)
      have hca := hc k hlt
      rw [HAT.out k hlt] at hca
      have hca' := (HO.out.2.cell (p := ⟨b, off + k, none⟩) hblt).trans hca
      have H1 : Hid (it f 1 k = f k) := hid rfl
      clear hca
      obtain ⟨w0, rfl⟩ : ∃ w0, w0 = wr := ⟨wr, rfl⟩
      go_wp2
      go_loopw [5, 6] (fun n x wq => ∃ t : Nat, 1 ≤ t ∧ t ≤ m ∧ n = .int .i64 t ∧ x = .int .i64 (it f t k) ∧ wq = w0) (fun n _ _ => m - (intOf n).toNat)
      case atStart => exact ⟨1, by omega, hm1, rfl, by rw [H1.out], rfl⟩
      case round =>
        obtain ⟨t, ht1, htm, rfl, rfl, rfl⟩ := hrel
        have hxN := HLT.out k hlt t
        by_cases htm' : t < m
        · have hne := HM3.out t ht1 htm'
          have qne : ((it f t k : Int) != (k : Int)) = true := by simp; omega
          have hca := hc (it f t k) hxN
          rw [HAT.out _ hxN] at hca
          have hca2 := (HO.out.2.cell (p := ⟨b, off + it f t k, none⟩) hblt).trans hca
          have HIT : Hid (it f (t + 1) k = f (it f t k)) := hid rfl
          clear hca hc hl2 hne
          generalize it f t k = x at *
          go_wp2
          go_roundw
          case rel => exact ⟨t + 1, by omega, by omega, by go_num, by rw [HIT.out], by simp⟩
          case measure => simp [intOf] <;> omega
        · obtain rfl : m = t := by omega
          have qne : ((it f m k : Int) != (k : Int)) = false := by rw [HM0.out]; simp
          clear hc hl2
          generalize it f m k = x at *
          go_wp2
          go_roundw
          case rel => exact ⟨k + 1, by omega, by go_num, HO1.out.1, HO1.out.2⟩
          case measure => simp [intOf] <;> omega
    · obtain rfl : N' = k := by omega
      have HX := hid (And.intro ho hb)
      clear ho hb
      go_wp2
      go_ret
      exact ⟨⟨_, rfl, HX.out.1⟩, HX.out.2⟩
end Go.Proofs.Ytnbgnoimanpjnaa
