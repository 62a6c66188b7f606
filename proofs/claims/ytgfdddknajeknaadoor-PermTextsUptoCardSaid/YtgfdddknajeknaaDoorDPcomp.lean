/-
  The walks over perm.checkBoth, compose, Compose and parterreref1.Then. Conditions: the slices can be read; ranges as each theorem states.
-/
import Derived.Test.YtgfdddknajeknaaDoorPcyc
namespace Go.Proofs.YtgfdddknajeknaaDoor
set_option linter.unusedVariables false
open Go.RowKit

def bothE (l m : List Int) : Int := if permE l ≠ 0 then permE l else if permE m ≠ 0 then permE m else if l.length ≠ m.length then 2 else 0

theorem checkboth_any (v u : Value) (l m : List Int) (w : World) (hl : Sl w v l) (hm : Sl w u m) :
    Calls Tryd.prog 32 #[v, u] w fun e w' => e = .returned (.int .i64 (bothE l m)) ∧ Below w.heap.size w w' := by
  have H1 := hid (check_any v l w hl)
  have H2 := hid (fun w1 (h : Below w.heap.size w w1) => check_any u m w1 (hm.below h))
  obtain ⟨a, k, N, rfl, hN, _, _⟩ := hl.open
  obtain ⟨a2, k2, M, rfl, hM, _, _⟩ := hm.open
  have HE := hid (show bothE l m = if permE l ≠ 0 then permE l else if permE m ≠ 0 then permE m else if N ≠ M then 2 else 0 by rw [← hN.out, ← hM.out]; rfl)
  clear hl hm
  generalize bothE l m = z at *
  generalize permE l = x at *
  generalize permE m = y at *
  by_cases hx : x = 0
  · have qx : (x != 0) = false := by simpa using hx
    by_cases hy : y = 0
    · have qy : (y != 0) = false := by simpa using hy
      by_cases hNM : N = M
      · have HZ : Hid (z = 0) := hid (by rw [HE.out]; simp [hx, hy, hNM])
        have qn : ((N : Int) != (M : Int)) = false := by rw [hNM]; simp
        clear hx hy hNM
        go_enter Tryd.func32, Tryd.ntmps32
        go_wp2_with fail
        refine H1.out.mono ?_
        rintro e w1 ⟨rfl, hb1⟩
        go_wp2_with fail
        refine (H2.out _ hb1).mono ?_
        rintro e w2 ⟨rfl, hb2⟩
        have HB := hid (hb1.trans (hb2.mono hb1.size))
        clear hb2
        go_wp2
        go_ret
        exact ⟨by rw [HZ.out]; rfl, HB.out⟩
      · have HZ : Hid (z = 2) := hid (by rw [HE.out]; simp [hx, hy, hNM])
        have qn : ((N : Int) != (M : Int)) = true := by simp; omega
        clear hx hy hNM
        go_enter Tryd.func32, Tryd.ntmps32
        go_wp2_with fail
        refine H1.out.mono ?_
        rintro e w1 ⟨rfl, hb1⟩
        go_wp2_with fail
        refine (H2.out _ hb1).mono ?_
        rintro e w2 ⟨rfl, hb2⟩
        have HB := hid (hb1.trans (hb2.mono hb1.size))
        clear hb2
        go_wp2
        go_ret
        exact ⟨by rw [HZ.out]; rfl, HB.out⟩
    · have qy : (y != 0) = true := by simpa using hy
      have HZ : Hid (z = y) := hid (by rw [HE.out]; simp [hx, hy])
      clear hx hy
      go_enter Tryd.func32, Tryd.ntmps32
      go_wp2_with fail
      refine H1.out.mono ?_
      rintro e w1 ⟨rfl, hb1⟩
      go_wp2_with fail
      refine (H2.out _ hb1).mono ?_
      rintro e w2 ⟨rfl, hb2⟩
      have HB := hid (hb1.trans (hb2.mono hb1.size))
      clear hb2
      go_wp2
      go_ret
      exact ⟨by rw [HZ.out]; rfl, HB.out⟩
  · have qx : (x != 0) = true := by simpa using hx
    have HZ : Hid (z = x) := hid (by rw [HE.out]; simp [hx])
    clear hx
    go_enter Tryd.func32, Tryd.ntmps32
    go_wp2_with fail
    refine H1.out.mono ?_
    rintro e w1 ⟨rfl, hb1⟩
    go_wp2
    go_ret
    exact ⟨by rw [HZ.out]; rfl, hb1⟩

/-- First a, then b. -/
def thenL (l m : List Int) : List Int := l.map fun x => m[x.toNat]?.getD 0
theorem then_len (l m : List Int) : (thenL l m).length = l.length := by simp [thenL]
theorem then_take {l m : List Int} {k : Nat} (h : k < l.length) : thenL (l.take (k + 1)) m = thenL (l.take k) m ++ [m[(l[k]?.getD 0).toNat]?.getD 0] := by
  unfold thenL
  rw [List.take_add_one, List.getElem?_eq_getElem h, List.map_append]
  rfl

theorem compose_ok (v u : Value) (l m : List Int) (w : World) (hl : Sl w v l) (hm : Sl w u m) (hr : ∀ x ∈ l, 0 ≤ x ∧ x < (m.length : Int)) (h12 : l.length ≤ 1000) :
    Calls Tryd.prog 33 #[v, u] w fun e w' => (∃ r, e = .returned r ∧ OI w.heap.size w' r (thenL l m)) ∧ Below w.heap.size w w' := by
  obtain ⟨a, cp, N, rfl, hN, hl1, hl2⟩ := hl.open
  obtain ⟨a2, cp2, M, rfl, hM, hm1, hm2⟩ := hm.open
  rw [hM.out] at hr
  rw [hN.out] at h12
  have HT := hid (fun k (h : k < N) => then_take (l := l) (m := m) (k := k) (by rw [hN.out]; exact h))
  have HR := hid (fun k (h : k < N) => hr (l[k]?.getD 0) (by rw [List.getElem?_eq_getElem (by rw [hN.out]; exact h)]; exact List.getElem_mem _))
  have HL := hid (fun k (h : k ≤ N) => show (thenL (l.take k) m).length = k by rw [then_len, List.length_take, hN.out]; omega)
  clear hl hm hr
  go_enter Tryd.func33, Tryd.ntmps33
  go_wp2
  go_loopw [5, 10] (fun o i wr => ∃ k : Nat, k ≤ N ∧ i = .int .i64 k ∧ OI w.heap.size wr o (thenL (l.take k) m) ∧ Below w.heap.size w wr) (fun _ i _ => N - (intOf i).toNat)
  case atStart => exact ⟨0, Nat.zero_le _, rfl, OI.nil _ _, Below.refl _ _⟩
  case round =>
    obtain ⟨k, hk, rfl, hown, hb⟩ := hrel
    by_cases hlt : k < N
    · obtain ⟨b, off, rfl, hb1, hc⟩ := hl2 (by omega)
      obtain ⟨x1, x2⟩ := HR.out k hlt
      have c1 := (hb.cell (p := ⟨b, off + k, none⟩) hb1).trans (hc k hlt)
      have HTK := hid (HT.out k hlt)
      obtain ⟨q, hq⟩ : ∃ q : Nat, l[k]?.getD 0 = (q : Int) := ⟨(l[k]?.getD 0).toNat, by omega⟩
      rw [hq] at c1 HTK x1 x2
      rw [Int.toNat_natCast] at HTK
      have hqM : q < M := by omega
      obtain ⟨b2, off2, rfl, hb2, hc2⟩ := hm2 (by omega)
      have c2 := (hb.cell (p := ⟨b2, off2 + q, none⟩) hb2).trans (hc2 q hqM)
      have hB := hb.size
      have hl2' : (thenL (l.take k) m).length ≤ 1000000000000 := by rw [HL.out k hk]; omega
      have HLK := hid (HL.out k hk)
      clear hc hc2 hl2 hm2 HT hq
      generalize m[q]?.getD 0 = y at *
      go_wp2_with (at_builtin; refine wpList_appi wr _ _ 22 rfl rfl Tryd.underlying22 Tryd.info3 w.heap.size _ _ rfl hown rfl hl2' hB ?_; intro g c w1 hown1 hg1 hg2 hg3)
      go_roundw
      case rel => exact ⟨k + 1, by omega, by go_num, hown1.cast (by rw [HTK.out]), hown.grown hb hg1 hB⟩
      case measure => simp [intOf] <;> omega
    · obtain rfl : N = k := by omega
      rw [List.take_of_length_le (by rw [hN.out]; exact Nat.le_refl _)] at hown
      have HX := hid (And.intro hown hb)
      clear hown hb
      go_wp2
      go_ret
      exact ⟨⟨_, rfl, HX.out.1⟩, HX.out.2⟩

end Go.Proofs.YtgfdddknajeknaaDoor
