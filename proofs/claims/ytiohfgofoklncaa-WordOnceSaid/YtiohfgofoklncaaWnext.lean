/-
  The walk over word.next: the next word. Conditions: the slice can be read and is not empty, its numbers and the other numbers are small.
-/
import Derived.Test.YtiohfgofoklncaaBase
import Derived.Test.YtiohfgofoklncaaBru
namespace Go.Proofs.Ytiohfgofoklncaa
open Go.RowKit

theorem getD_mod {l : List Int} {N i : Nat} (hN : l.length = N) (h : 0 < N) : i % N < N ∧ l.getD (i % l.length) 0 = l[i % N]?.getD 0 := by
  refine ⟨Nat.mod_lt _ h, ?_⟩
  rw [hN]; simp [List.getD_eq_getElem?_getD]

theorem snoc_of {l : List Int} (h : 0 < l.length) : ∃ r x, l = r ++ [x] ∧ l[l.length - 1]?.getD 0 = x ∧ r.length = l.length - 1 := by
  cases hr : l.reverse with
  | nil =>
    have : l = [] := by simpa using hr
    rw [this] at h; simp at h
  | cons x r =>
    have e : l = r.reverse ++ [x] := by
      have := congrArg List.reverse hr
      simpa using this
    refine ⟨r.reverse, x, e, ?_, ?_⟩
    · rw [e]; simp
    · rw [e]; simp

theorem bump_set (r : List Int) (x : Int) : (r ++ [x]).set r.length (x + 1) = bump (r ++ [x]) := by
  rw [bump_snoc]
  simp

/-- Small numbers. -/
def SmallL (l : List Int) : Prop := ∀ x ∈ l, 0 ≤ x ∧ x < 100
theorem SmallL.get {l : List Int} (h : SmallL l) (i : Nat) : 0 ≤ l[i]?.getD 0 ∧ l[i]?.getD 0 < 100 := by
  cases hi : l[i]? with
  | none => simp
  | some x => simpa using h x (List.mem_of_getElem? hi)
theorem SmallL.round {l : List Int} (h : SmallL l) (m : Nat) : SmallL (round' l m) := by
  intro x hx
  simp only [round', List.mem_map] at hx
  obtain ⟨i, _, rfl⟩ := hx
  have := h.get (i % l.length)
  rw [List.getD_eq_getElem?_getD]
  exact this

theorem next_any (k : Int) (m : Nat) (v : Value) (l : List Int) (w : World) (hl : Sl w v l) (hne : 0 < l.length) (hs : SmallL l) (hk1 : 1 ≤ k) (hk2 : k ≤ 10) (hm : m ≤ 4096) :
    Calls Try.prog 37 #[.int .i64 k, v, .int .i64 m] w fun e w' => (∃ u, e = .returned u ∧ OI w.heap.size w' u (nextL k l m)) ∧ Below w.heap.size w w' := by
  obtain ⟨a, c, N, rfl, hN, hl1, hl2⟩ := hl.open
  have hpos : 0 < N := by rw [← hN.out]; exact hne
  obtain ⟨b, off, rfl, hbl, hc⟩ := hl2 hpos
  have HC := hid hc
  have HS := hid hs
  clear hl hl2 hc hs hne
  go_enter Try.func37, Try.ntmps37
  go_wp2
  go_loopw [7, 10] (fun v i wr => ∃ j : Nat, j ≤ m ∧ i = .int .i64 j ∧ OI w.heap.size wr v (round' l j) ∧ Below w.heap.size w wr) (fun _ i _ => m - (intOf i).toNat)
  case atStart => exact ⟨0, Nat.zero_le _, rfl, OI.nil _ _, Below.refl _ _⟩
  case round =>
    obtain ⟨j, hj, rfl, hown, hb⟩ := hrel
    have hB := hb.size
    by_cases hlt : j < m
    · obtain ⟨hmod, hget⟩ := getD_mod (i := j) hN.out hpos
      have hcell := (hb.cell (p := ⟨b, off + j % N, none⟩) hbl).trans (HC.out (j % N) hmod)
      have hi1 : 0 ≤ (j : Int) % (N : Int) := Int.emod_nonneg _ (by omega)
      have hi2 : (j : Int) % (N : Int) < (N : Int) := Int.emod_lt_of_pos _ (by omega)
      have HG := hid (show round' l j ++ [l[j % N]?.getD 0] = round' l (j + 1) by rw [round_succ, hget])
      have hll : (round' l j).length ≤ 1000000000000 := by rw [round_len]; omega
      clear hget
      go_wp2_with (at_builtin; refine wpList_appi wr _ _ 23 rfl rfl Try.underlying23 Try.info3 w.heap.size _ _ rfl hown rfl hll hB ?_; intro g c2 w1 hown1 hg1 hg2 hg3)
      go_roundw
      case rel => exact ⟨j + 1, by omega, by go_num, hown1.cast HG.out, hown.grown hb hg1 hB⟩
      case measure => simp [intOf] <;> omega
    · obtain rfl : j = m := by omega
      have HT : Hid (nextL k l j = bump (trim (k - 1) (round' l j))) := hid rfl
      have hsm := HS.out.round j
      have hrl : (round' l j).length ≤ j := by rw [round_len]; omega
      generalize round' l j = R at *
      clear hj
      go_wp2
      go_loop [7] (fun v => ∃ (a : Option Addr) (n c : Nat) (r : List Int), v = .slice a n c ∧ n ≤ 4096 ∧ Hid (r.length = n) ∧ OI w.heap.size wr (.slice a n c) r ∧ SmallL r ∧ Hid (trim (k - 1) r = trim (k - 1) R)) (fun v => match v with | .slice _ n _ => n | _ => 0)
      case atStart =>
        obtain ⟨a, c, e⟩ := hown.len
        subst e
        exact ⟨a, R.length, c, R, rfl, by omega, hid rfl, hown, hsm, hid rfl⟩
      case round =>
        obtain ⟨a, n, c, r, rfl, hn, hrn, ho, hsr, htr⟩ := hrel
        clear hown
        by_cases h0 : n = 0
        · subst h0
          obtain rfl : r = [] := List.eq_nil_of_length_eq_zero hrn.out
          have HE : Hid (nextL k l j = []) := hid (by rw [HT.out, ← htr.out]; rfl)
          go_wp2
          go_ret
          exact ⟨⟨_, rfl, by rw [HE.out]; exact ho⟩, hb⟩
        have hpn : 0 < n := by omega
        obtain ⟨g, c', e, hgB, hgW⟩ := ho.form (by rw [hrn.out]; exact hpn)
        simp only [Value.slice.injEq] at e
        obtain ⟨rfl, he2, rfl⟩ := e
        clear he2
        obtain ⟨q, x, rfl, hx, hq⟩ := snoc_of (l := r) (by rw [hrn.out]; exact hpn)
        rw [hrn.out] at hx hq
        have hcell := ho.cell (n - 1) (by rw [hrn.out]; omega)
        have hfz := ho.frozen (n - 1)
        rw [List.getD_eq_getElem?_getD, hx] at hcell
        have hxs := hsr x (by simp)
        have hcap := ho.cap
        have HQ := hid hq
        clear hx hq
        by_cases hxe : x = k - 1
        · have hb1 : (x == k - 1) = true := by simpa using hxe
          have HX := hid hxe
          have ho2 := ho.take (n - 1) (by omega)
          rw [show (q ++ [x]).take (n - 1) = q by rw [← HQ.out]; simp] at ho2
          clear hxe
          go_wp2
          go_round
          case rel => exact ⟨_, n - 1, _, q, rfl, by omega, HQ, ho2, fun y hy => hsr y (by simp [hy]), hid (by have := htr.out; rw [HX.out, trim_snoc] at this; exact this)⟩
          case measure => show n - 1 < n; omega
        · have hb1 : (x == k - 1) = false := by simpa using hxe
          have HX : Hid (nextL k l j = (q ++ [x]).set (n - 1) (x + 1)) := hid (by rw [HT.out, ← htr.out, trim_last _ _ _ hxe, ← bump_set, HQ.out])
          have hst := ho.stored (n - 1) (x + 1)
          have hbs := hb.grown hst.2 hb.size (fun k' e => by cases e; exact hgB)
          clear hxe
          go_wp2
          go_ret
          exact ⟨⟨_, rfl, by rw [HX.out]; exact hst.1⟩, hbs⟩
end Go.Proofs.Ytiohfgofoklncaa
