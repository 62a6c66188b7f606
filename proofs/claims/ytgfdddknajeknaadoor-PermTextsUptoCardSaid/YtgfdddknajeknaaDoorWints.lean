/-
  The walk over parterreref1.Ints: it tells whether two slices of integers read alike. No condition but that both can be read.
-/
import Derived.Test.YtgfdddknajeknaaDoorBase
namespace Go.Proofs.YtgfdddknajeknaaDoor
open Go.RowKit

theorem ints_len (v u : Value) (l m : List Int) (w : World) (hl : Sl w v l) (hm : Sl w u m) (hne : l.length ≠ m.length) :
    Calls Tryd.prog 10 #[v, u] w fun e w' => e = .returned (.bool false) ∧ w = w' := by
  obtain ⟨a, c, rfl, hl1, _⟩ := hl.out
  obtain ⟨a', c', rfl, hm1, _⟩ := hm.out
  have hb : ((l.length : Int) != (m.length : Int)) = true := bne_iff_ne.2 (fun e => hne (Int.ofNat.inj e))
  go_enter Tryd.func10, Tryd.ntmps10
  go_wp2
  go_ret
  exact ⟨rfl, rfl⟩

theorem take_step {l m : List Int} {k : Nat} (hl : k < l.length) (hm : k < m.length) (ht : l.take k = m.take k) (he : l[k]?.getD 0 = m[k]?.getD 0) : l.take (k + 1) = m.take (k + 1) := by
  rw [List.take_add_one, List.take_add_one, ht]
  simp [hl, hm] at he
  simp [hl, hm, he]

theorem ints_same (v u : Value) (l m : List Int) (w : World) (hl : Sl w v l) (hm : Sl w u m) (hne : m.length = l.length) :
    Calls Tryd.prog 10 #[v, u] w fun e w' => e = .returned (.bool (decide (l = m))) ∧ ∃ n, w' = w.drewN n := by
  obtain ⟨a, c, rfl, hl1, hl2⟩ := hl.out
  obtain ⟨a', c', rfl, hm1, hm2⟩ := hm.out
  rw [hne] at hm2 hm1 ⊢
  have HNE := hid hne
  have HD : ∀ k : Nat, k < l.length → l[k]?.getD 0 ≠ m[k]?.getD 0 → l ≠ m := fun k _ h e => h (by rw [e])
  have HD' := hid HD
  clear hne HD hl hm
  generalize hN : l.length = N at *
  have HN := hid hN
  clear hN
  go_enter Tryd.func10, Tryd.ntmps10
  go_wp2
  go_loopw [5] (fun i wr => ∃ k : Nat, k ≤ N ∧ i = .int .i64 k ∧ (∃ n, wr = w.drewN n) ∧ Hid (l.take k = m.take k)) (fun i _ => N - (intOf i).toNat)
  case atStart => exact ⟨0, Nat.zero_le _, rfl, ⟨0, rfl⟩, hid rfl⟩
  case round =>
    obtain ⟨k, hk, rfl, ⟨n, rfl⟩, ht⟩ := hrel
    by_cases hlt : k < N
    · obtain ⟨b, off, rfl, hb, hc⟩ := hl2 (by omega)
      obtain ⟨b', off', rfl, hb', hc'⟩ := hm2 (by omega)
      have c1 := hc k hlt
      have c2 := hc' k hlt
      clear hc hc' hl2 hm2
      go_wp2
      go_quiet (fail)
      by_cases he : l[k]?.getD 0 = m[k]?.getD 0
      · have HE := hid he
        have hbe : (l[k]?.getD 0 != m[k]?.getD 0) = false := by simp [he]
        clear he
        go_wp2
        go_roundw
        case rel => exact ⟨k + 1, by omega, by go_num, ⟨_, rfl⟩, hid (take_step (by rw [HN.out]; exact hlt) (by rw [HNE.out]; exact hlt) ht.out HE.out)⟩
        case measure => simp [intOf] <;> omega
      · have hbe : (l[k]?.getD 0 != m[k]?.getD 0) = true := by simpa using he
        have hne := HD'.out k hlt he
        have HB := hid (decide_eq_false hne)
        clear he hne
        go_wp2
        go_ret
        refine ⟨by rw [HB.out]; rfl, ?_⟩
        first | exact ⟨_, rfl⟩ | (simp only [World.drewN_drewN]; exact ⟨_, rfl⟩)
    · obtain rfl : k = N := by omega
      have HB : Hid (decide (l = m) = true) := hid (decide_eq_true (by
        have := ht.out
        rw [List.take_of_length_le (by rw [HN.out]; exact Nat.le_refl _), List.take_of_length_le (by rw [HNE.out]; exact Nat.le_refl _)] at this
        exact this))
      clear ht
      go_wp2
      go_ret
      refine ⟨by rw [HB.out]; rfl, ?_⟩
      first | exact ⟨_, rfl⟩ | (simp only [World.drewN_drewN]; exact ⟨_, rfl⟩)

theorem ints_any (v u : Value) (l m : List Int) (w : World) (hl : Sl w v l) (hm : Sl w u m) :
    Calls Tryd.prog 10 #[v, u] w fun e w' => e = .returned (.bool (decide (l = m))) ∧ ∃ n, w' = w.drewN n := by
  by_cases h : m.length = l.length
  · exact ints_same v u l m w hl hm h
  · refine (ints_len v u l m w hl hm (fun e => h e.symm)).mono fun e w' ⟨he, hw⟩ => ?_
    subst hw
    refine ⟨?_, 0, rfl⟩
    rw [he, decide_eq_false]
    intro e
    exact h (by rw [e])
end Go.Proofs.YtgfdddknajeknaaDoor
