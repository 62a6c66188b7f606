/-
  Walks over parterreref4.LyndonOf and parterreref4.FactorsOf. Condition: the slice can be read; of FactorsOf: what the word is made of is known.
-/
import Derived.Test.YtiohfgofoklncaaWahead
import Derived.Test.YtiohfgofoklncaaLynB
namespace Go.Proofs.Ytiohfgofoklncaa
open Go.RowKit

theorem lyndonof_any (v : Value) (l : List Int) (w : World) (hl : Sl w v l) :
    Calls Try.prog 20 #[v] w fun e w' => e = .returned (.bool (Lex.lynB l)) ∧ ∃ n, w' = w.drewN n := by
  obtain ⟨a, c, N, rfl, hN, hl1, hl2⟩ := hl.open
  have HNE : Hid (0 < N → l ≠ []) := hid (fun h e => by have := hN.out; rw [e] at this; simp at this; omega)
  by_cases h0 : N = 0
  · subst h0
    obtain rfl : l = [] := List.eq_nil_of_length_eq_zero hN.out
    clear hl hl2
    go_enter Try.func20, Try.ntmps20
    go_wp2
    refine wp_loop_rounds 1 ?_
    rw [rounds_succ]
    go_wp2
    go_ret
    exact ⟨rfl, 0, rfl⟩
  have hpos : 0 < N := by omega
  obtain ⟨b, off, rfl, hb, hc⟩ := hl2 hpos
  clear hl2 hc
  go_enter Try.func20, Try.ntmps20
  go_wp2
  go_loopw [3] (fun i wr => ∃ k : Nat, 1 ≤ k ∧ k ≤ N ∧ i = .int .i64 k ∧ (∃ n, wr = w.drewN n) ∧ Hid (∀ j, 1 ≤ j → j < k → Lex.ahead l (l.drop j) = true)) (fun i _ => N - (intOf i).toNat)
  case atStart => exact ⟨1, Nat.le_refl _, hpos, rfl, ⟨0, rfl⟩, hid (fun j h1 h2 => by omega)⟩
  case round =>
    obtain ⟨k, hk1, hk, rfl, ⟨n, rfl⟩, ht⟩ := hrel
    by_cases hlt : k < N
    · have hp := (hl.drewN n).from' hlt
      have hcap : ¬ c = k := by omega
      go_wp2_with fail
      refine (ahead_any _ _ l (l.drop k) _ (hl.drewN n) hp).mono ?_
      rintro e w' ⟨rfl, ⟨m, rfl⟩⟩
      cases ha : Lex.ahead l (l.drop k) with
      | false =>
        have HE := hid (Lex.lynB_false (by omega) (by rw [hN.out]; exact hlt) ha)
        clear ha
        go_wp2
        go_ret
        refine ⟨by rw [HE.out]; rfl, ?_⟩
        first | exact ⟨_, rfl⟩ | (simp only [World.drewN_drewN]; exact ⟨_, rfl⟩)
      | true =>
        have HA := hid ha
        clear ha
        go_wp2
        go_roundw
        case rel => exact ⟨k + 1, by omega, by omega, by go_num, ⟨_, rfl⟩, hid (fun j h1 h2 => by
          by_cases e : j = k
          · rw [e]; exact HA.out
          · exact ht.out j h1 (by omega))⟩
        case measure => simp [intOf] <;> omega
    · obtain rfl : k = N := by omega
      have HE := hid (Lex.lynB_true (HNE.out hpos) (fun i h1 h2 => ht.out i h1 (by rw [hN.out] at h2; exact h2)))
      go_wp2
      go_ret
      refine ⟨by rw [HE.out]; rfl, ?_⟩
      first | exact ⟨_, rfl⟩ | (simp only [World.drewN_drewN]; exact ⟨_, rfl⟩)
end Go.Proofs.Ytiohfgofoklncaa
