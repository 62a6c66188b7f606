/-
  The walk over parterreref2.Ahead: the order of the dictionary. Condition: both slices can be read.
-/
import Derived.Test.YtiohfgofoklncaaBase
import Derived.Test.YtiohfgofoklncaaLex
namespace Go.Proofs.Ytiohfgofoklncaa
open Go.RowKit

namespace Lex
theorem ahead_same {l m : List Int} {k : Nat} (hl : k < l.length) (hm : k < m.length) (h : l[k]?.getD 0 = m[k]?.getD 0) : ahead (l.drop k) (m.drop k) = ahead (l.drop (k + 1)) (m.drop (k + 1)) := by
  rw [List.drop_eq_getElem_cons hl, List.drop_eq_getElem_cons hm]
  simp [hl, hm] at h
  simp [ahead, h]
theorem ahead_diff {l m : List Int} {k : Nat} (hl : k < l.length) (hm : k < m.length) (h : l[k]?.getD 0 ≠ m[k]?.getD 0) : ahead (l.drop k) (m.drop k) = decide (l[k]?.getD 0 < m[k]?.getD 0) := by
  rw [List.drop_eq_getElem_cons hl, List.drop_eq_getElem_cons hm]
  simp [hl, hm] at h
  simp [ahead, h, hl, hm]
theorem ahead_end {l m : List Int} {k : Nat} (hl : k ≤ l.length) (hm : k ≤ m.length) (h : k = l.length ∨ k = m.length) : ahead (l.drop k) (m.drop k) = decide (l.length < m.length) := by
  rcases h with h | h
  · rw [List.drop_of_length_le (show l.length ≤ k by omega)]
    by_cases e : k < m.length
    · rw [List.drop_eq_getElem_cons e]
      simp [ahead]; omega
    · rw [List.drop_of_length_le (show m.length ≤ k by omega)]
      simp [ahead]; omega
  · rw [List.drop_of_length_le (show m.length ≤ k by omega)]
    by_cases e : k < l.length
    · rw [List.drop_eq_getElem_cons e]
      simp [ahead]; omega
    · rw [List.drop_of_length_le (show l.length ≤ k by omega)]
      simp [ahead]; omega
end Lex

theorem ahead_any (v u : Value) (l m : List Int) (w : World) (hl : Sl w v l) (hm : Sl w u m) :
    Calls Try.prog 30 #[v, u] w fun e w' => e = .returned (.bool (Lex.ahead l m)) ∧ ∃ n, w' = w.drewN n := by
  obtain ⟨a, c, N, rfl, hN, hl1, hl2⟩ := hl.open
  obtain ⟨a', c', M, rfl, hM, hm1, hm2⟩ := hm.open
  clear hl hm
  go_enter Try.func30, Try.ntmps30
  go_wp2
  go_loopw [5] (fun i wr => ∃ k : Nat, k ≤ N ∧ k ≤ M ∧ i = .int .i64 k ∧ (∃ n, wr = w.drewN n) ∧ Hid (Lex.ahead l m = Lex.ahead (l.drop k) (m.drop k))) (fun i _ => N - (intOf i).toNat)
  case atStart => exact ⟨0, Nat.zero_le _, Nat.zero_le _, rfl, ⟨0, rfl⟩, hid rfl⟩
  case round =>
    obtain ⟨k, hk, hk', rfl, ⟨n, rfl⟩, ht⟩ := hrel
    by_cases hlt : k < N ∧ k < M
    · obtain ⟨h1, h2⟩ := hlt
      obtain ⟨b, off, rfl, hb, hc⟩ := hl2 (by omega)
      obtain ⟨b', off', rfl, hb', hc'⟩ := hm2 (by omega)
      have c1 := hc k h1
      have c2 := hc' k h2
      clear hc hc' hl2 hm2
      by_cases he : l[k]?.getD 0 = m[k]?.getD 0
      · have HE := hid (ht.out.trans (Lex.ahead_same (by rw [hN.out]; exact h1) (by rw [hM.out]; exact h2) he))
        have hbe : (l[k]?.getD 0 != m[k]?.getD 0) = false := by simp [he]
        clear he
        go_wp2
        go_quiet (fail)
        go_wp2
        go_roundw
        case rel => exact ⟨k + 1, by omega, by omega, by go_num, ⟨_, rfl⟩, HE⟩
        case measure => simp [intOf] <;> omega
      · have HE := hid (ht.out.trans (Lex.ahead_diff (by rw [hN.out]; exact h1) (by rw [hM.out]; exact h2) he))
        have hbe : (l[k]?.getD 0 != m[k]?.getD 0) = true := by simpa using he
        clear he
        go_wp2
        go_quiet (fail)
        go_wp2
        go_quiet (fail)
        go_wp2
        go_ret
        refine ⟨by rw [HE.out]; rfl, ?_⟩
        first | exact ⟨_, rfl⟩ | (simp only [World.drewN_drewN]; exact ⟨_, rfl⟩)
    · have HE := hid (ht.out.trans (Lex.ahead_end (by rw [hN.out]; exact hk) (by rw [hM.out]; exact hk') (by rw [hN.out, hM.out]; omega)))
      rw [hN.out, hM.out] at HE
      clear ht
      by_cases h1 : k < N
      all_goals
        go_wp2
        go_ret
        refine ⟨by rw [HE.out]; simp, ?_⟩
        first | exact ⟨_, rfl⟩ | (simp only [World.drewN_drewN]; exact ⟨_, rfl⟩)
end Go.Proofs.Ytiohfgofoklncaa
