/-
  The walk over sort.Search: the first number at which a test holds. Conditions: the function handed over answers by the test; once it holds it goes on holding.
-/
import Derived.Test.YtdbfmjlnalaobaaBase
namespace Go.Proofs.Ytdbfmjlnalaobaa
set_option linter.unusedVariables false
open Go.RowKit

/-- A function value that answers by the test p on natural numbers below n; the world is drawn on alone. -/
structure TestsN (c : FuncId) (cap : Array Value) (p : Nat → Bool) (n : Nat) (w : World) : Prop where
  enter : ∀ (args : Array Value) (w : World), (callFunc c args).run Try.prog w = .ok (.enter c args) w
  calls : ∀ (x q : Nat), x < n → Calls Try.prog c (#[.int .i64 x] ++ cap) (w.drewN q) fun e w' => e = .returned (.bool (p x)) ∧ ∃ q2, w' = (w.drewN q).drewN q2

theorem search_any (c : FuncId) (cap : Array Value) (p : Nat → Bool) (n a : Nat) (w : World) (hn : n ≤ 4611686018427387903) (ht : TestsN c cap p n w) (ha : a ≤ n) (hlo : ∀ x, x < a → p x = false) (hhi : ∀ x, a ≤ x → x < n → p x = true) :
    Calls Try.prog 45 #[.int .i64 n, .func (.func c) #[] cap] w fun e w' => e = .returned (.int .i64 a) ∧ ∃ q, w' = w.drewN q := by
  have HT := hid ht.calls
  have he := ht.enter
  have HLO := hid hlo
  have HHI := hid hhi
  clear ht hlo hhi
  go_enter Try.func45, Try.ntmps45
  go_wp2
  go_loopw [5, 6] (fun i j wr => ∃ x y q : Nat, x ≤ a ∧ a ≤ y ∧ y ≤ n ∧ i = .int .i64 x ∧ j = .int .i64 y ∧ wr = w.drewN q) (fun i j _ => (intOf j).toNat - (intOf i).toNat)
  case atStart => exact ⟨0, n, 0, Nat.zero_le _, ha, Nat.le_refl _, rfl, rfl, rfl⟩
  case round =>
    obtain ⟨x, y, q, hx, hy, hyn, rfl, rfl, rfl⟩ := hrel
    by_cases hxy : x < y
    · obtain ⟨m, hm⟩ : ∃ m, m = (x + y) / 2 := ⟨_, rfl⟩
      have hm1 : x ≤ m ∧ m < y := by omega
      have hm2 : ((x : Int) + (y : Int)) / 2 = (m : Int) := by omega
      have HTM := hid (HT.out m q (by omega))
      have hmi : 0 ≤ (m : Int) ∧ (m : Int) < 4611686018427387903 := by omega
      clear hm
      go_wp2_with fail
      refine HTM.out.mono ?_
      rintro e w1 ⟨rfl, q2, rfl⟩
      cases hp : p m with
      | true =>
        have hma : a ≤ m := by
          rcases Nat.lt_or_ge m a with h | h
          · rw [HLO.out m h] at hp; cases hp
          · exact h
        have HP := hid hp
        clear hp
        go_wp2
        go_roundw
        case rel => exact ⟨x, m, q + q2, hx, hma, by omega, rfl, rfl, by simp⟩
        case measure => simp [intOf] <;> omega
      | false =>
        have hma : m < a := by
          rcases Nat.lt_or_ge m a with h | h
          · exact h
          · rw [HHI.out m h (by omega)] at hp; cases hp
        have HP := hid hp
        clear hp
        go_wp2
        go_roundw
        case rel => exact ⟨m + 1, y, q + q2, hma, hy, hyn, by go_num, rfl, by simp⟩
        case measure => simp [intOf] <;> omega
    · obtain rfl : a = x := by omega
      go_wp2
      go_ret
      exact ⟨rfl, q, rfl⟩
end Go.Proofs.Ytdbfmjlnalaobaa
