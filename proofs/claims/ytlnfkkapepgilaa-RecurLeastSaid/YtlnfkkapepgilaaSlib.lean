/-
  Walks over slices.IndexFunc, slices.ContainsFunc and slices.Clone at []int: what each returns. Conditions: the slice can be read; the function handed over answers by a test that leaves the world alone.
-/
import Derived.Test.YtlnfkkapepgilaaBase
namespace Go.Proofs.Ytlnfkkapepgilaa
open Go.RowKit

theorem run_callFunc_own {P : Program} {f : FuncId} {fn : Func} (hf : P.funcs[f]? = some fn) (hn : (fn.name == "runtime.NumGoroutine") = false) (hb : fn.body.isNone = false) (args : Array Value) (w : World) :
    (callFunc f args).run P w = .ok (.enter f args) w := by
  unfold callFunc
  simp only [program, Sem.run_bind]
  simp [hf, hn, hb, Sem.run, Result.andThen]

/-- A function value that answers by the test p on integers, and leaves the world alone. -/
structure Tests (c : FuncId) (cap : Array Value) (p : Int → Bool) (w : World) : Prop where
  enter : ∀ (args : Array Value) (w : World), (callFunc c args).run Try.prog w = .ok (.enter c args) w
  calls : ∀ (x : Int), I64 x → Calls Try.prog c (#[.int .i64 x] ++ cap) w fun e w' => e = .returned (.bool (p x)) ∧ w = w'

theorem any_true {l : List Int} {p : Int → Bool} {k : Nat} (hk : k < l.length) (hp : p (l[k]?.getD 0) = true) : l.any p = true := by
  rw [List.any_eq_true]
  exact ⟨l[k], List.getElem_mem hk, by simpa [hk] using hp⟩
theorem any_false {l : List Int} {p : Int → Bool} (h : ∀ k : Nat, k < l.length → p (l[k]?.getD 0) = false) : l.any p = false := by
  rw [List.any_eq_false]
  intro x hx
  obtain ⟨k, hk, rfl⟩ := List.getElem_of_mem hx
  have := h k hk
  simp [hk] at this
  simp [this]

/-- What IndexFunc returns. -/
def IdxOf (l : List Int) (p : Int → Bool) (r : Int) : Prop := if l.any p = true then 0 ≤ r else r = -1

theorem indexFunc_any (c : FuncId) (cap : Array Value) (p : Int → Bool) (v : Value) (l : List Int) (w : World) (hl : Sl w v l) (hb : ∀ x ∈ l, I64 x) (ht : Tests c cap p w) :
    Calls Try.prog 54 #[v, .func (.func c) #[] cap] w fun e w' => (∃ r : Int, e = .returned (.int .i64 r) ∧ IdxOf l p r) ∧ w = w' := by
  obtain ⟨a, k, N, rfl, hN, hl1, hl2⟩ := hl.open
  have HT := hid ht.calls
  have he := ht.enter
  have HB : Hid (∀ k : Nat, k < N → I64 (l[k]?.getD 0)) := by
    rw [← hN.out]
    intro k hk
    simpa [hk] using hb _ (List.getElem_mem hk)
  have HY : Hid (∀ k : Nat, k < N → p (l[k]?.getD 0) = true → IdxOf l p k) := by
    rw [← hN.out]
    intro k hk hp
    unfold IdxOf
    rw [if_pos (any_true hk hp)]
    omega
  have HZ : Hid ((∀ k : Nat, k < N → p (l[k]?.getD 0) = false) → IdxOf l p (-1)) := by
    rw [← hN.out]
    intro h
    unfold IdxOf
    rw [if_neg (by rw [any_false h]; simp)]
  clear hl ht hb
  go_enter Try.func54, Try.ntmps54
  go_wp2
  go_loop [8] (fun i => ∃ k : Nat, k ≤ N ∧ i = .int .i64 k ∧ Hid (∀ j : Nat, j < k → p (l[j]?.getD 0) = false)) (fun i => N - (intOf i).toNat)
  case atStart => exact ⟨0, Nat.zero_le _, rfl, hid (fun j hj => by omega)⟩
  case round =>
    obtain ⟨k, hk, rfl, hno⟩ := hrel
    by_cases hlt : k < N
    · obtain ⟨b, off, rfl, hb, hc⟩ := hl2 (by omega)
      have c1 := hc k hlt
      clear hc hl2
      go_wp2_with fail
      refine (HT.out _ (HB.out k hlt)).mono ?_
      rintro e w' ⟨rfl, rfl⟩
      cases hp : p (l[k]?.getD 0) with
      | false =>
        have HP := hid hp
        clear hp
        go_wp2
        go_round
        case rel => exact ⟨k + 1, by omega, by go_num, hid (fun j hj => by
          by_cases e : j = k
          · rw [e]; exact HP.out
          · exact hno.out j (by omega))⟩
        case measure => simp [intOf] <;> omega
      | true =>
        have HP := hid (HY.out k hlt hp)
        clear hp
        go_wp2
        go_ret
        exact ⟨⟨_, rfl, HP.out⟩, rfl⟩
    · obtain rfl : k = N := by omega
      go_wp2
      go_ret
      exact ⟨⟨_, rfl, HZ.out hno.out⟩, rfl⟩

theorem containsFunc_any (c : FuncId) (cap : Array Value) (p : Int → Bool) (v : Value) (l : List Int) (w : World) (hl : Sl w v l) (hb : ∀ x ∈ l, I64 x) (ht : Tests c cap p w) :
    Calls Try.prog 51 #[v, .func (.func c) #[] cap] w fun e w' => e = .returned (.bool (l.any p)) ∧ w = w' := by
  have H := hid (indexFunc_any c cap p v l w hl hb ht)
  clear ht
  go_enter Try.func51, Try.ntmps51
  go_wp2_with fail
  refine H.out.mono ?_
  rintro e w' ⟨⟨r, rfl, hr⟩, rfl⟩
  unfold IdxOf at hr
  cases hp : l.any p with
  | true =>
    rw [hp] at hr
    have hr2 : 0 ≤ r := by simpa using hr
    have HP := hid hp
    clear hr hp
    go_wp2
    go_ret
    exact ⟨by rw [HP.out]; rfl, rfl⟩
  | false =>
    rw [hp] at hr
    have hr2 : r < 0 := by have : r = -1 := by simpa using hr
                           omega
    have HP := hid hp
    clear hr hp
    go_wp2
    go_ret
    refine ⟨?_, rfl⟩
    rw [HP.out]
    show Ending.returned (.bool (decide (0 ≤ r))) = _
    rw [decide_eq_false (by omega)]
end Go.Proofs.Ytlnfkkapepgilaa
