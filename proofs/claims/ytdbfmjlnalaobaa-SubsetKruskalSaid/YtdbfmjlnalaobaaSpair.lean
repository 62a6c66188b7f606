/-
  Each two of a family: the walks over subset.pairs, its two tests, and parterreref4's ApartOf and CrossOf. Conditions: the slice can be read and holds natural numbers below 2^12.
-/
import Derived.Test.YtdbfmjlnalaobaaSfam
namespace Go.Proofs.Ytdbfmjlnalaobaa
set_option linter.unusedVariables false
open Go.RowKit

/-- A family: its numbers. -/
structure FamL (l : List Int) (F : Nat → Nat) (N : Nat) : Prop where
  len : l.length = N
  at' : ∀ k, k < N → l[k]?.getD 0 = (F k : Int)
  bd : ∀ k, k < N → F k < 4096

/-- A function value that answers by a test on two numbers, and leaves the world alone. -/
structure Tests2 (c : FuncId) (p : Nat → Nat → Bool) : Prop where
  enter : ∀ (args : Array Value) (w : World), (callFunc c args).run Try.prog w = .ok (.enter c args) w
  calls : ∀ (x y : Nat) (w : World), x < 4096 → y < 4096 → Calls Try.prog c #[.int .i64 x, .int .i64 y] w fun e w' => e = .returned (.bool (p x y)) ∧ w = w'

def rowB (F : Nat → Nat) (p : Nat → Nat → Bool) (i j : Nat) : Bool := (List.range j).all fun t => p (F i) (F t)
def pairB (F : Nat → Nat) (p : Nat → Nat → Bool) (k : Nat) : Bool := (List.range k).all fun i => rowB F p i i
theorem pair_no {F : Nat → Nat} {p : Nat → Nat → Bool} {N i j : Nat} (hi : i < N) (hj : j < i) (h : p (F i) (F j) = false) : pairB F p N = false := by
  rw [Bool.eq_false_iff]
  intro h2
  have h3 := List.all_eq_true.1 h2 i (List.mem_range.2 hi)
  have h4 := List.all_eq_true.1 h3 j (List.mem_range.2 hj)
  rw [h] at h4
  cases h4
theorem pair_yes {F : Nat → Nat} {p : Nat → Nat → Bool} {N : Nat} (h : ∀ i, i < N → ∀ j, j < i → p (F i) (F j) = true) : pairB F p N = true :=
  List.all_eq_true.2 fun i hi => List.all_eq_true.2 fun j hj => h i (List.mem_range.1 hi) j (List.mem_range.1 hj)

theorem pairs_any (c : FuncId) (p : Nat → Nat → Bool) (v : Value) (l : List Int) (F : Nat → Nat) (N : Nat) (w : World) (hl : Sl w v l) (hF : FamL l F N) (ht : Tests2 c p) :
    Calls Try.prog 39 #[v, .func (.func c) #[] #[]] w fun e w' => e = .returned (.bool (pairB F p N)) ∧ w = w' := by
  obtain ⟨a, cp, N', rfl, hN, hl1, hl2⟩ := hl.open
  obtain rfl : N' = N := by rw [← hN.out, hF.len]
  have HT := hid ht.calls
  have he := ht.enter
  have HA := hid hF.at'
  have HB := hid hF.bd
  have HNO := hid (fun i j (hi : i < N') (hj : j < i) (h : p (F i) (F j) = false) => pair_no hi hj h)
  have HYES := hid (fun h => pair_yes (F := F) (p := p) (N := N') h)
  clear hl hF ht
  generalize pairB F p N' = R at *
  go_enter Try.func39, Try.ntmps39
  go_wp2
  go_loop [11] (fun i => ∃ k : Nat, k ≤ N' ∧ i = .int .i64 k ∧ Hid (∀ i, i < k → ∀ j, j < i → p (F i) (F j) = true)) (fun i => N' - (intOf i).toNat)
  case atStart => exact ⟨0, Nat.zero_le _, rfl, hid (fun i hi => by omega)⟩
  case round =>
    obtain ⟨k, hk, rfl, hno⟩ := hrel
    by_cases hlt : k < N'
    · obtain ⟨b, off, rfl, hb, hc⟩ := hl2 (by omega)
      have c1 := hc k hlt
      rw [HA.out k hlt] at c1
      have HC := hid (fun j (hj : j < N') => (hc j hj).trans (by rw [HA.out j hj]))
      have hbk := HB.out k hlt
      have hkc : k ≤ cp := by omega
      clear hc hl2
      go_wp2
      go_loop [20] (fun i => ∃ j : Nat, j ≤ k ∧ i = .int .i64 j ∧ Hid (∀ t, t < j → p (F k) (F t) = true)) (fun i => k - (intOf i).toNat)
      case atStart => exact ⟨0, Nat.zero_le _, rfl, hid (fun i hi => by omega)⟩
      case round =>
        obtain ⟨j, hj, rfl, hnj⟩ := hrel
        by_cases hjk : j < k
        · have c2 := HC.out j (by omega)
          have hbj := HB.out j (by omega)
          have HTK := hid (HT.out (F k) (F j) w hbk hbj)
          go_wp2_with fail
          refine HTK.out.mono ?_
          rintro e w' ⟨rfl, rfl⟩
          cases hp : p (F k) (F j) with
          | false =>
            have HP := hid (HNO.out k j hlt hjk hp)
            clear hp
            go_wp2
            go_ret
            exact ⟨by rw [HP.out]; rfl, rfl⟩
          | true =>
            have HP := hid hp
            clear hp
            go_wp2
            go_round
            case rel => exact ⟨j + 1, by omega, by go_num, hid (fun t ht => by
              by_cases e : t = j
              · rw [e]; exact HP.out
              · exact hnj.out t (by omega))⟩
            case measure => simp [intOf] <;> omega
        · obtain rfl : j = k := by omega
          go_wp2
          go_round
          case rel => exact ⟨j + 1, by omega, by go_num, hid (fun t ht => by
            by_cases e : t = j
            · rw [e]; exact hnj.out
            · exact hno.out t (by omega))⟩
          case measure => simp [intOf] <;> omega
    · obtain rfl : k = N' := by omega
      have HP := hid (HYES.out hno.out)
      go_wp2
      go_ret
      exact ⟨by rw [HP.out]; rfl, rfl⟩

def apartB (a b : Nat) : Bool := !(a &&& b == a) && !(a &&& b == b)
def crossB (a b : Nat) : Bool := !(a &&& b == 0)
theorem eq_cast (a b : Nat) : ((a : Int) == (b : Int)) = (a == b) := by
  by_cases h : a = b
  · subst h; simp
  · rw [show (a == b) = false by simpa using h]
    have : ¬ (a : Int) = (b : Int) := by omega
    simpa using this
theorem ne_cast (a b : Nat) : ((a : Int) != (b : Int)) = !(a == b) := by
  rw [← eq_cast]; rfl

theorem apart1_any (x y : Nat) (w : World) (hx : x < 4096) (hy : y < 4096) :
    Calls Try.prog 40 #[.int .i64 x, .int .i64 y] w fun e w' => e = .returned (.bool (apartB x y)) ∧ w = w' := by
  have h1 := and_i64 x y (by omega) (by omega)
  have n1 := ne_cast (x &&& y) x
  have n2 := ne_cast (x &&& y) y
  have HB : Hid (apartB x y = (!(x &&& y == x) && !(x &&& y == y))) := hid rfl
  generalize x &&& y = z at *
  cases h2 : (z == x) with
  | true =>
    rw [h2] at n1 HB
    go_enter Try.func40, Try.ntmps40
    go_wp2
    go_ret
    exact ⟨by rw [HB.out]; rfl, rfl⟩
  | false =>
    rw [h2] at n1 HB
    go_enter Try.func40, Try.ntmps40
    go_wp2
    go_ret
    exact ⟨by rw [HB.out]; rfl, rfl⟩
theorem apart1_tests : Tests2 40 apartB where
  enter := run_callFunc_own Try.func40 (by kernel_rfl) (by kernel_rfl)
  calls := fun x y w hx hy => apart1_any x y w hx hy
theorem cross1_any (x y : Nat) (w : World) (hx : x < 4096) (hy : y < 4096) :
    Calls Try.prog 42 #[.int .i64 x, .int .i64 y] w fun e w' => e = .returned (.bool (crossB x y)) ∧ w = w' := by
  have h1 := and_i64 x y (by omega) (by omega)
  have n1 := ne_cast (x &&& y) 0
  have HB : Hid (crossB x y = !(x &&& y == 0)) := hid rfl
  generalize x &&& y = z at *
  rw [← HB.out] at n1
  generalize crossB x y = r at *
  clear HB
  go_enter Try.func42, Try.ntmps42
  go_wp2
  go_ret
  exact ⟨by rw [← n1]; rfl, rfl⟩
theorem cross1_tests : Tests2 42 crossB where
  enter := run_callFunc_own Try.func42 (by kernel_rfl) (by kernel_rfl)
  calls := fun x y w hx hy => cross1_any x y w hx hy
end Go.Proofs.Ytdbfmjlnalaobaa
