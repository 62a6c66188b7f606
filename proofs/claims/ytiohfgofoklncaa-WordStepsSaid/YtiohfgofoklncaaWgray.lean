/-
  Walks over word.Gray, word.Place, parterreref4.GrayOf and parterreref1.Ints: what each returns. No condition but the ranges that each theorem states.
-/
import Derived.Test.YtiohfgofoklncaaBase
namespace Go.Proofs.Ytiohfgofoklncaa
open Go.RowKit

/-- Gray's numbers. -/
def gray (i : Nat) : Nat := i ^^^ (i / 2)
def grays (k : Nat) : List Int := (List.range k).map fun i => ((gray i : Nat) : Int)
theorem grays_len (k : Nat) : (grays k).length = k := by simp [grays]
theorem grays_succ (k : Nat) : grays (k + 1) = grays k ++ [((gray k : Nat) : Int)] := by simp [grays, List.range_succ]

theorem gray_no (n : Int) (w : World) (h : n < 0 ∨ 12 < n) :
    Calls Try.prog 12 #[.int .i64 n] w fun e w' => e = .returned (.tuple #[.slice none 0 0, .int .i64 1]) ∧ w = w' := by
  rcases h with h | h
  all_goals
    go_enter Try.func12, Try.ntmps12
    go_wp2
    all_goals (go_ret2; exact ⟨rfl, rfl⟩)

theorem gray_yes (n : Nat) (w : World) (h : n ≤ 12) :
    Calls Try.prog 12 #[.int .i64 n] w fun e w' => ∃ v, e = .returned (.tuple #[v, .int .i64 0]) ∧ OI w.heap.size w' v (grays (2 ^ n)) ∧ Below w.heap.size w w' := by
  have hp : 2 ^ n ≤ 4096 := by
    have := Nat.pow_le_pow_right (n := 2) (by decide) h
    simpa using this
  obtain ⟨m, hm⟩ : ∃ m : Nat, m = 2 ^ n := ⟨_, rfl⟩
  rw [← hm] at hp ⊢
  have hw : wrap64 ((2 : Int) ^ n) = (m : Int) := by
    rw [hm]; rw [hm] at hp
    have : ((2 ^ n : Nat) : Int) = (2 : Int) ^ n := by simp
    rw [← this]; exact IntWalk.wrap64_in _ (by omega)
  have HW := hid hw
  clear hw hm
  go_enter Try.func12, Try.ntmps12
  go_wp2
  rw [HW.out]
  go_loopw [4, 14] (fun v i wr => ∃ k : Nat, k ≤ m ∧ i = .int .i64 k ∧ OI w.heap.size wr v (grays k) ∧ Below w.heap.size w wr) (fun _ i _ => m - (intOf i).toNat)
  case atStart => exact ⟨0, Nat.zero_le _, rfl, OI.nil _ _, Below.refl _ _⟩
  case round =>
    obtain ⟨k, hk, rfl, hown, hb⟩ := hrel
    by_cases hlt : k < m
    · have hB := hb.size
      have hl := grays_len k
      have HX : Hid (bits .xor .i64 (k : Int) ((k : Int) / 2) = ((gray k : Nat) : Int)) := hid (xor_i64 k (k / 2) (by omega) (by omega))
      have HL := hid hl
      have hl2 : (grays k).length ≤ 1000000000000 := by omega
      clear hl
      go_wp2_with (at_builtin; refine wpList_appi wr _ _ 23 rfl rfl Try.underlying23 Try.info3 w.heap.size _ _ rfl hown rfl hl2 hB ?_; intro g c w1 hown1 hg1 hg2 hg3)
      go_roundw
      case rel => exact ⟨k + 1, by omega, by go_num, hown1.cast (by rw [HX.out, grays_succ]), hown.grown hb hg1 hB⟩
      case measure => simp [intOf]; omega
    · obtain rfl : k = m := by omega
      go_wp2
      go_ret2
      exact ⟨_, rfl, hown, hb⟩

/-- Place, by halves. -/
def placeF : Nat → Nat → Nat
  | 0, _ => 0
  | f + 1, x => x ^^^ placeF f (x / 2)
theorem placeF_zero (f : Nat) : placeF f 0 = 0 := by
  induction f with
  | zero => rfl
  | succ f ih => simp [placeF, ih]

theorem placeF_lt {y f : Nat} (h0 : 0 < y) (h : y < 2 ^ f) : y / 2 < 2 ^ (f - 1) := by
  cases f with
  | zero => simp at h; omega
  | succ f => rw [Nat.pow_succ] at h; simp; omega
theorem placeF_xor {k y : Nat} (hk : k < 4096) (hy : y < 4096) : k ^^^ y < 4096 := Nat.xor_lt_two_pow (n := 12) hk hy
theorem placeF_step {y f k r : Nat} (h0 : 0 < y) (h : y < 2 ^ f) (hq : k ^^^ placeF f y = r) : (k ^^^ y) ^^^ placeF (f - 1) (y / 2) = r := by
  cases f with
  | zero => simp at h; omega
  | succ f => rw [← hq]; simp [placeF, Nat.xor_assoc]

theorem place_no (n x : Int) (w : World) (h : n < 0 ∨ 12 < n ∨ x < 0) :
    Calls Try.prog 15 #[.int .i64 n, .int .i64 x] w fun e w' => e = .returned (.tuple #[.int .i64 0, .int .i64 1]) ∧ w = w' := by
  rcases h with h | h | h
  all_goals
    go_enter Try.func15, Try.ntmps15
    go_wp2
    all_goals (go_ret2; exact ⟨rfl, rfl⟩)

theorem pow_cast (n : Nat) : ((2 ^ n : Nat) : Int) = (2 : Int) ^ n := by simp
theorem pow_le12 {n : Nat} (h : n ≤ 12) : 2 ^ n ≤ 4096 := by
  have := Nat.pow_le_pow_right (n := 2) (by decide) h
  simpa using this
theorem wrap_pow12 {n : Nat} (h : n ≤ 12) : wrap64 ((2 : Int) ^ n) = ((2 ^ n : Nat) : Int) := by
  have := pow_le12 h
  rw [← pow_cast]; generalize 2 ^ n = m at *; exact IntWalk.wrap64_in _ (by omega)

theorem place_far (n : Nat) (x : Int) (w : World) (hn : n ≤ 12) (h : ((2 ^ n : Nat) : Int) ≤ x) :
    Calls Try.prog 15 #[.int .i64 n, .int .i64 x] w fun e w' => e = .returned (.tuple #[.int .i64 0, .int .i64 1]) ∧ w = w' := by
  have h1 : wrap64 ((2 : Int) ^ n) ≤ x := by rw [wrap_pow12 hn]; exact h
  have h2 : 0 ≤ x := by generalize 2 ^ n = m at *; omega
  clear h
  go_enter Try.func15, Try.ntmps15
  go_wp2
  go_ret2
  exact ⟨rfl, rfl⟩

theorem place_yes (n x : Nat) (w : World) (hn : n ≤ 12) (h : x < 2 ^ n) :
    Calls Try.prog 15 #[.int .i64 n, .int .i64 x] w fun e w' => e = .returned (.tuple #[.int .i64 (placeF 13 x : Nat), .int .i64 0]) ∧ w = w' := by
  have h1 : ¬ wrap64 ((2 : Int) ^ n) ≤ x := by rw [wrap_pow12 hn]; omega
  have hp : x < 4096 := by have := pow_le12 hn; omega
  clear h
  go_enter Try.func15, Try.ntmps15
  go_wp2
  go_loop [1, 6] (fun i o => ∃ y k : Nat, ∃ f : Nat, y ≤ x ∧ f ≤ 13 ∧ y < 2 ^ f ∧ i = .int .i64 y ∧ o = .int .i64 k ∧ k < 4096 ∧ k ^^^ placeF f y = placeF 13 x) (fun i _ => (intOf i).toNat)
  case atStart => exact ⟨x, 0, 13, Nat.le_refl _, Nat.le_refl _, by omega, rfl, rfl, by omega, by simp⟩
  case round =>
    obtain ⟨y, k, f, hy, hf, hyf, rfl, rfl, hk, hq⟩ := hrel
    have HQ := hid hq
    have HF := hid hyf
    clear hq hyf
    by_cases hlt : 0 < y
    · have HX := hid (xor_i64 k y (by omega) (by omega))
      go_wp2
      go_round
      case rel => exact ⟨y / 2, k ^^^ y, f - 1, by omega, by omega, placeF_lt hlt HF.out, by go_num, by rw [HX.out], placeF_xor hk (by omega), placeF_step hlt HF.out HQ.out⟩
      case measure => simp [intOf]; omega
    · obtain rfl : y = 0 := by omega
      go_wp2
      go_ret2
      obtain rfl : k = placeF 13 x := by have := HQ.out; rwa [placeF_zero, Nat.xor_zero] at this
      exact ⟨rfl, rfl⟩

end Go.Proofs.Ytiohfgofoklncaa
