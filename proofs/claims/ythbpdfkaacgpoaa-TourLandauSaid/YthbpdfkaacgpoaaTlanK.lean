/-
  Of up to 5 players: scores that can be are those of some tournament: one for each. No program in sight.
-/
import Derived.Test.YthbpdfkaacgpoaaTsome
import Derived.Test.YthbpdfkaacgpoaaTcould
namespace Go.Proofs.Ythbpdfkaacgpoaa
set_option linter.unusedVariables false
open Go.RowKit

/-- All lists of so many numbers below N. -/
def allL (N : Nat) : Nat → List (List Int)
  | 0 => [[]]
  | k + 1 => (List.range N).flatMap fun x : Nat => (allL N k).map fun t => (x : Int) :: t
theorem allL_mem (N : Nat) : ∀ (l : List Int), (∀ x ∈ l, 0 ≤ x ∧ x < N) → l ∈ allL N l.length
  | [], _ => by simp [allL]
  | x :: l, h => by
    rw [List.length_cons, allL, List.mem_flatMap]
    have hx := h x (by simp)
    refine ⟨x.toNat, List.mem_range.2 (by omega), List.mem_map.2 ⟨l, allL_mem N l (fun y hy => h y (by simp [hy])), ?_⟩⟩
    rw [Int.toNat_of_nonneg hx.1]
def eqZ : List Int → List Int → Bool
  | [], [] => true
  | x :: l, y :: m => (decide (0 ≤ x) && Nat.beq x.toNat y.toNat) && eqZ l m
  | _, _ => false
theorem eqZ_eq : ∀ (l m : List Int), (∀ x ∈ m, 0 ≤ x) → eqZ l m = true → l = m
  | [], [], _, _ => rfl
  | x :: l, y :: m, h2, h => by
    rw [eqZ, Bool.and_eq_true, Bool.and_eq_true, decide_eq_true_iff] at h
    have hy := h2 y (by simp)
    have h3 := Nat.eq_of_beq_eq_true h.1.2
    rw [eqZ_eq l m (fun z hz => h2 z (by simp [hz])) h.2, show x = y by omega]
  | [], _ :: _, _, h => by cases h
  | _ :: _, [], _, h => by cases h
def couS (l : List Int) : Bool := couB (insI ltI 0 l.length l) l.length
/-- One for each that can be. -/
def witS (N P : Nat) : List (List Int) → List Nat → Bool
  | [], _ => true
  | l :: L, W => match couS l with
    | false => witS N P L W
    | true => match W with
      | [] => false
      | c :: W' => (Nat.blt c P && eqZ (scL N (celA N c N)) l) && witS N P L W'
theorem witS_ok {N P : Nat} : ∀ (L : List (List Int)) (W : List Nat), witS N P L W = true → ∀ l ∈ L, (∀ x ∈ l, 0 ≤ x) → couS l = true → ∃ c, c < P ∧ scL N (celA N c N) = l
  | [], _, _, l, hl, _, _ => by cases hl
  | l0 :: L, W, h, l, hl, hx, hs => by
    rw [witS.eq_def] at h
    dsimp only at h
    cases h0 : couS l0 with
    | false =>
      simp only [h0] at h
      rcases List.mem_cons.1 hl with e | e
      · rw [e, h0] at hs; cases hs
      · exact witS_ok L W h l e hx hs
    | true =>
      simp only [h0] at h
      cases W with
      | nil => cases h
      | cons c W =>
        simp only [Bool.and_eq_true] at h
        rcases List.mem_cons.1 hl with e | e
        · subst e
          have := h.1.1
          rw [Nat.blt, Nat.ble_eq] at this
          exact ⟨c, this, eqZ_eq _ _ hx h.1.2⟩
        · exact witS_ok L W h.2 l e hx hs
set_option maxRecDepth 1000000 in
theorem wit_1 : witS 1 1 (allL 1 1) [0] = true := by decide +kernel
set_option maxRecDepth 1000000 in
theorem wit_2 : witS 2 2 (allL 2 2) [1, 0] = true := by decide +kernel
set_option maxRecDepth 1000000 in
theorem wit_3 : witS 3 8 (allL 3 3) [7, 3, 6, 2, 1, 4, 0] = true := by decide +kernel
set_option maxRecDepth 1000000 in
theorem wit_4 : witS 4 64 (allL 4 4) [63, 31, 59, 27, 15, 43, 11, 62, 30, 58, 26, 14, 57, 25, 10, 7, 41, 9, 3, 60, 28, 22, 56, 24, 12, 6, 40, 8, 2, 33, 1, 52, 20, 48, 16, 4, 32, 0] = true := by decide +kernel
set_option maxRecDepth 1000000 in
theorem wit_5_0 : witS 5 1024 ((allL 5 4).map fun t => ((0 : Nat) : Int) :: t) [1023, 511, 991, 479, 255, 735, 223, 1019, 507, 987, 475, 251, 975, 463, 219, 127, 719, 207, 95, 1003, 491, 379, 971, 459, 235, 123, 715, 203, 91, 591, 79, 875, 363, 843, 331, 107, 587, 75] = true := by decide +kernel
set_option maxRecDepth 1000000 in
theorem wit_5_1 : witS 5 1024 ((allL 5 4).map fun t => ((1 : Nat) : Int) :: t) [1022, 510, 990, 478, 254, 734, 222, 1018, 506, 986, 474, 250, 974, 462, 218, 126, 718, 206, 94, 1017, 505, 985, 473, 249, 970, 458, 217, 122, 967, 455, 202, 90, 63, 711, 199, 78, 31, 1001, 489, 377, 969, 457, 233, 121, 963, 451, 201, 89, 59, 707, 195, 74, 27, 583, 71, 15, 873, 361, 841, 329, 105, 835, 323, 73, 43, 579, 67, 11] = true := by decide +kernel
set_option maxRecDepth 1000000 in
theorem wit_5_2 : witS 5 1024 ((allL 5 4).map fun t => ((2 : Nat) : Int) :: t) [1020, 508, 988, 476, 252, 982, 470, 220, 190, 726, 214, 158, 1016, 504, 984, 472, 248, 972, 460, 216, 124, 966, 454, 204, 92, 62, 710, 198, 86, 30, 1000, 488, 376, 968, 456, 232, 120, 962, 450, 200, 88, 58, 706, 194, 76, 26, 582, 70, 14, 993, 481, 360, 313, 961, 449, 225, 104, 57, 705, 193, 72, 25, 578, 66, 10, 519, 7, 865, 353, 297, 833, 321, 97, 41, 577, 65, 9, 515, 3] = true := by decide +kernel
set_option maxRecDepth 1000000 in
theorem wit_5_3 : witS 5 1024 ((allL 5 4).map fun t => ((3 : Nat) : Int) :: t) [1012, 500, 444, 980, 468, 244, 188, 724, 212, 156, 662, 150, 1008, 496, 440, 976, 464, 240, 184, 964, 452, 208, 116, 60, 708, 196, 84, 28, 646, 134, 22, 992, 480, 368, 312, 960, 448, 224, 112, 56, 704, 192, 80, 24, 580, 68, 12, 518, 6, 864, 352, 296, 832, 320, 96, 40, 576, 64, 8, 514, 2, 801, 289, 769, 257, 33, 513, 1] = true := by decide +kernel
set_option maxRecDepth 1000000 in
theorem wit_5_4 : witS 5 1024 ((allL 5 4).map fun t => ((4 : Nat) : Int) :: t) [948, 436, 916, 404, 180, 660, 148, 944, 432, 912, 400, 176, 900, 388, 144, 52, 644, 132, 20, 928, 416, 304, 896, 384, 160, 48, 640, 128, 16, 516, 4, 800, 288, 768, 256, 32, 512, 0] = true := by decide +kernel
theorem wit_ex {N : Nat} (h1 : 1 ≤ N) (h5 : N ≤ 5) : ∀ l ∈ allL N N, (∀ x ∈ l, 0 ≤ x) → couS l = true → ∃ c, c < 2 ^ (N * (N - 1) / 2) ∧ scL N (celA N c N) = l := by
  intro l hl hx hs
  have : N = 1 ∨ N = 2 ∨ N = 3 ∨ N = 4 ∨ N = 5 := by omega
  rcases this with h | h | h | h | h <;> subst h
  · exact witS_ok _ _ wit_1 l hl hx hs
  · exact witS_ok _ _ wit_2 l hl hx hs
  · exact witS_ok _ _ wit_3 l hl hx hs
  · exact witS_ok _ _ wit_4 l hl hx hs
  · rw [show allL 5 5 = (List.range 5).flatMap fun x : Nat => (allL 5 4).map fun t => (x : Int) :: t from rfl, List.mem_flatMap] at hl
    obtain ⟨x, hx5, hl⟩ := hl
    have hx5 := List.mem_range.1 hx5
    have : x = 0 ∨ x = 1 ∨ x = 2 ∨ x = 3 ∨ x = 4 := by omega
    rcases this with h | h | h | h | h <;> subst h
    · exact witS_ok _ _ wit_5_0 l hl hx hs
    · exact witS_ok _ _ wit_5_1 l hl hx hs
    · exact witS_ok _ _ wit_5_2 l hl hx hs
    · exact witS_ok _ _ wit_5_3 l hl hx hs
    · exact witS_ok _ _ wit_5_4 l hl hx hs
end Go.Proofs.Ythbpdfkaacgpoaa
