/-
  Plain laws of Bruijn's words: as word.Bruijn makes them out of Lyndon words, as parterreref4.BruijnOf makes them greedily; held against each other at all numbers that may be. No program in sight, no condition.
-/
import Derived.Test.YtiohfgofoklncaaMob
namespace Go.Proofs.Ytiohfgofoklncaa

/-- Without the greatest letters at the end. -/
def trim (x : Int) (l : List Int) : List Int := (l.reverse.dropWhile (· == x)).reverse
theorem trim_snoc (x : Int) (l : List Int) : trim x (l ++ [x]) = trim x l := by simp [trim]
theorem trim_last (x y : Int) (l : List Int) (h : y ≠ x) : trim x (l ++ [y]) = l ++ [y] := by simp [trim, h]
theorem trim_nil (x : Int) : trim x [] = [] := rfl
/-- The last number raised. -/
def bump (l : List Int) : List Int := match l.reverse with | [] => [] | x :: r => (((x + 1) :: r)).reverse
theorem bump_snoc (l : List Int) (x : Int) : bump (l ++ [x]) = l ++ [x + 1] := by simp [bump]
/-- A word again and again, so long. -/
def round' (l : List Int) (m : Nat) : List Int := (List.range m).map fun i => l.getD (i % l.length) 0
theorem round_succ (l : List Int) (m : Nat) : round' l (m + 1) = round' l m ++ [l.getD (m % l.length) 0] := by simp [round', List.range_succ]
theorem round_len (l : List Int) (m : Nat) : (round' l m).length = m := by simp [round']
/-- word.next. -/
def nextL (k : Int) (l : List Int) (m : Nat) : List Int := bump (trim (k - 1) (round' l m))

/-- word.Bruijn, round by round: at most so many rounds. -/
def brRun (k : Int) (n : Nat) : Nat → List Int → List Int → Option (List Int)
  | 0, _, _ => none
  | f + 1, w, out => if w.length = 0 then some out else brRun k n f (nextL k w n) (if n % w.length = 0 then out ++ w else out)
def bru (k n : Nat) : List Int := (brRun k n 5000 [0] []).getD []

/-- The least number that makes a new list: seen is a set of codes. -/
def pick (k all code seen : Nat) : Nat → Nat → Option Nat
  | 0, _ => none
  | f + 1, x => if x < k then (if seen.testBit ((code * k + x) % all) then pick k all code seen f (x + 1) else some x) else none
/-- parterreref4.BruijnOf, round by round (backwards list). -/
def greedy (k all : Nat) : Nat → Nat → Nat → List Int → List Int
  | 0, _, _, out => out
  | f + 1, code, seen, out => match pick k all code seen (k + 1) 0 with
    | some x => greedy k all f ((code * k + x) % all) (seen ||| 2 ^ ((code * k + x) % all)) ((x : Int) :: out)
    | none => greedy k all f code seen out
def greed (k n : Nat) : List Int := (greedy k (k ^ n) (k ^ n) (k ^ n - 1) 0 []).reverse

/-- Is it so much of a list, and what is left? -/
def ahead' : List Int → List Int → Option (List Int)
  | [], g => some g
  | x :: l, y :: g => if x = y then ahead' l g else none
  | _ :: _, [] => none
theorem ahead'_spec : ∀ {l g r : List Int}, ahead' l g = some r → g = l ++ r
  | [], g, r, h => by simp [ahead'] at h; simp [h]
  | x :: l, y :: g, r, h => by
    simp only [ahead'] at h
    split at h
    · rename_i e; rw [e, ahead'_spec h]; rfl
    · cases h
  | _ :: _, [], _, h => by simp [ahead'] at h
/-- word.Bruijn's rounds held against a list. -/
def brChk (k : Int) (n : Nat) : Nat → List Int → List Int → Bool
  | 0, _, _ => false
  | f + 1, w, g => match w with
    | [] => g.isEmpty
    | x :: w => if n % (x :: w).length = 0 then (match ahead' (x :: w) g with | some r => brChk k n f (nextL k (x :: w) n) r | none => false) else brChk k n f (nextL k (x :: w) n) g
theorem brChk_spec {k : Int} {n : Nat} : ∀ {f : Nat} {w g out : List Int}, brChk k n f w g = true → brRun k n f w out = some (out ++ g)
  | 0, _, _, _, h => by simp [brChk] at h
  | f + 1, [], g, out, h => by
    simp [brChk] at h
    simp [brRun, h]
  | f + 1, x :: w, g, out, h => by
    simp only [brChk] at h
    simp only [brRun]
    rw [if_neg (by simp)]
    split at h
    · rename_i hd
      rw [if_pos hd]
      split at h
      · rename_i r hr
        rw [brChk_spec h, ahead'_spec hr, List.append_assoc]
      · cases h
    · rename_i hd
      rw [if_neg hd]
      exact brChk_spec h

def pairOk (k n : Nat) : Bool := decide (1 ≤ k ∧ k ≤ 10 ∧ 1 ≤ n ∧ n ≤ 12 ∧ k ^ n ≤ 4096)
def bruCheck (k n : Nat) : Bool := brChk k n 5000 [0] (greed k n)
def bruK (k : Nat) : Bool := allB (fun n => !pairOk k n || bruCheck k n) 13
theorem bru_1 : bruK 1 = true := by decide +kernel
theorem bru_2 : bruK 2 = true := by decide +kernel
theorem bru_3 : bruK 3 = true := by decide +kernel
theorem bru_4 : bruK 4 = true := by decide +kernel
theorem bru_5 : bruK 5 = true := by decide +kernel
theorem bru_6 : bruK 6 = true := by decide +kernel
theorem bru_7 : bruK 7 = true := by decide +kernel
theorem bru_8 : bruK 8 = true := by decide +kernel
theorem bru_9 : bruK 9 = true := by decide +kernel
theorem bru_10 : bruK 10 = true := by decide +kernel

theorem bru_k {k : Nat} (h1 : 1 ≤ k) (h2 : k ≤ 10) : bruK k = true := by
  have : k = 1 ∨ k = 2 ∨ k = 3 ∨ k = 4 ∨ k = 5 ∨ k = 6 ∨ k = 7 ∨ k = 8 ∨ k = 9 ∨ k = 10 := by omega
  rcases this with rfl | rfl | rfl | rfl | rfl | rfl | rfl | rfl | rfl | rfl
  · exact bru_1
  · exact bru_2
  · exact bru_3
  · exact bru_4
  · exact bru_5
  · exact bru_6
  · exact bru_7
  · exact bru_8
  · exact bru_9
  · exact bru_10

/-- word.Bruijn's rounds make the greedy list. -/
theorem bru_eq {k n : Nat} (h1 : 1 ≤ k) (h2 : k ≤ 10) (h3 : 1 ≤ n) (h4 : n ≤ 12) (h5 : k ^ n ≤ 4096) : brRun k n 5000 [0] [] = some (greed k n) := by
  have h := allB_spec (bru_k h1 h2) n (by omega)
  have hp : pairOk k n = true := decide_eq_true ⟨h1, h2, h3, h4, h5⟩
  rw [hp] at h
  simp only [Bool.not_true, Bool.false_or] at h
  exact brChk_spec (out := []) h
end Go.Proofs.Ytiohfgofoklncaa
