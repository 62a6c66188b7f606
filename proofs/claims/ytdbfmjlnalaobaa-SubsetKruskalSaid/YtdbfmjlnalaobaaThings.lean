/-
  The walks over parterreref4.Things (how many things are in a set) and subset.alone (which brackets are alone). Conditions: numbers below 2^13 ; at most 12 things.
-/
import Derived.Test.YtdbfmjlnalaobaaBase
namespace Go.Proofs.Ytdbfmjlnalaobaa
set_option linter.unusedVariables false
open Go.RowKit

def popF : Nat → Nat → Nat
  | 0, _ => 0
  | f + 1, s => s % 2 + popF f (s / 2)
def pop (s : Nat) : Nat := popF 13 s
theorem popF_zero : ∀ f, popF f 0 = 0
  | 0 => rfl
  | f + 1 => by simp [popF, popF_zero f]
theorem popF_le : ∀ f s, popF f s ≤ f
  | 0, _ => Nat.le_refl _
  | f + 1, s => by have := popF_le f (s / 2); simp only [popF]; omega
theorem things_ok (s : Nat) (w : World) (hs : s < 8192) :
    Calls Try.prog 34 #[.int .i64 s] w fun e w' => e = .returned (.int .i64 (pop s : Nat)) ∧ w = w' := by
  have HF : Hid (∀ f s, popF (f + 1) s = s % 2 + popF f (s / 2)) := hid (fun f s => rfl)
  have HZ := hid popF_zero
  have HL := hid popF_le
  have HP : Hid (pop s = popF 13 s) := hid rfl
  rw [HP.out]
  generalize popF = pp at *
  go_enter Try.func34, Try.ntmps34
  go_wp2
  go_loop [0, 3] (fun x n => ∃ f t k : Nat, t < 2 ^ f ∧ f ≤ 13 ∧ Hid (k + pp f t = pp 13 s) ∧ x = .int .i64 t ∧ n = .int .i64 k) (fun x _ => (intOf x).toNat)
  case atStart => exact ⟨13, s, 0, hs, by omega, hid (by omega), rfl, rfl⟩
  case round =>
    obtain ⟨f, t, k, hf, hf13, hk, rfl, rfl⟩ := hrel
    by_cases ht : 0 < t
    · obtain ⟨g, rfl⟩ : ∃ g, f = g + 1 := by
        cases f with
        | zero => simp at hf; omega
        | succ g => exact ⟨g, rfl⟩
      have hg : t / 2 < 2 ^ g := by rw [Nat.pow_succ] at hf; omega
      have hm : (t : Int).tmod 2 = ((t % 2 : Nat) : Int) := (Int.ofNat_tmod t 2).symm
      have hd : (t : Int).tdiv 2 = ((t / 2 : Nat) : Int) := (Int.ofNat_tdiv t 2).symm
      have hkb : k ≤ 13 := by have := HL.out 13 s; have := hk.out; omega
      have HK : Hid ((k + t % 2) + pp g (t / 2) = pp 13 s) := hid (by have := HF.out g t; have := hk.out; omega)
      have hdl : t / 2 < t := by omega
      have hml : t % 2 ≤ 1 := by omega
      have htb : t < 8192 := by have := Nat.pow_le_pow_right (n := 2) (by omega) hf13; omega
      have HG := hid hg
      clear hf hk hg
      generalize t % 2 = r at *
      generalize t / 2 = d at *
      go_wp2
      go_round
      case rel => exact ⟨g, d, k + r, HG.out, by omega, HK, rfl, by go_num⟩
      case measure => simp [intOf] <;> omega
    · obtain rfl : t = 0 := by omega
      have HE : Hid (pp 13 s = k) := hid (by have := HZ.out f; have := hk.out; omega)
      clear hf
      go_wp2
      go_ret
      exact ⟨by rw [HE.out]; rfl, rfl⟩

/-- The brackets: is a closed one alone; which open ones are. -/
def aloneS (s : Nat) : Nat → Bool × List Nat
  | 0 => (false, [])
  | i + 1 => let p := aloneS s i; if s / 2 ^ i % 2 = 0 then (p.1, p.2 ++ [i]) else if p.2 = [] then (true, p.2) else (p.1, p.2.dropLast)
def natA (L : List Nat) : List Int := L.map fun x : Nat => (x : Int)
theorem natA_len (L : List Nat) : (natA L).length = L.length := by simp [natA]
theorem natA_take (L : List Nat) : (natA L).take (L.length - 1) = natA L.dropLast := by simp [natA, List.dropLast_eq_take]
theorem aloneS_len (s : Nat) : ∀ i, (aloneS s i).2.length ≤ i
  | 0 => Nat.le_refl _
  | i + 1 => by
    have := aloneS_len s i
    simp only [aloneS]
    split
    · simp; omega
    · split
      · show (aloneS s i).2.length ≤ i + 1; omega
      · simp; omega
set_option maxHeartbeats 1000000 in
theorem alone_ok (n s : Nat) (w : World) (hn : n ≤ 12) (hs : s < 4096) :
    Calls Try.prog 49 #[.int .i64 n, .int .i64 s] w fun e w' => (∃ u, e = .returned (.tuple #[.bool (aloneS s n).1, u]) ∧ OI w.heap.size w' u (natA (aloneS s n).2)) ∧ Below w.heap.size w w' := by
  have H0 : Hid (aloneS s 0 = (false, [])) := hid rfl
  have HS : Hid (∀ i, aloneS s (i + 1) = if s / 2 ^ i % 2 = 0 then ((aloneS s i).1, (aloneS s i).2 ++ [i]) else if (aloneS s i).2 = [] then (true, (aloneS s i).2) else ((aloneS s i).1, (aloneS s i).2.dropLast)) := hid (fun i => rfl)
  have HL := hid (aloneS_len s)
  generalize aloneS s = A at *
  go_enter Try.func49, Try.ntmps49
  go_wp2
  go_loopw [4, 5, 8] (fun b o i wr => ∃ k : Nat, k ≤ n ∧ i = .int .i64 k ∧ b = .bool (A k).1 ∧ OI w.heap.size wr o (natA (A k).2) ∧ Below w.heap.size w wr) (fun _ _ i _ => n - (intOf i).toNat)
  case atStart => exact ⟨0, Nat.zero_le _, rfl, by rw [H0.out], by rw [H0.out]; exact OI.nil _ _, Below.refl _ _⟩
  case round =>
    obtain ⟨k, hk, rfl, rfl, ho, hb⟩ := hrel
    by_cases hlt : k < n
    · have h2 : (2 : Int) ^ k = ((2 ^ k : Nat) : Int) := by simp
      have hp1 : 1 ≤ 2 ^ k := Nat.pos_of_ne_zero (by simp)
      have hsh : (s : Int) / ((2 ^ k : Nat) : Int) = ((s / 2 ^ k : Nat) : Int) := (Int.natCast_ediv s (2 ^ k)).symm
      have hq : s / 2 ^ k ≤ s := Nat.div_le_self _ _
      have han : bits .and .i64 ((s / 2 ^ k : Nat) : Int) 1 = ((s / 2 ^ k % 2 : Nat) : Int) := by rw [← Nat.and_one_is_mod]; exact and_i64 (s / 2 ^ k) 1 (by omega) (by omega)
      have hsk := HS.out k
      have hlen := HL.out k
      have hp12 : 2 ^ k ≤ 4096 := Nat.pow_le_pow_right (n := 2) (by omega) (show k ≤ 12 by omega)
      by_cases hbit : s / 2 ^ k % 2 = 0
      · rw [if_pos hbit] at hsk
        have HE := hid hsk
        have han1 : bits .and .i64 ((s / 2 ^ k : Nat) : Int) 1 = 0 := by rw [han, hbit]; rfl
        have hl2 : (natA (A k).2).length ≤ 1000000000000 := by rw [natA_len]; omega
        have hsz := hb.size
        have HC : Hid (natA (A k).2 ++ [(k : Int)] = natA (A (k + 1)).2) := hid (by rw [hsk]; simp [natA])
        have HC1 : Hid ((A (k + 1)).1 = (A k).1) := hid (by rw [hsk])
        clear han hsk hbit hlen
        generalize (A k).1 = b0 at *
        generalize natA (A k).2 = nl at *
        generalize s / 2 ^ k = q at *
        generalize 2 ^ k = P at *
        go_wp2_with (at_builtin; refine wpList_appi wr _ _ 22 rfl rfl Try.underlying22 Try.info3 w.heap.size _ _ rfl ho rfl hl2 hsz ?_; intro g c w1 hown1 hg1 hg2 hg3)
        have HX := hid (And.intro (hown1.cast HC.out) (ho.grown hb hg1 hsz))
        clear hown1 hg1 hg2 hg3 ho hb
        go_wp2
        go_roundw
        case rel => exact ⟨k + 1, by omega, by go_num, by rw [HC1.out], HX.out.1, HX.out.2⟩
        case measure => simp [intOf] <;> omega
      · rw [if_neg hbit] at hsk
        have hbit1 : s / 2 ^ k % 2 = 1 := by omega
        have han1 : bits .and .i64 ((s / 2 ^ k : Nat) : Int) 1 = 1 := by rw [han, hbit1]; rfl
        by_cases he : (A k).2 = []
        · rw [if_pos he, he] at hsk
          rw [he] at ho
          obtain ⟨a, c, rfl⟩ := ho.len
          have HE := hid hsk
          have HX := hid (And.intro ho hb)
          have hz : ([] : List Nat).length = 0 := rfl
          clear han hsk hbit hbit1 hlen he ho hb
          have hnz : (natA []).length = 0 := rfl
          rw [hnz] at HX ⊢
          generalize (A k).1 = b0 at *
          generalize s / 2 ^ k = q at *
          generalize 2 ^ k = P at *
          go_wp2
          go_roundw
          case rel => exact ⟨k + 1, by omega, by go_num, by rw [HE.out], by rw [HE.out]; exact HX.out.1, HX.out.2⟩
          case measure => simp [intOf] <;> omega
        · rw [if_neg he] at hsk
          have hpos : 0 < (A k).2.length := List.length_pos_iff.2 he
          obtain ⟨g, c, rfl, hg1, hg2⟩ := ho.form (by rw [natA_len]; exact hpos)
          have hcap := ho.cap
          have HT := hid ((ho.take ((A k).2.length - 1) (by rw [natA_len]; omega)).cast (natA_take _))
          have HC : Hid (natA (A k).2.dropLast = natA (A (k + 1)).2) := hid (by rw [hsk])
          have HC1 : Hid ((A (k + 1)).1 = (A k).1) := hid (by rw [hsk])
          have HB := hid hb
          rw [natA_len] at hcap ⊢
          clear han hsk hbit hbit1 he ho hb
          generalize (A k).1 = b0 at *
          generalize (A k).2.length = ln at *
          generalize s / 2 ^ k = q at *
          generalize 2 ^ k = P at *
          have hln : ((ln : Int) == 0) = false := by simp; omega
          have hln1 : (ln : Int) - 1 = ((ln - 1 : Nat) : Int) := by omega
          have hlc : ln - 1 ≤ c := by omega
          go_wp2
          go_roundw
          case rel => exact ⟨k + 1, by omega, by go_num, by rw [HC1.out], by rw [← HC.out]; exact HT.out, HB.out⟩
          case measure => simp [intOf] <;> omega
    · obtain rfl : k = n := by omega
      have HX := hid (And.intro ho hb)
      clear ho hb
      go_wp2
      go_ret2
      exact ⟨⟨_, rfl, HX.out.1⟩, HX.out.2⟩
end Go.Proofs.Ytdbfmjlnalaobaa
