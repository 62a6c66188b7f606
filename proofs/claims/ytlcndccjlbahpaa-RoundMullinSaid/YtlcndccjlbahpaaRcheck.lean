/-
  The walks over round.teams, checkRound and its test. Condition: the slice can be read.
-/
import Derived.Test.YtlcndccjlbahpaaSlib
import Derived.Test.YtlcndccjlbahpaaLists
namespace Go.Proofs.Ytlcndccjlbahpaa
set_option linter.unusedVariables false
open Go.RowKit

def tmB (n : Int) : Bool := decide (2 ≤ n ∧ n ≤ 16 ∧ n % 2 = 0)
theorem teams_any (n : Int) (w : World) :
    Calls Try.prog 25 #[.int .i64 n] w fun e w' => e = .returned (.bool (tmB n)) ∧ w = w' := by
  by_cases h1 : n < 2
  · have HB : Hid (tmB n = false) := hid (by simp [tmB]; omega)
    go_enter Try.func25, Try.ntmps25
    go_wp2
    go_ret
    exact ⟨by rw [HB.out]; rfl, rfl⟩
  by_cases h2 : 16 < n
  · have HB : Hid (tmB n = false) := hid (by simp [tmB]; omega)
    go_enter Try.func25, Try.ntmps25
    go_wp2
    go_ret
    exact ⟨by rw [HB.out]; rfl, rfl⟩
  obtain ⟨m, rfl⟩ : ∃ m : Nat, n = (m : Int) := ⟨n.toNat, by omega⟩
  have hm : (m : Int).tmod 2 = ((m % 2 : Nat) : Int) := (Int.ofNat_tmod m 2).symm
  have hm2 : m % 2 < 2 := Nat.mod_lt _ (by omega)
  have HB : Hid (tmB m = (((m % 2 : Nat) : Int) == 0)) := hid (by
    rw [Bool.eq_iff_iff, tmB, decide_eq_true_iff, beq_iff_eq]
    omega)
  go_enter Try.func25, Try.ntmps25
  go_wp2
  go_ret
  exact ⟨by rw [HB.out]; rfl, rfl⟩

/-- Off the teams. -/
def offR (n : Nat) (x : Int) : Bool := decide (x < 0) || decide ((n : Int) ≤ x)
theorem offR_false {n : Nat} {x : Int} : offR n x = false ↔ 0 ≤ x ∧ x < (n : Int) := by simp [offR]
theorem ckr1_any (n : Nat) (hn : n ≤ 64) (x : Int) (b : Nat) (w : World) (hc : w.cell? ⟨b, 0, none⟩ = some (.int .i64 n)) :
    Calls Try.prog 36 #[.int .i64 x, .pointer (some ⟨b, 0, none⟩)] w fun e w' => e = .returned (.bool (offR n x)) ∧ w = w' := by
  by_cases h1 : x < 0
  · have HB : Hid (offR n x = true) := hid (by simp [offR, h1])
    go_enter Try.func36, Try.ntmps36
    go_wp2
    go_ret
    exact ⟨by rw [HB.out]; rfl, rfl⟩
  · have HB : Hid (offR n x = decide ((n : Int) ≤ x)) := hid (by unfold offR; rw [decide_eq_false h1, Bool.false_or])
    go_enter Try.func36, Try.ntmps36
    go_wp2
    go_ret
    exact ⟨by rw [HB.out]; rfl, rfl⟩
theorem ckr1_tests (n : Nat) (hn : n ≤ 64) (b : Nat) (w : World) (hc : w.cell? ⟨b, 0, none⟩ = some (.int .i64 n)) : Tests 36 #[.pointer (some ⟨b, 0, none⟩)] (offR n) w where
  enter := run_callFunc_own Try.func36 (by kernel_rfl) (by kernel_rfl)
  calls := fun x _ => ckr1_any n hn x b w hc

/-- Does team t meet another one, and that one it? -/
def meets (l : List Int) (t : Nat) : Bool := !(l[t]?.getD 0 == (t : Int)) && (l[(l[t]?.getD 0).toNat]?.getD 0 == (t : Int))
def rdE (n : Nat) (l : List Int) : Int := if l.length ≠ n then 2 else if l.any (offR n) = true then 1 else if (List.range n).all (meets l) = true then 0 else 4
theorem rdE_len {n : Nat} {l : List Int} (h : l.length ≠ n) : rdE n l = 2 := if_pos h
theorem rdE_off {n : Nat} {l : List Int} (h : l.length = n) (h2 : l.any (offR n) = true) : rdE n l = 1 := by rw [rdE, if_neg (by omega), if_pos h2]
theorem rdE_not {n : Nat} {l : List Int} (h : l.length = n) (h2 : l.any (offR n) = false) {t : Nat} (ht : t < n) (h3 : meets l t = false) : rdE n l = 4 := by
  rw [rdE, if_neg (by omega), if_neg (by rw [h2]; decide), if_neg]
  intro h4
  have := List.all_eq_true.1 h4 t (List.mem_range.2 ht)
  rw [h3] at this
  cases this
theorem rdE_ok {n : Nat} {l : List Int} (h : l.length = n) (h2 : l.any (offR n) = false) (h3 : ∀ t, t < n → meets l t = true) : rdE n l = 0 := by
  rw [rdE, if_neg (by omega), if_neg (by rw [h2]; decide), if_pos]
  exact List.all_eq_true.2 fun t ht => h3 t (List.mem_range.1 ht)
theorem off_at {n : Nat} {l : List Int} (h : l.length = n) (h2 : l.any (offR n) = false) : ∀ t : Nat, t < n → ∃ x : Nat, l[t]?.getD 0 = (x : Int) ∧ x < n := fun t ht => by
  have h3 : l[t]?.getD 0 ∈ l := by
    rw [List.getElem?_eq_getElem (by omega)]
    exact List.getElem_mem _
  have h4 := List.any_eq_false.1 h2 _ h3
  rw [Bool.not_eq_true, offR_false] at h4
  exact ⟨(l[t]?.getD 0).toNat, by omega, by omega⟩

theorem checkRound_any (n : Nat) (v : Value) (l : List Int) (w : World) (hl : Sl w v l) (hb : ∀ x ∈ l, I64 x) (hn : n ≤ 64) :
    Calls Try.prog 30 #[.int .i64 n, v] w fun e w' => e = .returned (.int .i64 (rdE n l)) ∧ Below w.heap.size w w' := by
  have hb1 : Below w.heap.size w (w.alloc (.cells #[.int .i64 n] 3)) := (Below.refl _ _).alloc (Nat.le_refl _) _
  have HB1 := hid hb1
  have HLN := hid (fun h => rdE_len (n := n) (l := l) h)
  have HOF := hid (fun h h2 => rdE_off (n := n) (l := l) h h2)
  have HNT := hid (fun h h2 t ht h3 => rdE_not (n := n) (l := l) h h2 (t := t) ht h3)
  have HOK := hid (fun h h2 h3 => rdE_ok (n := n) (l := l) h h2 h3)
  have HAT := hid (fun h h2 => off_at (n := n) (l := l) h h2)
  have H1 := hid (containsFunc_any _ _ _ v l _ (hl.below hb1) hb (ckr1_tests n hn w.heap.size _ (lit_cell _ _ _)))
  obtain ⟨a, c, N, rfl, hN, hl1, hl2⟩ := hl.open
  rw [hN.out] at HLN HOF HNT HOK HAT
  clear hl hb hb1
  by_cases hln : N = n
  · subst hln
    cases ho : l.any (offR N) with
    | true =>
      have HE := hid (HOF.out rfl ho)
      rw [ho] at H1
      clear ho hl2
      rw [HE.out]
      go_enter Try.func30, Try.ntmps30
      go_wp2_with fail
      refine H1.out.mono ?_
      rintro e w1 ⟨rfl, rfl⟩
      have B2 := HB1
      go_wp2
      go_ret
      exact ⟨rfl, B2.out⟩
    | false =>
      have HX := hid (HAT.out rfl ho)
      have HN2 := hid (HNT.out rfl ho)
      have HO2 := hid (HOK.out rfl ho)
      have HM : Hid (∀ t, meets l t = (!(l[t]?.getD 0 == (t : Int)) && (l[(l[t]?.getD 0).toNat]?.getD 0 == (t : Int)))) := hid fun t => rfl
      rw [ho] at H1
      clear ho HAT HNT HOK
      generalize rdE N l = E at *
      generalize meets l = M at *
      go_enter Try.func30, Try.ntmps30
      go_wp2_with fail
      refine H1.out.mono ?_
      rintro e w1 ⟨rfl, rfl⟩
      have B2 := HB1
      go_wp2
      go_loopw [5, 6, 18] (fun _ _ i wr => ∃ k : Nat, k ≤ N ∧ i = .int .i64 k ∧ Hid (∀ t, t < k → M t = true) ∧ wr = w.alloc (.cells #[.int .i64 N] 3)) (fun _ _ i _ => N - (intOf i).toNat)
      case atStart => exact ⟨0, Nat.zero_le _, rfl, hid (fun t ht => by omega), rfl⟩
      case round =>
        obtain ⟨k, hk, rfl, hall, rfl⟩ := hrel
        by_cases hlt : k < N
        · obtain ⟨b, off, rfl, hblt, hc⟩ := hl2 (by omega)
          obtain ⟨x, hx, hxN⟩ := HX.out k hlt
          obtain ⟨y, hy, hyN⟩ := HX.out x hxN
          have c1 := (B2.out.cell (p := ⟨b, off + k, none⟩) hblt).trans (hc k hlt)
          have c2 := (B2.out.cell (p := ⟨b, off + x, none⟩) hblt).trans (hc x hxN)
          have hm := HM.out k
          rw [hx, Int.toNat_natCast, hy] at hm
          rw [hx] at c1
          rw [hy] at c2
          have HALL := hall
          clear hc hl2 hx hy hall
          by_cases he1 : x = k
          · have hq1 : ((x : Int) == (k : Int)) = true := by rw [beq_iff_eq]; omega
            rw [hq1] at hm
            have HE := hid (HN2.out k hlt hm)
            clear hm he1 c2
            go_wp2
            go_ret
            exact ⟨by rw [HE.out]; rfl, B2.out⟩
          · have hq1 : ((x : Int) == (k : Int)) = false := by rw [beq_eq_false_iff_ne]; omega
            rw [hq1] at hm
            by_cases he2 : y = k
            · have hq2 : ((y : Int) == (k : Int)) = true := by rw [beq_iff_eq]; omega
              have hq3 : ((y : Int) != (k : Int)) = false := by rw [bne, hq2]; rfl
              rw [hq2] at hm
              have HE : Hid (∀ t, t < k + 1 → M t = true) := hid (fun t ht => by
                by_cases e : t = k
                · rw [e]; exact hm
                · exact HALL.out t (by omega))
              clear hm he1 he2 hq2
              go_wp2
              go_roundw
              case rel => exact ⟨k + 1, by omega, by go_num, HE, by trivial⟩
              case measure => simp [intOf] <;> omega
            · have hq2 : ((y : Int) == (k : Int)) = false := by rw [beq_eq_false_iff_ne]; omega
              have hq3 : ((y : Int) != (k : Int)) = true := by rw [bne, hq2]; rfl
              rw [hq2] at hm
              have HE := hid (HN2.out k hlt hm)
              clear hm he1 he2 hq2
              go_wp2
              go_ret
              exact ⟨by rw [HE.out]; rfl, B2.out⟩
        · obtain rfl : k = N := by omega
          have HE := hid (HO2.out hall.out)
          clear hall hl2
          go_wp2
          go_ret
          exact ⟨by rw [HE.out]; rfl, B2.out⟩
  · have HE := hid (HLN.out hln)
    have hq : ((N : Int) != (n : Int)) = true := by simp; omega
    clear hl2
    rw [HE.out]
    go_enter Try.func30, Try.ntmps30
    go_wp2
    go_ret
    exact ⟨rfl, HB1.out⟩
end Go.Proofs.Ytlcndccjlbahpaa
