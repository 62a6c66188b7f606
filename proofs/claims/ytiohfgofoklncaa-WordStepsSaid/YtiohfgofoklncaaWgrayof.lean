/-
  The walk over parterreref4.GrayOf: what it returns. No condition but the ranges that each theorem states.
-/
import Derived.Test.YtiohfgofoklncaaWgray
namespace Go.Proofs.Ytiohfgofoklncaa
open Go.RowKit

/-- Gray's numbers by mirrors. -/
def mir : Nat → List Int
  | 0 => [0]
  | i + 1 => mir i ++ (mir i).reverse.map (· + ((2 ^ i : Nat) : Int))
theorem mir_len (i : Nat) : (mir i).length = 2 ^ i := by
  induction i with
  | zero => rfl
  | succ i ih => simp [mir, ih, Nat.pow_succ]; omega

/-- The mirror's beginning. -/
def mirTo (i j : Nat) : List Int := mir i ++ ((mir i).reverse.take j).map (· + ((2 ^ i : Nat) : Int))
theorem mirTo_len (i j : Nat) (h : j ≤ 2 ^ i) : (mirTo i j).length = 2 ^ i + j := by simp [mirTo, mir_len]; omega

theorem mirTo_zero (k : Nat) : mir k = mirTo k 0 := by simp [mirTo]
theorem mirTo_end (k : Nat) : mirTo k (2 ^ k) = mir (k + 1) := by
  have := mir_len k
  simp only [mirTo, mir]
  rw [List.take_of_length_le (by simp; omega)]
theorem mirTo_step (k m : Nat) (h : m < 2 ^ k) : mirTo k m ++ [(mirTo k m).getD (2 ^ k - m - 1) 0 + ((2 ^ k : Nat) : Int)] = mirTo k (m + 1) := by
  have hl := mir_len k
  simp only [mirTo]
  rw [List.take_add_one, List.append_assoc]
  congr 1
  have h2 : (mir k).reverse[m]? = some ((mir k).getD (2 ^ k - m - 1) 0) := by
    rw [List.getElem?_reverse (by omega), hl]
    rw [show 2 ^ k - 1 - m = 2 ^ k - m - 1 from by omega]
    have : 2 ^ k - m - 1 < (mir k).length := by omega
    simp [this]
  rw [h2]
  simp
  rw [List.getElem?_append_left (by omega)]

theorem mir_bd (k : Nat) : ∀ x ∈ mir k, 0 ≤ x ∧ x < ((2 ^ k : Nat) : Int) := by
  induction k with
  | zero => intro x hx; simp [mir] at hx; subst hx; decide
  | succ k ih =>
    intro x hx
    simp only [mir, List.mem_append, List.mem_map, List.mem_reverse] at hx
    rw [Nat.pow_succ]
    rcases hx with hx | ⟨y, hy, rfl⟩
    · have := ih x hx
      generalize 2 ^ k = q at *
      omega
    · have := ih y hy
      generalize 2 ^ k = q at *
      omega
theorem mirTo_bd (k m s : Nat) (hq : 2 ^ k ≤ 4096) : 0 ≤ (mirTo k m)[s]?.getD 0 ∧ (mirTo k m)[s]?.getD 0 ≤ 8192 := by
  cases h : (mirTo k m)[s]? with
  | none => simp
  | some x =>
    have hx : x ∈ mirTo k m := List.mem_of_getElem? h
    have h1 := mir_bd k
    simp only [mirTo, List.mem_append, List.mem_map] at hx
    simp only [Option.getD_some]
    rcases hx with hx | ⟨y, hy, rfl⟩
    · have := h1 x hx
      generalize 2 ^ k = q at *
      omega
    · have := h1 y (List.mem_reverse.1 (List.mem_of_mem_take hy))
      generalize 2 ^ k = q at *
      omega

theorem grayof_no (n : Int) (w : World) (h : n < 0 ∨ 12 < n) :
    Calls Try.prog 13 #[.int .i64 n] w fun e w' => e = .returned (.tuple #[.slice none 0 0, .int .i64 1]) ∧ w = w' := by
  rcases h with h | h
  all_goals
    go_enter Try.func13, Try.ntmps13
    go_wp2
    all_goals (go_ret2; exact ⟨rfl, rfl⟩)

theorem grayof_yes (n : Nat) (w : World) (h : n ≤ 12) :
    Calls Try.prog 13 #[.int .i64 n] w fun e w' => ∃ v, e = .returned (.tuple #[v, .int .i64 0]) ∧ OI w.heap.size w' v (mir n) ∧ Below w.heap.size w w' := by
  go_enter Try.func13, Try.ntmps13
  go_wp2
  go_loopw [4, 5] (fun v i wr => ∃ k : Nat, k ≤ n ∧ i = .int .i64 k ∧ OI w.heap.size wr v (mir k) ∧ Below w.heap.size w wr) (fun _ i _ => n - (intOf i).toNat)
  case atStart => exact ⟨0, Nat.zero_le _, rfl, OI.lit1 _ w 0 (Nat.le_refl _), (Below.refl _ _).alloc (Nat.le_refl _) _⟩
  case round =>
    obtain ⟨k, hk, rfl, hown, hb⟩ := hrel
    by_cases hlt : k < n
    · have hl := mir_len k
      have hp := pow_le12 (show k ≤ 12 by omega)
      have hp0 : 0 < 2 ^ k := Nat.pow_pos (by decide)
      have HW := hid (wrap_pow12 (show k ≤ 12 by omega))
      have hM : ∀ m, m ≤ 2 ^ k → (mirTo k m).length = 2 ^ k + m := fun m => mirTo_len k m
      have HG := hid (mirTo_step k)
      have HE := hid (mirTo_end k)
      have HBD := hid (mirTo_bd k)
      have H0 := hid (mirTo_zero k)
      generalize 2 ^ k = q at *
      obtain ⟨a, c, hv⟩ := hown.len
      subst hv
      rw [hl]
      rw [hl] at hown
      have HM := hid hM
      clear hM hl
      go_wp2
      go_loopw [4, 6] (fun v j wr => ∃ (m : Nat) (z : Int), m ≤ q ∧ j = .int .i64 z ∧ Hid (z = (q : Int) - 1 - m) ∧ OI w.heap.size wr v (mirTo k m) ∧ Below w.heap.size w wr) (fun _ j _ => (intOf j + 1).toNat)
      case atStart => exact ⟨0, _, Nat.zero_le _, rfl, by unfold Hid; omega, hown.cast H0.out, hb⟩
      case round =>
        obtain ⟨m, z, hm, rfl, hz, hown2, hb2⟩ := hrel
        clear hown hb
        have hBs := hb2.size
        by_cases hlt2 : m < q
        · have hlen := HM.out m hm
          obtain ⟨s, hs1⟩ : ∃ s : Nat, z = (s : Int) := ⟨z.toNat, by have := hz.out; omega⟩
          have hs2 : s = q - m - 1 := by have := hz.out; omega
          have hs3 : s < q + m := by omega
          have hs4 : (s : Int) < (q : Int) + (m : Int) := by omega
          have HS := hid hs2
          subst hs1
          clear hs2
          obtain ⟨g, c, hv, hgB, hgW⟩ := hown2.form (by omega)
          subst hv
          rw [hlen] at hown2 ⊢
          have HL := hid hlen
          clear hlen
          have hc := hown2.cell s (by rw [HL.out]; exact hs3)
          have HX : Hid (mirTo k m ++ [IntKind.i64.wrap ((mirTo k m)[s]?.getD 0 + IntKind.i64.wrap (2 ^ k))] = mirTo k (m + 1)) := by
            have e1 : IntKind.i64.wrap ((2 : Int) ^ k) = (q : Int) := by rw [IntWalk.i64_left]; exact HW.out
            have e2 := HG.out m hlt2
            rw [e1, ← e2, ← HS.out, List.getD_eq_getElem?_getD]
            have hb := HBD.out m s hp
            rw [IntWalk.i64_in _ (by omega)]
            rfl
          go_wp2
          go_region_law (refine step_appi wr _ _ 23 rfl rfl Try.underlying23 Try.info3 w.heap.size _ _ rfl hown2 rfl (by rw [HL.out]; omega) hBs ?_; intro g2 c2 w1 hown1 hg1 hg2 hg3)
          go_wp2
          go_roundw
          case rel => exact ⟨m + 1, _, by omega, rfl, by have := hz.out; unfold Hid; omega, hown1.cast HX.out, hown2.grown hb2 hg1 hBs⟩
          case measure => simp [intOf] <;> omega
        · obtain rfl : m = q := by omega
          have hs2 : z < 0 := by have := hz.out; omega
          go_wp2
          go_roundw
          case rel => exact ⟨k + 1, by omega, by go_num, hown2.cast HE.out, hb2⟩
          case measure => simp [intOf] <;> omega
    · obtain rfl : k = n := by omega
      go_wp2
      go_ret2
      exact ⟨_, rfl, hown, hb⟩
end Go.Proofs.Ytiohfgofoklncaa
