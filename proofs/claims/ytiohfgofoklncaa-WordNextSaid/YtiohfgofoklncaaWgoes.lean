/-
  The walk over parterrelaw4.WordGoes: for every k and word it returns true. Condition: the slice can be read.
-/
import Derived.Test.YtiohfgofoklncaaWNext2
import Derived.Test.YtiohfgofoklncaaWfact
import Derived.Test.YtiohfgofoklncaaWahead
namespace Go.Proofs.Ytiohfgofoklncaa
open Go.RowKit

theorem smk_of {k : Int} {l : List Int} (h : wordFault l = 0) (h3 : tooBig k l = false) : SmK k l := by
  intro x hx
  have h1 := fault_small h x hx
  unfold tooBig at h3
  rw [List.any_eq_false] at h3
  have := h3 x hx
  simp at this
  omega
theorem fault_zero {k : Int} {l : List Int} (h : SmK k l) (hk : k ≤ 10) (hl : l.length ≤ 4096) : wordFault l = 0 := by
  unfold wordFault
  rw [if_neg (by omega), if_neg]
  intro h2
  rw [List.any_eq_true] at h2
  obtain ⟨x, hx, hb⟩ := h2
  have := h x hx
  simp [badLetter] at hb
  omega
theorem SmK.i64 {k : Int} {l : List Int} (h : SmK k l) (hk : k ≤ 10) : ∀ x ∈ l, I64 x := by
  intro x hx
  have := h x hx
  unfold I64
  omega

/-- What Next answers, whatever it is handed. -/
theorem Next_all (k : Int) (v : Value) (l : List Int) (w : World) (hl : Sl w v l) (hb : ∀ x ∈ l, I64 x) :
    (∃ e : Int, (e == 0) = false ∧ (k < 1 ∨ 10 < k → e = 1) ∧ (1 ≤ k → k ≤ 10 → wordFault l ≠ 0 → e = wordFault l) ∧ (1 ≤ k → k ≤ 10 → wordFault l = 0 → tooBig k l = true → e = 1) ∧ (1 ≤ k → k ≤ 10 → wordFault l = 0 → tooBig k l = false → e = 2 ∧ Lex.lynB l = false) ∧
      Calls Try.prog 28 #[.int .i64 k, v] w fun r w' => r = .returned (.tuple #[.slice none 0 0, .int .i64 e]) ∧ Below w.heap.size w w') ∨
    (1 ≤ k ∧ k ≤ 10 ∧ wordFault l = 0 ∧ tooBig k l = false ∧ Lex.lynB l = true) := by
  by_cases h1 : k < 1 ∨ 10 < k
  · exact .inl ⟨1, by decide, fun _ => rfl, fun _ _ _ => by omega, fun _ _ _ _ => rfl, fun _ _ _ _ => by omega, Next_range k v w h1⟩
  by_cases h2 : wordFault l = 0
  · cases h3 : tooBig k l with
    | true => exact .inl ⟨1, by decide, fun _ => rfl, fun _ _ h => absurd h2 h, fun _ _ _ _ => rfl, fun _ _ _ h => (by cases h), Next_big k v l w hl hb (by omega) (by omega) h2 h3⟩
    | false =>
      cases h4 : Lex.lynB l with
      | false => exact .inl ⟨2, by decide, fun h => absurd h h1, fun _ _ h => absurd h2 h, fun _ _ _ h => (by cases h), fun _ _ _ _ => ⟨rfl, rfl⟩, Next_shape k v l w hl hb (by omega) (by omega) h2 h3 h4⟩
      | true => exact .inr ⟨by omega, by omega, h2, rfl, rfl⟩
  · exact .inl ⟨wordFault l, by simpa using h2, fun h => absurd h h1, fun _ _ _ => rfl, fun _ _ h _ => absurd h h2, fun _ _ h _ => absurd h h2, Next_fault k v l w hl hb (by omega) (by omega) h2⟩

theorem wordGoes_walk (w : World) (k : Int) (_ : I64 k) (v : Value) (l : List Int) (hl : Sl w v l) (hb : ∀ x ∈ l, I64 x) :
    Calls Try.prog 11 #[.int .i64 k, v] w fun e w' => e = .returned (.bool true) ∧ Below w.heap.size w w' := by
  have HF := hid (wordFact_any w)
  have HN := hid (fun (w1 : World) (h : Below w.heap.size w w1) => Next_all k v l w1 (hl.below h) hb)
  have HG := hid (fun (w1 : World) (h : Below w.heap.size w w1) => Next_go k v l w1 (hl.below h) hb)
  go_enter Try.func11, Try.ntmps11
  go_wp2_with fail
  refine HF.out.mono ?_
  rintro e w1 ⟨rfl, hb1⟩
  rcases HN.out w1 hb1 with ⟨e, he, _, _, _, _, hc⟩ | ⟨h1, h2, h3, h4, h5⟩
  · have HC := hid hc
    have he2 : (e != 0) = true := by simpa using he
    clear hc
    go_wp2_with fail
    refine HC.out.mono ?_
    rintro r w2 ⟨rfl, hb2⟩
    have hfin := hb1.trans (hb2.mono hb1.size)
    go_wp2
    go_ret
    exact ⟨rfl, hfin⟩
  · have HC := hid (HG.out w1 hb1 h1 h2 h3 h4 h5)
    have hlen := fault_len h3
    have hsk := (smk_of h3 h4).next h1 l.length
    have hnl := nextL_len k l l.length
    rcases nextL_lyn ((Lex.lynB_iff l).1 h5) (fun x hx => (smk_of h3 h4 x hx).2) with ⟨_, hR⟩ | ⟨p, a, m, q1, q2, hR, q4, q5⟩
    · rw [hR] at HC
      go_wp2_with fail
      refine HC.out.mono ?_
      rintro r w2 ⟨⟨u, rfl, hu⟩, hb2⟩
      have hfin := hb1.trans (hb2.mono hb1.size)
      have hz : nextErr ([] : List Int).length = 4 := rfl
      rw [hz]
      clear hz hR
      go_wp2
      go_ret
      exact ⟨rfl, hfin⟩
    · rw [hR] at HC hsk hnl
      have hez : nextErr (p ++ [a + 1]).length = 0 := by unfold nextErr; rw [if_neg (by simp)]
      rw [hez] at HC
      have hly := (Lex.lynB_iff _).2 q4
      have hf0 := fault_zero hsk h2 (by omega)
      have hi64 := hsk.i64 h2
      clear hez hR q1 q4
      generalize hRR : p ++ [a + 1] = R at *
      clear hRR
      have HLY := hid hly
      have HAH := hid q5
      clear hly q5
      go_wp2_with fail
      refine HC.out.mono ?_
      rintro r w2 ⟨⟨u, rfl, hu⟩, hb2⟩
      have hb12 := hb1.trans (hb2.mono hb1.size)
      have hsu := hu.sl (by omega)
      go_wp2_with fail
      have HL := Lyndon_ok u R w2 hsu hi64 hf0
      rw [HLY.out] at HL
      refine HL.mono ?_
      clear HL
      rintro r w3 ⟨rfl, hb3⟩
      have hb13 := hb12.trans (hb3.mono hb12.size)
      go_wp2_with fail
      have HA := ahead_any v u l R w3 (hl.below hb13) (hsu.below hb3)
      rw [HAH.out] at HA
      refine HA.mono ?_
      clear HA
      rintro r w4 ⟨rfl, ⟨n, rfl⟩⟩
      obtain ⟨a1, c1, hv⟩ := hl.len
      obtain ⟨a2, c2, hu2⟩ := hu.len
      subst hv hu2
      have hnl2 : (R.length : Int) ≤ (l.length : Int) := by omega
      generalize R.length = RL at *
      generalize l.length = LL at *
      clear hsu hu
      go_wp2
      go_ret
      exact ⟨rfl, below_drewN hb13 _⟩
end Go.Proofs.Ytiohfgofoklncaa
