/-
  The walk over parterrelaw4.WordChen: for every word it returns true. Condition: the slice can be read.
-/
import Derived.Test.YtiohfgofoklncaaWlyndon
import Derived.Test.YtiohfgofoklncaaWfact
import Derived.Test.YtiohfgofoklncaaWahead
import Derived.Test.YtiohfgofoklncaaWfactof
import Derived.Test.YtiohfgofoklncaaWNext2
namespace Go.Proofs.Ytiohfgofoklncaa
open Go.RowKit

namespace Lex
theorem falls_at : ∀ {F0 : List (List Int)} {p f : List Int} {G : List (List Int)}, Falls (F0 ++ p :: f :: G) → ahead p f = false
  | [], p, f, G, h => h.1 f (by simp)
  | _ :: F0, p, f, G, h => falls_at (F0 := F0) h.2
theorem made_mid {l f : List Int} {F1 G : List (List Int)} (h : Made l (F1 ++ f :: G)) : (l.drop F1.flatten.length).take f.length = f ∧ F1.flatten.length + f.length ≤ l.length ∧ 1 ≤ f.length ∧ Lyn f := by
  have e : l = F1.flatten ++ (f ++ G.flatten) := by rw [h.1]; simp
  have hf := h.2.1 f (by simp)
  have hp := List.length_pos_iff.2 hf.1
  refine ⟨?_, ?_, hp, hf⟩
  · rw [e, List.drop_left, List.take_left]
  · rw [e]; simp
theorem lens_get {F1 G : List (List Int)} {f : List Int} : (lens (F1 ++ f :: G)).getD F1.length 0 = (f.length : Int) := by simp [lens]
end Lex
theorem fault_sub {l f : List Int} (h : wordFault l = 0) (hs : ∀ x ∈ f, x ∈ l) (hl : f.length ≤ l.length) : wordFault f = 0 := by
  have h1 := fault_len h
  have h2 := fault_small h
  unfold wordFault
  rw [if_neg (by omega), if_neg]
  intro h3
  rw [List.any_eq_true] at h3
  obtain ⟨x, hx, hb⟩ := h3
  have := h2 x (hs x hx)
  simp [badLetter] at hb
  omega

/-- Where the last word began. -/
def chenJ (_l : List Int) (F : List (List Int)) (i at' last : Nat) : Prop :=
  ∃ F1 G, F = F1 ++ G ∧ i = F1.length ∧ at' = F1.flatten.length ∧ ((i = 0 ∧ last = 0) ∨ ∃ F0 p, F1 = F0 ++ [p] ∧ last = F0.flatten.length)

set_option maxHeartbeats 1000000 in
theorem wordChen_good (w : World) (v : Value) (l : List Int) (hl : Sl w v l) (hb : ∀ x ∈ l, I64 x) (h3 : wordFault l = 0) :
    Calls Try.prog 10 #[v] w fun e w' => e = .returned (.bool true) ∧ Below w.heap.size w w' := by
  have hlen := fault_len h3
  have hl0 := hl
  obtain ⟨a, c, N, rfl, hN, hl1, hl2⟩ := hl.open
  rw [hN.out] at hlen
  have HF := hid (fun (w1 : World) (h : Below w.heap.size w w1) => Factors_ok _ l w1 (hl0.below h) hb h3)
  go_enter Try.func10, Try.ntmps10
  go_wp2_with fail
  refine (wordFact_any w).mono ?_
  rintro e w1 ⟨rfl, hb1⟩
  go_wp2_with fail
  refine (HF.out _ hb1).mono ?_
  rintro e w2 ⟨⟨u, F, rfl, hM, hown⟩, hb2⟩
  have hbb := hb1.trans (hb2.mono hb1.size)
  have hFl := Lex.made_count hM
  rw [hN.out] at hFl
  obtain ⟨a2, c2, hu⟩ := hown.len
  rw [lens_len] at hu
  subst hu
  have HM := hid hM
  clear hM hb2 hb1
  generalize hFL : F.length = FL at *
  have HFL := hid hFL
  clear hFL
  go_wp2
  go_loopw [6, 7, 8, 9, 10, 11] (fun at' last i _ _ _ wr => ∃ ii aa ll : Nat, i = .int .i64 ii ∧ at' = .int .i64 aa ∧ last = .int .i64 ll ∧ Hid (chenJ l F ii aa ll) ∧ OI w1.heap.size wr (.slice a2 FL c2) (Lex.lens F) ∧ Below w.heap.size w wr) (fun _ _ i _ _ _ _ => FL - (intOf i).toNat)
  case atStart => exact ⟨0, 0, 0, rfl, rfl, rfl, hid ⟨[], F, rfl, rfl, rfl, .inl ⟨rfl, rfl⟩⟩, hown, hbb⟩
  case round =>
    obtain ⟨ii, aa, ll, rfl, rfl, rfl, hJ, ho, hb'⟩ := hrel
    obtain ⟨F1, G, hF, hi, ha, hlast⟩ := hJ.out
    cases G with
    | nil =>
      have hii : ii = FL := by rw [hi, ← HFL.out, hF]; simp
      have hq : aa = N := by
        rw [ha, ← hN.out, HM.out.1, hF]; simp
      subst hii hq
      have hqq : ((aa : Int) == (aa : Int)) = true := by simp
      clear hF hi ha hlast hJ
      go_wp2
      go_ret
      exact ⟨rfl, hb'⟩
    | cons f G =>
      have hMf := HM.out
      rw [hF] at hMf
      obtain ⟨m1, m2, m3, m4⟩ := Lex.made_mid hMf
      rw [← ha] at m1 m2
      rw [hN.out] at m2
      have hlt : ii < FL := by rw [hi, ← HFL.out, hF]; simp
      obtain ⟨g, c', e, _, _⟩ := ho.form (by rw [lens_len, HFL.out]; omega)
      simp only [Value.slice.injEq] at e
      obtain ⟨rfl, e2, rfl⟩ := e
      clear e2
      have hcell := ho.cell ii (by rw [lens_len, HFL.out]; exact hlt)
      have hce : (Lex.lens F).getD ii 0 = (f.length : Int) := by rw [hF, hi]; exact Lex.lens_get
      have HCE := hid hce
      rw [hce] at hcell
      obtain ⟨b, off, rfl, hbl, _⟩ := hl2 (by omega)
      have hpc := (hl0.below hb').mid (i := aa) (j := aa + f.length) (by omega) m2
      rw [Nat.add_sub_cancel_left, m1] at hpc
      have hsub : ∀ x ∈ f, x ∈ l := fun x hx => by
        rw [← m1] at hx
        exact List.mem_of_mem_drop (List.mem_of_mem_take hx)
      have hff := fault_sub h3 hsub (by rw [hN.out]; omega)
      have hfi : ∀ x ∈ f, I64 x := fun x hx => hb x (hsub x hx)
      have HLY := hid ((Lex.lynB_iff f).2 m4)
      have HX := hid (And.intro hF (And.intro hi (And.intro ha hlast)))
      have HST : Hid (chenJ l F (ii + 1) (aa + f.length) aa) := hid ⟨F1 ++ [f], G, by rw [hF]; simp, by rw [hi]; simp, by rw [ha]; simp, .inr ⟨F1, f, rfl, ha⟩⟩
      have HFF := hid hff
      have M1 := hid m1
      clear hce hF hi ha hlast hJ m1 m4 hMf hff hsub
      generalize hfl : f.length = n at *
      have HFLn := hid hfl
      clear hfl
      by_cases h0 : 0 < ii
      · obtain ⟨F0, p, hp1, hp2⟩ : ∃ F0 p, F1 = F0 ++ [p] ∧ ll = F0.flatten.length := by
          rcases HX.out.2.2.2 with ⟨h, _⟩ | h
          · omega
          · exact h
        have hah : Lex.ahead p f = false := by
          have := HM.out.2.2
          rw [HX.out.1, hp1] at this
          exact Lex.falls_at (F0 := F0) (G := G) (by simpa using this)
        have hM2 := HM.out
        rw [HX.out.1, hp1, List.append_assoc] at hM2
        obtain ⟨r1, r2, r3, _⟩ := Lex.made_mid (F1 := F0) (f := p) (G := f :: G) hM2
        rw [← hp2] at r1 r2
        have hla : ll + p.length = aa := by rw [HX.out.2.2.1, hp1, hp2]; simp
        have hpp := (hl0.below hb').mid (i := ll) (j := aa) (by omega) (by omega)
        rw [show p.length = aa - ll by omega] at r1
        rw [r1] at hpp
        have HAH := hid hah
        have HLA := hid hla
        clear hah hM2 r1 hla hp1 hp2
        go_wp2_with fail
        refine (Lyndon_ok _ f _ hpc hfi HFF.out).mono ?_
        rintro e w4 ⟨rfl, hb4⟩
        rw [HLY.out]
        have hb5 := hb'.trans (hb4.mono hb'.size)
        have ho4 := ho.below hb4
        have hcell4 := ho4.cell ii (by rw [lens_len, HFL.out]; exact hlt)
        rw [HCE.out] at hcell4
        have HP1 := hid (hpp.below hb4)
        obtain ⟨q, hqq, hqn⟩ : ∃ q : Nat, (q : Int) = aa + n ∧ n = q - aa := ⟨aa + n, by omega, by omega⟩
        have HP2 := hpc.below hb4
        rw [hqn] at HP2
        replace HP2 := hid HP2
        have hqa : (aa : Int) ≤ (q : Int) := by omega
        have hqa' : aa ≤ q := by omega
        have hqc : (q : Int) ≤ (c : Int) := by omega
        have hqc' : q ≤ c := by omega
        have hw : IntKind.i64.wrap ((aa : Int) + (n : Int)) = ((q : Nat) : Int) := by
          rw [hqq]; exact IntWalk.i64_in _ (by omega)
        have hxa : aa < q := by clear hw; omega
        have hla3 := HLA.out
        have hxl : ll < q := by clear hw; omega
        have hca : ¬ (c = aa) := fun h => by rw [h] at hqc'; exact absurd hqc' (Nat.not_le.2 hxa)
        have hcl : ¬ (c = ll) := fun h => by rw [h] at hqc'; exact absurd hqc' (Nat.not_le.2 hxl)
        have hca' : ¬ ((c : Int) = (aa : Int)) := fun h => hca (by exact_mod_cast h)
        have hcl' : ¬ ((c : Int) = (ll : Int)) := fun h => hcl (by exact_mod_cast h)
        clear hla3
        clear hb4 hpc hpp
        have hla2 := HLA.out
        have hll : ll ≤ aa := by omega
        have hllI : (ll : Int) ≤ (aa : Int) := by omega
        have haN : aa ≤ N := by omega
        have haI : (aa : Int) ≤ (N : Int) := by omega
        have haC : (aa : Int) ≤ (c : Int) := by omega
        have HQ := hid hqq
        clear hla2 hqq hqn
        go_wp2
        go_quiet ((go_at_call 30; exact Calls.quiet_of (ahead_any _ _ p f _ (HP1.out.drewN _) (HP2.out.drewN _))))
        rw [HAH.out]
        go_wp2
        go_roundw
        case rel => exact ⟨ii + 1, aa + n, aa, by go_num, by first | go_num | (rw [HQ.out]; go_num), rfl, hid HST.out, ho4.drewN _, below_drewN hb5 _⟩
        case measure => simp [intOf] <;> omega
      · go_wp2_with fail
        refine (Lyndon_ok _ f _ hpc hfi HFF.out).mono ?_
        rintro e w4 ⟨rfl, hb4⟩
        rw [HLY.out]
        have hb5 := hb'.trans (hb4.mono hb'.size)
        have ho4 := ho.below hb4
        have hcell4 := ho4.cell ii (by rw [lens_len, HFL.out]; exact hlt)
        rw [HCE.out] at hcell4
        clear hb4 hpc
        go_wp2
        go_roundw
        case rel => exact ⟨ii + 1, aa + n, aa, by go_num, by go_num, rfl, hid HST.out, ho4, hb5⟩
        case measure => simp [intOf] <;> omega

theorem wordChen_walk (w : World) (v : Value) (l : List Int) (hl : Sl w v l) (hb : ∀ x ∈ l, I64 x) :
    Calls Try.prog 10 #[v] w fun e w' => e = .returned (.bool true) ∧ Below w.heap.size w w' := by
  by_cases h : wordFault l = 0
  · exact wordChen_good w v l hl hb h
  · have HF := hid (fun (w1 : World) (h1 : Below w.heap.size w w1) => Factors_bad _ l w1 (hl.below h1) hb h)
    have hq : (wordFault l != 0) = true := by simpa using h
    go_enter Try.func10, Try.ntmps10
    go_wp2_with fail
    refine (wordFact_any w).mono ?_
    rintro e w1 ⟨rfl, hb1⟩
    go_wp2_with fail
    refine (HF.out _ hb1).mono ?_
    rintro e w2 ⟨rfl, rfl⟩
    go_wp2
    go_ret
    exact ⟨rfl, hb1⟩
end Go.Proofs.Ytiohfgofoklncaa
