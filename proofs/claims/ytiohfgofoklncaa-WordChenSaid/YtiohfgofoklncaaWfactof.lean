/-
  The walk over parterreref4.FactorsOf, where what the word is made of is known. Condition: the slice can be read, and is of at most 4096 numbers.
-/
import Derived.Test.YtiohfgofoklncaaWlynof
namespace Go.Proofs.Ytiohfgofoklncaa
open Go.RowKit

namespace Lex
theorem made_take {f : List Int} {G : List (List Int)} {r : List Int} (h : Made r (f :: G)) : lynB (r.take f.length) = true := by
  have h1 : r = f ++ G.flatten := h.1
  rw [h1, List.take_left]
  exact (lynB_iff f).2 (h.2.1 f (by simp))
theorem made_stop {f : List Int} {G : List (List Int)} {r : List Int} {n : Nat} (h : Made r (f :: G)) (hn : f.length ≤ n) (hn2 : n ≤ r.length) (hl : lynB (r.take n) = true) : n = f.length := by
  have := made_longest (p := r.take n) (q := r.drop n) (by rw [List.take_append_drop]; exact h) ((lynB_iff _).1 hl)
  rw [List.length_take] at this
  omega
theorem made_drop {f : List Int} {G : List (List Int)} {r : List Int} (h : Made r (f :: G)) : Made (r.drop f.length) G := by
  have h1 : r = f ++ G.flatten := h.1
  rw [h1, List.drop_left]
  exact ⟨rfl, fun g hg => h.2.1 g (by simp [hg]), h.2.2.2⟩
theorem made_count {F : List (List Int)} {r : List Int} (h : Made r F) : F.length ≤ r.length := by
  have key : ∀ F : List (List Int), (∀ f ∈ F, Lyn f) → F.length ≤ F.flatten.length := by
    intro F
    induction F with
    | nil => simp
    | cons f F ih =>
      intro h
      have h1 := ih (fun g hg => h g (by simp [hg]))
      have h2 : 0 < f.length := List.length_pos_iff.2 (h f (by simp)).1
      simp at h1 ⊢
      omega
  rw [h.1]
  exact key F h.2.1
theorem made_pos {f : List Int} {G : List (List Int)} {r : List Int} (h : Made r (f :: G)) : 1 ≤ f.length ∧ f.length ≤ r.length := by
  have h1 : r = f ++ G.flatten := h.1
  have h2 := List.length_pos_iff.2 (h.2.1 f (by simp)).1
  rw [h1, List.length_append]
  omega
end Lex

/-- What holds ahead of each round. -/
def fofJ (F : List (List Int)) (w : World) (v out : Value) (wr : World) : Prop :=
  ∃ F1 F2 r, F = F1 ++ F2 ∧ Lex.Made r F2 ∧ Sl w v r ∧ r.length ≤ 4096 ∧ OI w.heap.size wr out (Lex.lens F1) ∧ F1.length + r.length ≤ 4096 ∧ Below w.heap.size w wr

theorem fofJ_step {F F1 G : List (List Int)} {f r : List Int} {w wr w3 : World} {u3 out v' : Value} (h1 : F = F1 ++ f :: G) (h2 : Lex.Made r (f :: G)) (h3 : Sl w v' (r.drop f.length)) (h4 : r.length ≤ 4096)
    (h5 : OI w.heap.size wr u3 (Lex.lens F1)) (h6 : F1.length + r.length ≤ 4096) (h7 : Below w.heap.size w wr) (h8 : OI w.heap.size w3 out (Lex.lens F1 ++ [(f.length : Int)])) (h9 : wr.grownBy w3 u3.ownBlock) : fofJ F w v' out w3 := by
  have hp := Lex.made_pos h2
  refine ⟨F1 ++ [f], G, r.drop f.length, by rw [h1]; simp, Lex.made_drop h2, h3, by rw [List.length_drop]; omega, ?_, ?_, h5.grown h7 h9 h7.size⟩
  · have : Lex.lens (F1 ++ [f]) = Lex.lens F1 ++ [(f.length : Int)] := by simp [Lex.lens]
    rw [this]; exact h8
  · rw [List.length_append, List.length_drop]; simp; omega
theorem lens_len (F : List (List Int)) : (Lex.lens F).length = F.length := by simp [Lex.lens]

set_option maxHeartbeats 1000000 in
theorem factorsof_any (v : Value) (l : List Int) (F : List (List Int)) (w : World) (hl : Sl w v l) (hlen : l.length ≤ 4096) (hF : Lex.Made l F) :
    Calls Try.prog 19 #[v] w fun e w' => (∃ u, e = .returned u ∧ OI w.heap.size w' u (Lex.lens F)) ∧ Below w.heap.size w w' := by
  go_enter Try.func19, Try.ntmps19
  go_wp2
  go_loopw [0, 3] (fun v out wr => ∃ a c N, v = .slice a N c ∧ fofJ F w v out wr) (fun v _ _ => (match v with | .slice _ n _ => n | _ => 0))
  case atStart =>
    obtain ⟨a, c, N, rfl, hN, hl1, hl2⟩ := hl.open
    exact ⟨a, c, N, rfl, [], F, l, rfl, hF, hl, hlen, OI.nil _ _, by simpa using hlen, Below.refl _ _⟩
  case round =>
    obtain ⟨a, c, N, rfl, F1, F2, r, hFF, hM, hsl, hr, hown, hrl, hb⟩ := hrel
    clear hl hF hlen
    obtain ⟨a', c', N', hv, hN, hl1, hl2⟩ := hsl.open
    simp only [Value.slice.injEq] at hv
    obtain ⟨rfl, rfl, rfl⟩ := hv
    rw [hN.out] at hr hrl
    by_cases h0 : N = 0
    · subst h0
      obtain rfl : r = [] := List.eq_nil_of_length_eq_zero hN.out
      obtain rfl : F2 = [] := Lex.made_nil hM
      have HF : Hid (F = F1) := hid (by rw [hFF, List.append_nil])
      clear hFF
      go_wp2
      go_ret
      exact ⟨⟨_, rfl, by rw [HF.out]; exact hown⟩, hb⟩
    have hpos : 0 < N := by omega
    obtain ⟨b, off, rfl, hbl, hcc⟩ := hl2 hpos
    clear hl2 hcc
    obtain ⟨f, G, rfl⟩ := Lex.made_ne hM (by intro e; have := hN.out; rw [e] at this; simp at this; omega)
    have hfp := Lex.made_pos hM
    rw [hN.out] at hfp
    have HM := hid hM
    have HFF := hid hFF
    clear hM hFF
    go_wp2
    go_loopw [4] (fun i w2 => ∃ n : Nat, f.length ≤ n ∧ n ≤ N ∧ i = .int .i64 n ∧ ∃ k, w2 = wr.drewN k) (fun i _ => (intOf i).toNat)
    case atStart => exact ⟨N, hfp.2, Nat.le_refl _, rfl, 0, rfl⟩
    case round =>
      obtain ⟨n, hn1, hn2, rfl, k, rfl⟩ := hrel
      have hb' := below_drewN hb k
      have hB := hb'.size
      have ho' := hown.drewN k
      have hs' := (hsl.below hb).drewN k
      have hlen1 : (Lex.lens F1).length = F1.length := by simp [Lex.lens]
      have hl3 : (Lex.lens F1).length ≤ 1000000000000 := by omega
      -- behind the loop: n is the first factor's length
      by_cases hone : 1 < n
      · have hsu := hs'.upto (i := n) (by omega)
        go_wp2_with fail
        refine (lyndonof_any _ (r.take n) _ hsu).mono ?_
        rintro e w' ⟨rfl, ⟨m, rfl⟩⟩
        cases hly : Lex.lynB (r.take n) with
        | false =>
          have hne : n ≠ f.length := by
            intro e
            rw [e, Lex.made_take HM.out] at hly
            cases hly
          clear hly
          go_wp2
          go_roundw
          case rel => exact ⟨n - 1, by omega, by omega, by go_num, _, rfl⟩
          case measure => simp [intOf] <;> omega
        | true =>
          obtain rfl : n = f.length := Lex.made_stop HM.out hn1 (by rw [hN.out]; exact hn2) hly
          clear hly
          by_cases hcn : c = f.length
          · obtain rfl : N = f.length := by omega
            go_wp2_with (at_builtin; refine wpList_appi (wr.drewN (k + m)) _ _ 23 rfl rfl Try.underlying23 Try.info3 w.heap.size _ _ rfl (hown.drewN _) rfl hl3 (by exact hb.size) ?_; intro g c3 w3 hown3 hg1 hg2 hg3)
            go_roundw
            case rel => exact ⟨_, _, _, rfl, fofJ_step HFF.out HM.out (by rw [List.drop_of_length_le (by rw [hN.out]; exact Nat.le_refl _)]; exact Sl.nil' _ _) (by rw [hN.out]; exact hr) (hown.drewN _) (by rw [hN.out]; exact hrl) (below_drewN hb _) (by rw [← lens_len F1]; exact hown3) hg1⟩
            case measure => show (0 : Nat) < _; omega
          · go_wp2_with (at_builtin; refine wpList_appi (wr.drewN (k + m)) _ _ 23 rfl rfl Try.underlying23 Try.info3 w.heap.size _ _ rfl (hown.drewN _) rfl hl3 (by exact hb.size) ?_; intro g c3 w3 hown3 hg1 hg2 hg3)
            go_roundw
            case rel => exact ⟨_, _, _, rfl, fofJ_step HFF.out HM.out (hsl.fromc hfp.2 hcn) (by rw [hN.out]; exact hr) (hown.drewN _) (by rw [hN.out]; exact hrl) (below_drewN hb _) (by rw [← lens_len F1]; exact hown3) hg1⟩
            case measure => show N - f.length < N; omega
      · obtain rfl : n = f.length := by omega
        by_cases hcn : c = f.length
        · obtain rfl : N = f.length := by omega
          go_wp2_with (at_builtin; refine wpList_appi (wr.drewN k) _ _ 23 rfl rfl Try.underlying23 Try.info3 w.heap.size _ _ rfl (hown.drewN _) rfl hl3 (by exact hb.size) ?_; intro g c3 w3 hown3 hg1 hg2 hg3)
          go_roundw
          case rel => exact ⟨_, _, _, rfl, fofJ_step HFF.out HM.out (by rw [List.drop_of_length_le (by rw [hN.out]; exact Nat.le_refl _)]; exact Sl.nil' _ _) (by rw [hN.out]; exact hr) (hown.drewN _) (by rw [hN.out]; exact hrl) (below_drewN hb _) (by rw [← lens_len F1]; exact hown3) hg1⟩
          case measure => show (0 : Nat) < _; omega
        · go_wp2_with (at_builtin; refine wpList_appi (wr.drewN k) _ _ 23 rfl rfl Try.underlying23 Try.info3 w.heap.size _ _ rfl (hown.drewN _) rfl hl3 (by exact hb.size) ?_; intro g c3 w3 hown3 hg1 hg2 hg3)
          go_roundw
          case rel => exact ⟨_, _, _, rfl, fofJ_step HFF.out HM.out (hsl.fromc hfp.2 hcn) (by rw [hN.out]; exact hr) (hown.drewN _) (by rw [hN.out]; exact hrl) (below_drewN hb _) (by rw [← lens_len F1]; exact hown3) hg1⟩
          case measure => show N - f.length < N; omega
end Go.Proofs.Ytiohfgofoklncaa
