/-
  The walk over parterrelaw1.made: it returns true. No condition.
-/
import Derived.Test.YtnbgnoimanpjnaaGlord
namespace Go.Proofs.Ytnbgnoimanpjnaa
set_option linter.unusedVariables false
open Go.RowKit

/-- A list of ranks is closed under the makers, and each is reached from one ahead of it. -/
def clK (n : Nat) (ms : List (Nat → Nat)) (K : List Nat) : Bool := K.contains 0 && K.all fun k => decide (k < fac n) && ms.all fun m => K.contains (rkF n (compF (unF n k) m))
def rcK (n : Nat) (ms : List (Nat → Nat)) (K : List Nat) (W : List (Nat × Nat)) : Bool := K.getD 0 1 == 0 && (List.range K.length).all fun i => i == 0 || (decide ((W.getD (i - 1) (0, 0)).1 < i) && decide ((W.getD (i - 1) (0, 0)).2 < ms.length) && rkF n (compF (unF n (K.getD (W.getD (i - 1) (0, 0)).1 0)) (ms.getD (W.getD (i - 1) (0, 0)).2 id)) == K.getD i 0)
theorem un_zero (n : Nat) : unF n 0 = id := by
  have := un_rk (id_mv n)
  rwa [rk_id] at this
theorem gen_cl {n : Nat} {ms : List (Nat → Nat)} {K : List Nat} (hm : ∀ m ∈ ms, Mv n m) (h : clK n ms K = true) {x : Nat → Nat} (hx : GenF ms x) : rkF n x ∈ K := by
  simp only [clK, Bool.and_eq_true, List.all_eq_true, List.contains_iff_mem, decide_eq_true_eq] at h
  obtain ⟨h0, h1⟩ := h
  refine hx.closed (G := fun x => Mv n x ∧ rkF n x ∈ K) ⟨id_mv n, by rw [rk_id]; exact h0⟩ (fun y ⟨hy, hk⟩ m hmm => ⟨comp_mv hy (hm m hmm), ?_⟩) |>.2
  have := (h1 _ hk).2 m hmm
  rwa [un_rk hy] at this
theorem gen_rc {n : Nat} {ms : List (Nat → Nat)} {K : List Nat} {W : List (Nat × Nat)} (hm : ∀ m ∈ ms, Mv n m) (hcl : clK n ms K = true) (h : rcK n ms K W = true) : ∀ i, i < K.length → GenF ms (unF n (K.getD i 0)) := by
  simp only [rcK, Bool.and_eq_true, List.all_eq_true, List.mem_range, Bool.or_eq_true, beq_iff_eq, decide_eq_true_eq] at h
  simp only [clK, Bool.and_eq_true, List.all_eq_true, List.contains_iff_mem, decide_eq_true_eq] at hcl
  intro i
  induction i using Nat.strongRecOn with
  | _ i ih =>
    intro hi
    by_cases h0 : i = 0
    · subst h0
      have : K.getD 0 0 = 0 := by
        have := h.1
        rw [List.getD_eq_getElem?_getD, List.getElem?_eq_getElem hi] at this ⊢
        exact this
      rw [this, un_zero]
      exact GenF.one
    · rcases h.2 i hi with e | ⟨⟨h1, h2⟩, h3⟩
      · exact absurd e h0
      · have hg := ih _ h1 (by omega)
        have hmm := getD_mem h2 id
        have := GenF.step hg hmm
        rw [← h3, un_rk (this.mv hm)]
        exact this
open Classical in
theorem GL_count {n : Nat} {ms : List (Nat → Nat)} {K : List Nat} {W : List (Nat × Nat)} (hm : ∀ m ∈ ms, Mv n m) (hcl : clK n ms K = true) (hrc : rcK n ms K W = true) : (GL n ms).length = ((List.range (fac n)).filter fun k => K.contains k).length := by
  unfold GL
  rw [List.length_map]
  congr 1
  refine List.filter_congr fun k hk => ?_
  have hk := List.mem_range.1 hk
  rw [Bool.eq_iff_iff, decide_eq_true_eq, List.contains_iff_mem]
  constructor
  · intro h
    have := gen_cl hm hcl h
    rwa [rk_un hk] at this
  · intro h
    obtain ⟨i, hi, rfl⟩ := List.mem_iff_getElem.1 h
    have := gen_rc hm hcl hrc i hi
    rwa [List.getD_eq_getElem?_getD, List.getElem?_eq_getElem hi, Option.getD_some] at this

theorem lit_grp : grpE ((4 : Nat) : Int) [[1, 2, 3, 0], [2, 1, 0, 3]] = 0 := by decide +kernel
theorem lit_len : (GL 4 (msL 4 [[1, 2, 3, 0], [2, 1, 0, 3]])).length = 8 := by
  obtain ⟨n', hn', hG⟩ := gok_of lit_grp
  obtain rfl : 4 = n' := by omega
  rw [GL_count hG.mv (K := [0, 9, 14, 16, 7, 23, 18, 5]) (W := [(0, 0), (0, 1), (1, 0), (1, 1), (2, 0), (3, 0), (3, 1)]) (by decide +kernel) (by decide +kernel)]
  decide +kernel

set_option maxHeartbeats 1000000 in
set_option maxRecDepth 10000 in
theorem lmade_ok (w : World) : Calls Try.prog 24 #[] w fun e w' => e = .returned (.bool true) ∧ Below w.heap.size w w' := by
  have s1 := Sl.lit w #[.int .i64 1, .int .i64 2, .int .i64 3, .int .i64 0] [1, 2, 3, 0] rfl
  have b1 : Below w.heap.size w (w.alloc (.cells #[.int .i64 1, .int .i64 2, .int .i64 3, .int .i64 0] 3)) := (Below.refl _ _).alloc (Nat.le_refl _) _
  have z1 : (w.alloc (.cells #[.int .i64 1, .int .i64 2, .int .i64 3, .int .i64 0] 3)).heap.size = w.heap.size + 1 := World.size_alloc _ _
  obtain ⟨w1, hw1⟩ : ∃ w1, w.alloc (.cells #[.int .i64 1, .int .i64 2, .int .i64 3, .int .i64 0] 3) = w1 := ⟨_, rfl⟩
  rw [hw1] at s1 b1 z1
  have s2 := Sl.lit w1 #[.int .i64 2, .int .i64 1, .int .i64 0, .int .i64 3] [2, 1, 0, 3] rfl
  have b2 : Below w1.heap.size w1 (w1.alloc (.cells #[.int .i64 2, .int .i64 1, .int .i64 0, .int .i64 3] 3)) := (Below.refl _ _).alloc (Nat.le_refl _) _
  have z2 : (w1.alloc (.cells #[.int .i64 2, .int .i64 1, .int .i64 0, .int .i64 3] 3)).heap.size = w1.heap.size + 1 := World.size_alloc _ _
  obtain ⟨w2, hw2⟩ : ∃ w2, w1.alloc (.cells #[.int .i64 2, .int .i64 1, .int .i64 0, .int .i64 3] 3) = w2 := ⟨_, rfl⟩
  rw [hw2] at s2 b2 z2
  have hol := Arr.new w2 23 [.slice (some ⟨w.heap.size, 0, none⟩) 4 4, .slice (some ⟨w1.heap.size, 0, none⟩) 4 4]
  have b3 : Below w2.heap.size w2 (w2.alloc (.cells #[.slice (some ⟨w.heap.size, 0, none⟩) 4 4, .slice (some ⟨w1.heap.size, 0, none⟩) 4 4] 23)) := (Below.refl _ _).alloc (Nat.le_refl _) _
  obtain ⟨w3, hw3⟩ : ∃ w3, w2.alloc (.cells #[.slice (some ⟨w.heap.size, 0, none⟩) 4 4, .slice (some ⟨w1.heap.size, 0, none⟩) 4 4] 23) = w3 := ⟨_, rfl⟩
  rw [hw3] at b3 hol
  have hrl : RL w3 (.slice (some ⟨w2.heap.size, 0, none⟩) 2 2) [[1, 2, 3, 0], [2, 1, 0, 3]] := by
    refine ⟨_, _, rfl, by simp, fun _ => ⟨_, 0, rfl, hol.lt, fun i hi => ?_⟩⟩
    match i, hi with
    | 0, _ => exact ⟨_, hol.cell 0, (s1.below b2).below b3⟩
    | 1, _ => exact ⟨_, hol.cell 1, s2.below b3⟩
  have HO := hid (order_ok 4 _ _ _ hrl lit_grp)
  rw [lit_len, ← hw3, ← hw2, ← hw1] at HO
  have HB := hid (b1.trans ((b2.mono (by omega)).trans (b3.mono (by omega))))
  rw [← hw3, ← hw2, ← hw1] at HB
  clear hrl hol b1 b2 b3 s1 s2 z1 z2 hw1 hw2 hw3
  clear w1 w2 w3
  simp only [World.size_alloc] at HO HB
  go_enter Try.func24, Try.ntmps24
  go_wp2_with fail
  refine HO.out.mono ?_
  rintro e w4 ⟨rfl, hb4⟩
  have HB4 := hid (HB.out.trans (hb4.mono (by omega)))
  clear hb4
  go_wp2
  go_ret
  exact ⟨rfl, HB4.out⟩
end Go.Proofs.Ytnbgnoimanpjnaa
