/-
  The walk over parterreref1.Lists: it tells whether two lists of slices of integers read alike. No condition but that both can be read.
-/
import Derived.Test.YtdbfmjlnalaobaaOl
import Derived.Test.YtdbfmjlnalaobaaWints
import Derived.BigQuiet
namespace Go.Proofs.Ytdbfmjlnalaobaa
open Go.RowKit

/-- A readable list of slices. -/
def RL (w : World) (v : Value) (ll : List (List Int)) : Prop :=
  ∃ a c, v = .slice a ll.length c ∧ (ll.length ≤ 1000000000000 ∧ ll.length ≤ c) ∧ (0 < ll.length → ∃ g, a = some ⟨g, 0, none⟩ ∧ g < w.heap.size ∧ ∀ i, i < ll.length → ∃ u, w.cell? ⟨g, i, none⟩ = some u ∧ Sl w u (ll.getD i []))

theorem RL.open {w : World} {v : Value} {ll : List (List Int)} (h : RL w v ll) : ∃ a c N, v = .slice a N c ∧ Hid (ll.length = N) ∧ (N ≤ 1000000000000 ∧ N ≤ c) ∧ (0 < N → ∃ g, a = some ⟨g, 0, none⟩ ∧ g < w.heap.size ∧ ∀ i, i < N → ∃ u, w.cell? ⟨g, i, none⟩ = some u ∧ Sl w u (ll.getD i [])) := by
  obtain ⟨a, c, h1, h2, h3⟩ := h
  exact ⟨a, c, ll.length, h1, hid rfl, h2, h3⟩

theorem OL.rl {B U : Nat} {w : World} {v : Value} {ll : List (List Int)} (h : OL B U w v ll) (h1 : ll.length ≤ 1000000000000) (h2 : ∀ i, i < ll.length → (ll.getD i []).length ≤ 17592186044416) : RL w v ll := by
  obtain ⟨vs, o1, o2, o3, o4⟩ := h
  obtain ⟨a, c, e⟩ := o1.len
  subst e
  refine ⟨a, c, by rw [o3], ⟨h1, by have := o1.cap.1; omega⟩, fun hp => ?_⟩
  obtain ⟨g, c', e, hg1, hg2⟩ := o1.form (by omega)
  simp only [Value.slice.injEq] at e
  obtain ⟨rfl, _, rfl⟩ := e
  refine ⟨g, rfl, hg2, fun i hi => ?_⟩
  refine ⟨vs.getD i undef, ?_, (o4 i hi).1.sl (h2 i hi)⟩
  rw [o1.cell i (by omega)]
  simp [show i < vs.length by omega]

theorem RL.below {w w' : World} {v : Value} {ll : List (List Int)} (h : RL w v ll) (hb : Below w.heap.size w w') : RL w' v ll := by
  obtain ⟨a, c, h1, h2, h3⟩ := h
  refine ⟨a, c, h1, h2, fun hp => ?_⟩
  obtain ⟨g, e, hg, hc⟩ := h3 hp
  have hsz := hb.size
  refine ⟨g, e, by omega, fun i hi => ?_⟩
  obtain ⟨u, hu, hs⟩ := hc i hi
  exact ⟨u, by rw [hb.cell hg]; exact hu, hs.below hb⟩

theorem lists_len (v u : Value) (l m : List (List Int)) (w : World) (hl : RL w v l) (hm : RL w u m) (hne : l.length ≠ m.length) :
    Calls Try.prog 31 #[v, u] w fun e w' => e = .returned (.bool false) ∧ w = w' := by
  obtain ⟨a, c, rfl, hl1, _⟩ := hl
  obtain ⟨a', c', rfl, hm1, _⟩ := hm
  have hb : ((l.length : Int) != (m.length : Int)) = true := bne_iff_ne.2 (fun e => hne (Int.ofNat.inj e))
  go_enter Try.func31, Try.ntmps31
  go_wp2
  go_ret
  exact ⟨rfl, rfl⟩

theorem takeL_step {l m : List (List Int)} {k : Nat} (hl : k < l.length) (hm : k < m.length) (ht : l.take k = m.take k) (he : l.getD k [] = m.getD k []) : l.take (k + 1) = m.take (k + 1) := by
  rw [List.take_add_one, List.take_add_one, ht]
  simp [List.getD_eq_getElem?_getD, hl, hm] at he
  simp [hl, hm, he]

theorem lists_same (v u : Value) (l m : List (List Int)) (w : World) (hl : RL w v l) (hm : RL w u m) (hne : m.length = l.length) :
    Calls Try.prog 31 #[v, u] w fun e w' => e = .returned (.bool (decide (l = m))) ∧ ∃ n, w' = w.drewN n := by
  obtain ⟨a, c, N, rfl, hN, hl1, hl2⟩ := hl.open
  obtain ⟨a', c', N', rfl, hN', hm1, hm2⟩ := hm.open
  have HNE := hid hne
  obtain rfl : N = N' := by rw [← hN'.out, ← hN.out]; exact hne.symm
  have HD : ∀ k : Nat, k < N → l.getD k [] ≠ m.getD k [] → l ≠ m := fun k _ h e => h (by rw [e])
  have HD' := hid HD
  have HI := hid (fun (v u : Value) (l m : List Int) (w : World) (hl : Sl w v l) (hm : Sl w u m) => ints_any v u l m w hl hm)
  clear hne HD hl hm
  go_enter Try.func31, Try.ntmps31
  go_wp2
  go_loopw [5, 6] (fun i _ wr => ∃ k : Nat, k ≤ N ∧ i = .int .i64 k ∧ (∃ n, wr = w.drewN n) ∧ Hid (l.take k = m.take k)) (fun i _ _ => N - (intOf i).toNat)
  case atStart => exact ⟨0, Nat.zero_le _, rfl, ⟨0, rfl⟩, hid rfl⟩
  case round =>
    obtain ⟨k, hk, rfl, ⟨n, hn⟩, ht⟩ := hrel
    by_cases hlt : k < N
    · obtain ⟨g, rfl, hg, hc⟩ := hl2 (by omega)
      obtain ⟨g', rfl, hg', hc'⟩ := hm2 (by omega)
      obtain ⟨u1, c1, s1⟩ := hc k hlt
      obtain ⟨u2, c2, s2⟩ := hc' k hlt
      have HS : Hid (Sl wr u1 (l.getD k []) ∧ Sl wr u2 (m.getD k [])) := hid (by rw [hn]; exact And.intro (s1.drewN _) (s2.drewN _))
      have c1' : wr.cell? ⟨g, k, none⟩ = some u1 := by rw [hn]; exact c1
      have c2' : wr.cell? ⟨g', k, none⟩ = some u2 := by rw [hn]; exact c2
      have hg1' : g < wr.heap.size := by rw [hn]; exact hg
      have hg2' : g' < wr.heap.size := by rw [hn]; exact hg'
      have HW := hid hn
      clear hn c1 c2 hg hg'
      clear hc hc' hl2 hm2 s1 s2
      go_wp2
      go_quiet ((go_at_call 17; exact Calls.quiet_of (HI.out _ _ _ _ _ (HS.out.1.drewN _) (HS.out.2.drewN _))))
      by_cases he : l.getD k [] = m.getD k []
      · have HE := hid he
        have HB := hid (decide_eq_true he)
        clear he
        rw [HB.out]
        go_wp2
        go_roundw
        case rel => exact ⟨k + 1, by omega, by go_num, by rw [HW.out]; simp only [World.drewN_drewN]; exact ⟨_, rfl⟩, hid (takeL_step (by rw [hN.out]; exact hlt) (by rw [hN'.out]; exact hlt) ht.out HE.out)⟩
        case measure => simp [intOf] <;> omega
      · have HB := hid (decide_eq_false he)
        have hne := HD'.out k hlt he
        have HB2 := hid (decide_eq_false hne)
        clear he hne
        rw [HB.out]
        go_wp2
        go_ret
        refine ⟨by rw [HB2.out]; rfl, ?_⟩
        rw [HW.out]
        first | exact ⟨_, rfl⟩ | (simp only [World.drewN_drewN]; exact ⟨_, rfl⟩)
    · obtain rfl : k = N := by omega
      have HB : Hid (decide (l = m) = true) := hid (decide_eq_true (by
        have := ht.out
        rw [List.take_of_length_le (by rw [hN.out]; exact Nat.le_refl _), List.take_of_length_le (by rw [hN'.out]; exact Nat.le_refl _)] at this
        exact this))
      clear ht
      subst hn
      go_wp2
      go_ret
      refine ⟨by rw [HB.out]; rfl, ?_⟩
      first | exact ⟨_, rfl⟩ | (simp only [World.drewN_drewN]; exact ⟨_, rfl⟩)

theorem lists_any (v u : Value) (l m : List (List Int)) (w : World) (hl : RL w v l) (hm : RL w u m) :
    Calls Try.prog 31 #[v, u] w fun e w' => e = .returned (.bool (decide (l = m))) ∧ ∃ n, w' = w.drewN n := by
  by_cases h : m.length = l.length
  · exact lists_same v u l m w hl hm h
  · refine (lists_len v u l m w hl hm (fun e => h e.symm)).mono fun e w' ⟨he, hw⟩ => ?_
    subst hw
    refine ⟨?_, 0, rfl⟩
    rw [he, decide_eq_false]
    intro e
    exact h (by rw [e])
end Go.Proofs.Ytdbfmjlnalaobaa
