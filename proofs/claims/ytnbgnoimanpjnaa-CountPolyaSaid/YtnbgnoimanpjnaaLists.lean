/-
  The walk over parterreref1.Lists: it tells whether two lists of slices of integers read alike. No condition but that both can be read.
-/
import Derived.Test.YtnbgnoimanpjnaaOl
import Derived.Test.YtnbgnoimanpjnaaWints
import Derived.BigQuiet
import Derived.Deep.Matrix
namespace Go.Proofs.Ytnbgnoimanpjnaa
open Go.RowKit

/-- A readable list of slices. -/
def RL (w : World) (v : Value) (ll : List (List Int)) : Prop :=
  ∃ a c, v = .slice a ll.length c ∧ (ll.length ≤ 17592186044416 ∧ ll.length ≤ c) ∧ (0 < ll.length → ∃ g off, a = some ⟨g, off, none⟩ ∧ g < w.heap.size ∧ ∀ i, i < ll.length → ∃ u, w.cell? ⟨g, off + i, none⟩ = some u ∧ Sl w u (ll.getD i []))

theorem RL.open {w : World} {v : Value} {ll : List (List Int)} (h : RL w v ll) : ∃ a c N, v = .slice a N c ∧ Hid (ll.length = N) ∧ (N ≤ 17592186044416 ∧ N ≤ c) ∧ (0 < N → ∃ g off, a = some ⟨g, off, none⟩ ∧ g < w.heap.size ∧ ∀ i, i < N → ∃ u, w.cell? ⟨g, off + i, none⟩ = some u ∧ Sl w u (ll.getD i [])) := by
  obtain ⟨a, c, h1, h2, h3⟩ := h
  exact ⟨a, c, ll.length, h1, hid rfl, h2, h3⟩

theorem OL.rl {B U : Nat} {w : World} {v : Value} {ll : List (List Int)} (h : OL B U w v ll) (h1 : ll.length ≤ 1000000000000) (h2 : ∀ i, i < ll.length → (ll.getD i []).length ≤ 17592186044416) : RL w v ll := by
  obtain ⟨vs, o1, o2, o3, o4⟩ := h
  obtain ⟨a, c, e⟩ := o1.len
  subst e
  refine ⟨a, c, by rw [o3], ⟨by omega, by have := o1.cap.1; omega⟩, fun hp => ?_⟩
  obtain ⟨g, c', e, hg1, hg2⟩ := o1.form (by omega)
  simp only [Value.slice.injEq] at e
  obtain ⟨rfl, _, rfl⟩ := e
  refine ⟨g, 0, rfl, hg2, fun i hi => ?_⟩
  refine ⟨vs.getD i undef, ?_, (o4 i hi).1.sl (h2 i hi)⟩
  rw [Nat.zero_add, o1.cell i (by omega)]
  simp [show i < vs.length by omega]

theorem RL.below {w w' : World} {v : Value} {ll : List (List Int)} (h : RL w v ll) (hb : Below w.heap.size w w') : RL w' v ll := by
  obtain ⟨a, c, h1, h2, h3⟩ := h
  refine ⟨a, c, h1, h2, fun hp => ?_⟩
  obtain ⟨g, off, e, hg, hc⟩ := h3 hp
  have hsz := hb.size
  refine ⟨g, off, e, by omega, fun i hi => ?_⟩
  obtain ⟨u, hu, hs⟩ := hc i hi
  exact ⟨u, by rw [hb.cell hg]; exact hu, hs.below hb⟩
theorem RL.drewN {w : World} {v : Value} {ll : List (List Int)} (h : RL w v ll) (n : Nat) : RL (w.drewN n) v ll := h

open Go.ChangeShapes Go.WideShapes in
/-- A slice of slices of integers that came in can be read. -/
theorem rl_of_open {H : Type} {enc : TypeId × Value → H} {P : Program} {w : World} {base : Nat} {held : Bool} {t e q : TypeId} {fuel len cap : Nat} {a : Option Addr} {d : DataW H} {ps : List MemPlace} (ht : P.underlying t = some (.slice e)) (he : P.underlying e = some (.slice q)) (hq : P.underlying q = some (.int .i64))
    (ce : P.cellsOf e = 1) (cq : P.cellsOf q = 1) (hbe : P.bytesOf e = 24) (hbq : P.bytesOf q = 8)
    (h : DataW.trod enc P w base (fun _ => true) held fuel t (Value.slice a len cap).cells.toList = some (d, ps))
    (hsz : ∀ elems spare, d = .slice elems spare → (elems.length + spare.length) * P.bytesOf e ≤ reachBytes ∧ ∀ x ∈ elems, ∀ es sp, x = .slice es sp → (es.length + sp.length) * P.bytesOf q ≤ reachBytes) :
    ∃ ll, RL w (.slice a len cap) ll ∧ ∀ l ∈ ll, ∀ x ∈ l, I64 x := by
  rcases Deep.open_int_rows ht he hq ce cq h with ⟨hcs, _⟩ | ⟨x, n, c, A, L, C, Z, hcs, _, hl, _, hd, hrow⟩
  · simp [Value.cells] at hcs
    obtain ⟨rfl, rfl, rfl⟩ := hcs
    exact ⟨[], ⟨none, 0, rfl, by simp, fun h0 => by simp at h0⟩, by simp⟩
  · simp [Value.cells] at hcs
    obtain ⟨rfl, rfl, rfl⟩ := hcs
    simp only [Prod.mk.injEq] at hd
    obtain ⟨hs1, hs2⟩ := hsz _ _ hd.1
    rw [hbe] at hs1
    rw [hbq] at hs2
    simp only [List.length_map, List.length_range, reachBytes] at hs1 hs2
    have hgd : ∀ i, i < len → ((List.range len).map fun r => (Z r).take (L r)).getD i [] = (Z i).take (L i) := fun i hi => by simp [List.getD_eq_getElem?_getD, hi]
    refine ⟨(List.range len).map fun r => (Z r).take (L r), ⟨some x, cap, by simp, by simp; omega, fun h0 => ?_⟩, ?_⟩
    · simp only [List.length_map, List.length_range] at h0
      obtain ⟨b, off, spot⟩ := x
      have hspot : spot = none := by simpa [Addr.add] using World.cell?_spot (hrow 0 (by omega)).1
      subst hspot
      have hcell : ∀ j, j < cap → w.cell? ⟨b, off + j, none⟩ = some (.slice (A j) (L j) (C j)) := fun j hj => by rw [← add_plain]; exact (hrow j hj).1
      refine ⟨b, off, rfl, World.block_lt_of_cell? w ⟨b, off + 0, none⟩ (hcell 0 (by omega)), fun i hi => ?_⟩
      simp only [List.length_map, List.length_range] at hi
      rw [hgd i hi]
      refine ⟨_, hcell i (by omega), ?_⟩
      obtain ⟨_, r1, r2, r3, r4, r5, r6⟩ := hrow i (by omega)
      have hlen : ((Z i).take (L i)).length = L i := by simp; omega
      have hsm : L i ≤ 17592186044416 := by
        cases hA : A i with
        | none => have := r5 hA; omega
        | some a' =>
          have h7 := hs2 (Deep.intRow .i64 (A i) (L i) (Z i)) (by simp only [List.mem_map, List.mem_range]; exact ⟨i, hi, rfl⟩)
          rw [hA] at h7
          have h8 := h7 _ _ rfl
          simp only [lits, List.length_map, List.length_take, List.length_drop] at h8
          omega
      refine Sl.mk (A i) (C i) (by rw [hlen]) (by omega) fun h0 => ?_
      cases hA : A i with
      | none => have := r5 hA; omega
      | some a' =>
        obtain ⟨_, hc⟩ := r6 a' hA
        obtain ⟨b', off', rfl, hcc⟩ := ints_at (zs := Z i) (fun j hj => hc j (by omega)) (by omega)
        refine ⟨b', off', rfl, World.block_lt_of_cell? w ⟨b', off' + 0, none⟩ (hcc 0 (by omega)), fun j hj => ?_⟩
        rw [hcc j (by omega)]
        rw [hlen] at hj
        simp [List.getD_eq_getElem?_getD, hj]
    · intro l hl2 y hy
      simp only [List.mem_map, List.mem_range] at hl2
      obtain ⟨r, hr, rfl⟩ := hl2
      exact I64.of_wf ((hrow r (by omega)).2.2.2.2.1 y (List.mem_of_mem_take hy))
theorem weightsAll_mem {H : Type} {P : Program} {e : TypeId} {x : Nat} : ∀ {l : List (DataW H)} {d : DataW H}, d ∈ l → x ∈ d.weights P e → x ∈ DataW.weightsAll P e l
  | a :: l, d, hd, hx => by
    simp only [DataW.weightsAll, List.mem_append]
    rcases List.mem_cons.1 hd with rfl | hd
    · exact .inl hx
    · exact .inr (weightsAll_mem hd hx)
theorem sized_rows {H : Type} {P : Program} {ts : List TypeId} {ds : List (DataW H)} (h : (DataW.weightsEach P ts ds).all (· ≤ reachBytes) = true) {j : Nat} {t e q : TypeId} {elems spare : List (DataW H)} (ht : ts[j]? = some t) (hd : ds[j]? = some (.slice elems spare)) (hu : P.underlying t = some (.slice e)) (hq : P.underlying e = some (.slice q)) :
    (elems.length + spare.length) * P.bytesOf e ≤ reachBytes ∧ ∀ x ∈ elems, ∀ es sp, x = .slice es sp → (es.length + sp.length) * P.bytesOf q ≤ reachBytes := by
  refine ⟨sized_slice h ht hd hu, fun x hx es sp e => ?_⟩
  subst e
  have h1 : (es.length + sp.length) * P.bytesOf q ∈ DataW.weights P e (.slice es sp) := by simp [DataW.weights, hq]
  have h2 : (es.length + sp.length) * P.bytesOf q ∈ DataW.weights P t (.slice elems spare) := by
    simp only [DataW.weights, hu, List.mem_cons, List.mem_append]
    exact .inr (.inl (weightsAll_mem hx h1))
  have := List.all_eq_true.1 h _ (DataW.weights_mem_each ht hd _ h2)
  simpa using this

theorem lists_len (v u : Value) (l m : List (List Int)) (w : World) (hl : RL w v l) (hm : RL w u m) (hne : l.length ≠ m.length) :
    Calls Try.prog 37 #[v, u] w fun e w' => e = .returned (.bool false) ∧ w = w' := by
  obtain ⟨a, c, rfl, hl1, _⟩ := hl
  obtain ⟨a', c', rfl, hm1, _⟩ := hm
  have hb : ((l.length : Int) != (m.length : Int)) = true := bne_iff_ne.2 (fun e => hne (Int.ofNat.inj e))
  go_enter Try.func37, Try.ntmps37
  go_wp2
  go_ret
  exact ⟨rfl, rfl⟩

theorem takeL_step {l m : List (List Int)} {k : Nat} (hl : k < l.length) (hm : k < m.length) (ht : l.take k = m.take k) (he : l.getD k [] = m.getD k []) : l.take (k + 1) = m.take (k + 1) := by
  rw [List.take_add_one, List.take_add_one, ht]
  simp [List.getD_eq_getElem?_getD, hl, hm] at he
  simp [hl, hm, he]

theorem lists_same (v u : Value) (l m : List (List Int)) (w : World) (hl : RL w v l) (hm : RL w u m) (hne : m.length = l.length) :
    Calls Try.prog 37 #[v, u] w fun e w' => e = .returned (.bool (decide (l = m))) ∧ ∃ n, w' = w.drewN n := by
  obtain ⟨a, c, N, rfl, hN, hl1, hl2⟩ := hl.open
  obtain ⟨a', c', N', rfl, hN', hm1, hm2⟩ := hm.open
  have HNE := hid hne
  obtain rfl : N = N' := by rw [← hN'.out, ← hN.out]; exact hne.symm
  have HD : ∀ k : Nat, k < N → l.getD k [] ≠ m.getD k [] → l ≠ m := fun k _ h e => h (by rw [e])
  have HD' := hid HD
  have HI := hid (fun (v u : Value) (l m : List Int) (w : World) (hl : Sl w v l) (hm : Sl w u m) => ints_any v u l m w hl hm)
  clear hne HD hl hm
  go_enter Try.func37, Try.ntmps37
  go_wp2
  go_loopw [5, 6] (fun i _ wr => ∃ k : Nat, k ≤ N ∧ i = .int .i64 k ∧ (∃ n, wr = w.drewN n) ∧ Hid (l.take k = m.take k)) (fun i _ _ => N - (intOf i).toNat)
  case atStart => exact ⟨0, Nat.zero_le _, rfl, ⟨0, rfl⟩, hid rfl⟩
  case round =>
    obtain ⟨k, hk, rfl, ⟨n, hn⟩, ht⟩ := hrel
    by_cases hlt : k < N
    · obtain ⟨g, off, rfl, hg, hc⟩ := hl2 (by omega)
      obtain ⟨g', off', rfl, hg', hc'⟩ := hm2 (by omega)
      obtain ⟨u1, c1, s1⟩ := hc k hlt
      obtain ⟨u2, c2, s2⟩ := hc' k hlt
      have HS : Hid (Sl wr u1 (l.getD k []) ∧ Sl wr u2 (m.getD k [])) := hid (by rw [hn]; exact And.intro (s1.drewN _) (s2.drewN _))
      have c1' : wr.cell? ⟨g, off + k, none⟩ = some u1 := by rw [hn]; exact c1
      have c2' : wr.cell? ⟨g', off' + k, none⟩ = some u2 := by rw [hn]; exact c2
      have hg1' : g < wr.heap.size := by rw [hn]; exact hg
      have hg2' : g' < wr.heap.size := by rw [hn]; exact hg'
      have HW := hid hn
      clear hn c1 c2 hg hg'
      clear hc hc' hl2 hm2 s1 s2
      go_wp2
      go_quiet ((go_at_call 21; exact Calls.quiet_of (HI.out _ _ _ _ _ (HS.out.1.drewN _) (HS.out.2.drewN _))))
      by_cases he : l.getD k [] = m.getD k []
      · have HE := hid he
        have HB := hid (decide_eq_true he)
        clear he
        rw [HB.out]
        go_wp2
        go_roundw
        case rel => exact ⟨k + 1, by omega, by go_num, by rw [HW.out]; simp only [World.drewN_drewN]; exact ⟨_, rfl⟩, hid (takeL_step (by rw [hN.out]; exact hlt) (by rw [hN'.out]; exact hlt) ht.out HE.out)⟩
        case measure => simp [intOf] <;> omega
      · have HB := hid (decide_eq_false he)
        have hne := HD'.out k hlt he
        have HB2 := hid (decide_eq_false hne)
        clear he hne
        rw [HB.out]
        go_wp2
        go_ret
        refine ⟨by rw [HB2.out]; rfl, ?_⟩
        rw [HW.out]
        first | exact ⟨_, rfl⟩ | (simp only [World.drewN_drewN]; exact ⟨_, rfl⟩)
    · obtain rfl : k = N := by omega
      have HB : Hid (decide (l = m) = true) := hid (decide_eq_true (by
        have := ht.out
        rw [List.take_of_length_le (by rw [hN.out]; exact Nat.le_refl _), List.take_of_length_le (by rw [hN'.out]; exact Nat.le_refl _)] at this
        exact this))
      clear ht
      subst hn
      go_wp2
      go_ret
      refine ⟨by rw [HB.out]; rfl, ?_⟩
      first | exact ⟨_, rfl⟩ | (simp only [World.drewN_drewN]; exact ⟨_, rfl⟩)

theorem lists_any (v u : Value) (l m : List (List Int)) (w : World) (hl : RL w v l) (hm : RL w u m) :
    Calls Try.prog 37 #[v, u] w fun e w' => e = .returned (.bool (decide (l = m))) ∧ ∃ n, w' = w.drewN n := by
  by_cases h : m.length = l.length
  · exact lists_same v u l m w hl hm h
  · refine (lists_len v u l m w hl hm (fun e => h e.symm)).mono fun e w' ⟨he, hw⟩ => ?_
    subst hw
    refine ⟨?_, 0, rfl⟩
    rw [he, decide_eq_false]
    intro e
    exact h (by rw [e])
end Go.Proofs.Ytnbgnoimanpjnaa
