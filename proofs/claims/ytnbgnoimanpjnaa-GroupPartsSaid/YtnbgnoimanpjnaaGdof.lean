/-
  The walk over parterreref1.DerivedOf. Conditions: the list can be read, permutations of n points, n <= 7.
-/
import Derived.Test.YtnbgnoimanpjnaaGcof
import Derived.Test.YtnbgnoimanpjnaaGel
namespace Go.Proofs.Ytnbgnoimanpjnaa
set_option linter.unusedVariables false
open Go.RowKit

/-- The commutators found so far. -/
structure DF (n : Nat) (L l : List (Nat → Nat)) (i j : Nat) : Prop where
  nd : l.Nodup
  sub : ∀ x ∈ l, ∃ a b, a ∈ L ∧ b ∈ L ∧ x = comF n a b
  far : ∀ k, k < i → ∀ b ∈ L, comF n (L.getD k id) b ∈ l
  now : ∀ t, t < j → comF n (L.getD i id) (L.getD t id) ∈ l
section
variable {n : Nat} {L l : List (Nat → Nat)} {i j : Nat}
theorem DF.start (n : Nat) (L : List (Nat → Nat)) : DF n L [] 0 0 := ⟨by simp, by simp, fun k h => by omega, fun t h => by omega⟩
theorem DF.there (h : DF n L l i j) (hx : comF n (L.getD i id) (L.getD j id) ∈ l) : DF n L l i (j + 1) := by
  refine ⟨h.nd, h.sub, h.far, fun t ht => ?_⟩
  by_cases e : t = j
  · rw [e]; exact hx
  · exact h.now t (by omega)
theorem DF.add (h : DF n L l i j) (hi : i < L.length) (hj : j < L.length) (hx : ¬ comF n (L.getD i id) (L.getD j id) ∈ l) : DF n L (l ++ [comF n (L.getD i id) (L.getD j id)]) i (j + 1) := by
  refine ⟨?_, fun x hx => ?_, fun k hk b hb => List.mem_append_left _ (h.far k hk b hb), fun t ht => ?_⟩
  · rw [List.nodup_append]
    refine ⟨h.nd, by simp, fun a ha b hb e => ?_⟩
    rw [List.mem_singleton.1 hb] at e
    rw [e] at ha
    exact hx ha
  · rcases List.mem_append.1 hx with hx | hx
    · exact h.sub x hx
    · exact ⟨_, _, getD_mem hi id, getD_mem hj id, List.mem_singleton.1 hx⟩
  · by_cases e : t = j
    · rw [e]; simp
    · exact List.mem_append_left _ (h.now t (by omega))
theorem DF.next (h : DF n L l i L.length) : DF n L l (i + 1) 0 := by
  refine ⟨h.nd, h.sub, fun k hk b hb => ?_, fun t ht => by omega⟩
  by_cases e : k = i
  · obtain ⟨t, ht, rfl⟩ := List.mem_iff_getElem.1 hb
    have := h.now t ht
    rw [e]
    rwa [List.getD_eq_getElem?_getD (l := L) (i := t), List.getElem?_eq_getElem ht] at this
  · exact h.far k (by omega) b hb
theorem DF.mv (h : DF n L l i j) (hL : ∀ x ∈ L, Mv n x) : ∀ x ∈ l, Mv n x := fun x hx => by
  obtain ⟨a, b, ha, hb, rfl⟩ := h.sub x hx
  exact com_mv (hL a ha) (hL b hb)
theorem DF.len (h : DF n L l i j) (hL : ∀ x ∈ L, Mv n x) : l.length ≤ fac n := mv_many h.nd (h.mv hL)
theorem DF.done {ms : List (Nat → Nat)} (h : DF n (GL n ms) l (GL n ms).length 0) (hm : ∀ m ∈ ms, Mv n m) : GL n l = GL n (cmL n ms) := by
  have hL : ∀ x ∈ GL n ms, Mv n x := fun x hx => ((mem_GL hm x).1 hx).mv hm
  refine GL_same (h.mv hL) (cmL_mv hm) (gen_congr fun z => ?_)
  rw [mem_cmL hm]
  constructor
  · intro hz
    obtain ⟨a, b, ha, hb, rfl⟩ := h.sub z hz
    exact ⟨a, b, (mem_GL hm a).1 ha, (mem_GL hm b).1 hb, rfl⟩
  · rintro ⟨a, b, ha, hb, rfl⟩
    obtain ⟨t, ht, rfl⟩ := List.mem_iff_getElem.1 ((mem_GL hm a).2 ha)
    have := h.far t ht b ((mem_GL hm b).2 hb)
    rwa [List.getD_eq_getElem?_getD, List.getElem?_eq_getElem ht] at this
end
/-- How many are true. -/
def trueN (bs : List Bool) (k : Nat) : Nat := ((bs.take k).filter id).length
theorem trueN_succ {bs : List Bool} {k : Nat} (h : k < bs.length) : trueN bs (k + 1) = trueN bs k + if bs.getD k false then 1 else 0 := by
  unfold trueN
  rw [List.take_add_one, List.filter_append, List.length_append, List.getElem?_eq_getElem h, List.getD_eq_getElem?_getD, List.getElem?_eq_getElem h]
  simp only [Option.toList, Option.getD_some, List.filter_cons, List.filter_nil, id]
  split <;> rfl
theorem trueN_zero (bs : List Bool) : trueN bs 0 = 0 := by simp [trueN]
theorem trueN_le (bs : List Bool) (k : Nat) : trueN bs k ≤ k := Nat.le_trans (List.length_filter_le _ _) (by rw [List.length_take]; omega)
open Classical in
theorem trueN_memB (n : Nat) (l : List (Nat → Nat)) : trueN (memB n l) (fac n) = (GL n l).length := by
  unfold trueN
  rw [List.take_of_length_le (by rw [memB_len]; exact Nat.le_refl _)]
  unfold memB GL
  rw [List.length_map, List.filter_map, List.length_map]
  rfl
theorem undo_el (n : Nat) (v : Value) (x : Nat → Nat) (w : World) (hn : n ≤ 7) (hv : Sl w v (elL n x)) (P : Mv n x) :
    Calls Try.prog 26 #[v] w fun e w' => (∃ a c, e = .returned (.slice a n c) ∧ OI w.heap.size w' (.slice a n c) (elL n (bkF n x))) ∧ Below w.heap.size w w' := by
  have h := undo_ok v (elL n x) n x w hv (elL_pm (by omega) P)
  rw [und_elL P (bk_mv P) (bk_comp P)] at h
  refine h.mono ?_
  rintro e w' ⟨⟨r, rfl, hr⟩, hb⟩
  obtain ⟨a, c, e⟩ := hr.len
  rw [elL_len] at e
  subst e
  exact ⟨⟨a, c, rfl, hr⟩, hb⟩

set_option maxHeartbeats 4000000 in
set_option maxRecDepth 100000 in
theorem derivedof_ok (n : Nat) (v : Value) (L : List (Nat → Nat)) (D : Nat) (w : World) (hn1 : 1 ≤ n) (hn : n ≤ 7) (hv : RL w v (L.map (elL n))) (hL : ∀ x ∈ L, Mv n x) (hlen : L.length ≤ 1000000)
    (hD : ∀ l, DF n L l L.length 0 → (GL n l).length = D) :
    Calls Try.prog 30 #[.int .i64 n, v] w fun e w' => e = .returned (.int .i64 (D : Nat)) ∧ Below w.heap.size w w' := by
  have HU := hid (fun w1 (hb : Below w.heap.size w w1) i (hi : i < L.length) => (hv.below hb).mvAt hi)
  have HFA := hid (fun (w1 : World) => factorial_ok n w1 (by omega))
  have HTH := hid (fun (v u : Value) (x y : Nat → Nat) (w : World) hv hu P Q => then_el n v u x y w hn hv hu P Q)
  have HUN := hid (fun (v : Value) (x : Nat → Nat) (w : World) hv P => undo_el n v x w hn hv P)
  have HRK := hid (fun (v : Value) (x : Nat → Nat) (w : World) (hv : Sl w v (elL n x)) (P : Mv n x) => permrank_ok v (elL n x) n x w hv (elL_pm (by omega) P))
  have HPL := hid (fun j (hj : j < L.length) => hL _ (getD_mem hj id))
  have HELL := hid (elL_len n)
  have HDF := hid (DF.start n L)
  have HDL := hid (fun l i j (h : DF n L l i j) => h.len hL)
  have HDM := hid (fun l i j (h : DF n L l i j) => h.mv hL)
  have HMB := hid (fun (v : Value) (l : List (Nat → Nat)) (w : World) (hv : RL w v (l.map (elL n))) (hl : ∀ x ∈ l, Mv n x) (hlen : l.length ≤ 1000000) => members_ok n v (l.map (elL n)) w hv hn1 hn (by
    intro y hy
    obtain ⟨x, hx, rfl⟩ := List.mem_map.1 hy
    exact pml_el (by omega) (hl x hx)) (by rw [List.length_map]; exact hlen))
  have HMS := hid (fun (l : List (Nat → Nat)) (hl : ∀ x ∈ l, Mv n x) => msL_el hl)
  have HMN0 : Hid (memN n [] = List.replicate (fac n) false) := hid (by
    refine List.ext_getElem (by simp [memN]) fun i h1 h2 => by simp [memN])
  have hfb := fac7 n hn
  have hf1 := fac_bd n (by omega)
  have HTR := hid (fun l => trueN_memB n l)
  have HMBL := hid (fun l => memB_len n l)
  have HDD := hid hD
  obtain ⟨F, hF⟩ : ∃ F, fac n = F := ⟨_, rfl⟩
  have HF := hid hF
  have HMNL : Hid (∀ l, (memN n l).length = F) := hid (fun l => by rw [memN_len, hF])
  rw [hF] at HMN0 hfb hf1 HTR HMBL HDL
  obtain ⟨va, vc, rfl, hv1, _⟩ := hv
  rw [List.length_map] at hv1 ⊢
  clear hL hF hD
  obtain ⟨M, hM⟩ : ∃ M, L.length = M := ⟨_, rfl⟩
  have HM := hid hM
  rw [hM] at HU HPL hlen hv1 HDD ⊢
  clear hM
  go_enter Try.func30, Try.ntmps30
  go_wp2_with fail
  refine (HFA.out _).mono ?_
  rintro e w1 ⟨rfl, rfl⟩
  rw [HF.out]
  go_wp2_with (at_make; refine wpList_mk (w := w) _ _ 32 4 (.bool false) 1 rfl rfl Try.underlying32 Try.info4 rfl (by decide) w.heap.size _ F rfl rfl rfl (by omega) (Nat.le_refl _) ?_; intro w6 hs6 hgr6 hz6)
  have hb6 : Below w.heap.size w w6 := (Below.refl _ _).grown hgr6 (Nat.le_refl _) (fun k h => by cases h)
  have hs6' : Ow 4 w.heap.size w6 (.slice (some ⟨w.heap.size, 0, none⟩) F F) ((memN n []).map Value.bool) := by rw [HMN0.out, List.map_replicate]; exact hs6
  have H6 := hid (And.intro hs6' (And.intro hb6 hz6))
  clear hs6 hgr6 hb6 hs6' hz6
  go_loopw [7, 8, 9, 10, 11, 12, 13, 14, 15] (fun v7 v8 _ _ _ _ _ _ _ wr => ∃ (l : List (Nat → Nat)) (i : Nat), v8 = .int .i64 i ∧ i ≤ M ∧ Hid (DF n L l i 0) ∧ OL (w.heap.size + 1) wr.heap.size wr v7 (l.map (elL n)) ∧ Ow 4 w.heap.size wr (.slice (some ⟨w.heap.size, 0, none⟩) F F) ((memN n l).map Value.bool) ∧ Below w.heap.size w wr ∧ w.heap.size < wr.heap.size) (fun _ v8 _ _ _ _ _ _ _ _ => M - (intOf v8).toNat)
  case atStart => exact ⟨[], 0, rfl, Nat.zero_le _, HDF.out, OL.nil _ _ _, H6.out.1, H6.out.2.1, H6.out.2.2⟩
  case round =>
    clear H6 HDF
    obtain ⟨l, i, rfl, hi, HC, ho, hin, hb, hsz⟩ := hrel
    by_cases hlt : i < M
    · have hii : (i : Int) < (M : Int) := by omega
      obtain ⟨x, hx⟩ : ∃ x, L.getD i id = x := ⟨_, rfl⟩
      have hPx := HPL.out i hlt
      obtain ⟨g2, o2, c2, a2, d2, e2, hg2, hc2, hs2⟩ := HU.out wr hb i hlt
      simp only [Value.slice.injEq] at e2
      obtain ⟨rfl, rfl⟩ : va = some ⟨g2, o2, none⟩ ∧ vc = c2 := ⟨e2.1, e2.2.2⟩
      rw [hx] at hPx hs2
      have HXE := hid hx
      have HI := hid (And.intro ho (And.intro hin (And.intro hb (And.intro hsz hs2))))
      clear ho hin hb hsz hs2 hx e2
      go_wp2_with fail
      refine (HUN.out _ x _ HI.out.2.2.2.2 hPx).mono ?_
      rintro e w2 ⟨⟨a3, d3, rfl, hr3⟩, hb2⟩
      have H2 := hid (And.intro (HI.out.1.below hb2) (And.intro (HI.out.2.1.below hb2) (And.intro (HI.out.2.2.1.trans (hb2.mono HI.out.2.2.1.size)) (And.intro hb2.size (And.intro (hr3.mono (B' := w.heap.size + 1) HI.out.2.2.2.1) (Nat.lt_of_lt_of_le HI.out.2.2.2.1 hb2.size))))))
      clear hb2 hr3 hc2
      go_wp2_with fail
      go_loopw [7, 10, 11, 12, 13, 14, 15] (fun v7 v10 _ _ _ _ _ wr => ∃ (l : List (Nat → Nat)) (j : Nat), v10 = .int .i64 j ∧ j ≤ M ∧ Hid (DF n L l i j) ∧ OL (w.heap.size + 1) wr.heap.size wr v7 (l.map (elL n)) ∧ Ow 4 w.heap.size wr (.slice (some ⟨w.heap.size, 0, none⟩) F F) ((memN n l).map Value.bool) ∧ Below w.heap.size w wr ∧ w.heap.size < wr.heap.size ∧ OI (w.heap.size + 1) wr (.slice a3 n d3) (elL n (bkF n x))) (fun _ v10 _ _ _ _ _ _ => M - (intOf v10).toNat)
      case atStart => exact ⟨l, 0, rfl, Nat.zero_le _, HC.out, H2.out.1.mono (Nat.le_refl _) H2.out.2.2.2.1, H2.out.2.1, H2.out.2.2.1, H2.out.2.2.2.2.2, H2.out.2.2.2.2.1⟩
      case round =>
        clear H2 HI HC
        obtain ⟨l, j, rfl, hj, HC, ho, hin, hb, hsz, hu⟩ := hrel
        by_cases hjl : j < M
        · have hji : (j : Int) < (M : Int) := by omega
          obtain ⟨y, hy⟩ : ∃ y, L.getD j id = y := ⟨_, rfl⟩
          have hPy := HPL.out j hjl
          obtain ⟨g1, o1, c1, a1, d1, e1, hg1, hc1, hs1⟩ := HU.out wr hb j hjl
          obtain ⟨g1', o1', c1', a2', d2', e2, hg2', hc2, hs2⟩ := HU.out wr hb i hlt
          simp only [Value.slice.injEq, Option.some.injEq, Addr.mk.injEq] at e1 e2
          obtain ⟨rfl, rfl⟩ : g2 = g1 ∧ o2 = o1 := ⟨e1.1.1, e1.1.2.1⟩
          obtain ⟨rfl, rfl⟩ : g2 = g1' ∧ o2 = o1' := ⟨e2.1.1, e2.1.2.1⟩
          rw [hy] at hPy hs1
          rw [HXE.out] at hs2
          have HYE := hid hy
          obtain ⟨la, lc, el⟩ := ho.len
          rw [List.length_map] at el
          subst el
          have hll := HDL.out _ _ _ HC.out
          have HI := hid (And.intro ho (And.intro hin (And.intro hb (And.intro hsz (And.intro hu (And.intro hs1 hs2))))))
          have hPc : Mv n (comF n x y) := com_mv hPx hPy
          have hlm := HDM.out _ _ _ HC.out
          clear ho hin hb hsz hu hs1 hs2 hy e1 e2
          go_wp2_with fail
          refine (HUN.out _ y _ HI.out.2.2.2.2.2.1 hPy).mono ?_
          rintro e w2 ⟨⟨a4, d4, rfl, hr4⟩, hb2⟩
          have hc1 := (hb2.cell (p := ⟨g2, o2 + j, none⟩) hg1).trans hc1
          have hc2 := (hb2.cell (p := ⟨g2, o2 + i, none⟩) hg1).trans hc2
          have H2 := hid (And.intro hb2 (hr4.sl (by rw [HELL.out]; omega)))
          clear hb2 hr4
          go_wp2_with fail
          refine (HTH.out _ _ _ _ _ ((HI.out.2.2.2.2.1.below H2.out.1).sl (by rw [HELL.out]; omega)) H2.out.2 (bk_mv hPx) (bk_mv hPy)).mono ?_
          rintro e w3 ⟨⟨a5, d5, rfl, hr5⟩, hb3⟩
          have hg1w : g2 < w2.heap.size := Nat.lt_of_lt_of_le hg1 H2.out.1.size
          have hc1 := (hb3.cell (p := ⟨g2, o2 + j, none⟩) hg1w).trans hc1
          have hc2 := (hb3.cell (p := ⟨g2, o2 + i, none⟩) hg1w).trans hc2
          have H3 := hid (And.intro (H2.out.1.trans (hb3.mono H2.out.1.size)) (hr5.sl (by rw [HELL.out]; omega)))
          clear hb3 hr5
          go_wp2_with fail
          go_still_tail 8, (by kernel_rfl)
          go_wp2_with fail
          refine (HTH.out _ _ x y _ ((HI.out.2.2.2.2.2.2.below H3.out.1).drew) ((HI.out.2.2.2.2.2.1.below H3.out.1).drew) hPx hPy).mono ?_
          rintro e w4 ⟨⟨a6, d6, rfl, hr6⟩, hb4⟩
          have hb4 : Below w3.heap.size w3 w4 := ((Below.refl _ _).drew).trans hb4
          have H4 := hid (And.intro (H3.out.1.trans (hb4.mono H3.out.1.size)) (And.intro (H3.out.2.below hb4) (hr6.sl (by rw [HELL.out]; omega))))
          clear hb4 hr6 hc1 hc2
          go_wp2_with fail
          refine (HTH.out _ _ _ _ _ H4.out.2.1 H4.out.2.2 (comp_mv (bk_mv hPx) (bk_mv hPy)) (comp_mv hPx hPy)).mono ?_
          rintro e w5 ⟨⟨a7, d7, rfl, hr7⟩, hb5⟩
          have hB5 := H4.out.1.trans (hb5.mono H4.out.1.size)
          have hr7 : OI wr.heap.size w5 (.slice a7 n d7) (elL n (comF n x y)) := hr7.mono H4.out.1.size
          obtain ⟨z, hz⟩ : ∃ z, comF n x y = z := ⟨_, rfl⟩
          rw [hz] at hr7 hPc
          have HZ : Hid (comF n (L.getD i id) (L.getD j id) = z) := hid (by rw [HXE.out, HYE.out, hz])
          have HRK2 := hid (HRK.out _ z w5 (hr7.sl (by rw [HELL.out]; omega)) hPc)
          rw [show rankS z n n = rkF n z from rfl] at HRK2
          obtain ⟨bz, hbz, hbm⟩ := memN_get hPc hlm
          have hrkF : rkF n z < F := by rw [← HF.out]; exact rk_lt hPc.pm
          have hin2 := HI.out.2.1.below hB5
          have hcell : w5.cell? ⟨w.heap.size, rkF n z, none⟩ = some (.bool bz) := by
            rw [hin2.cell _ (by rw [List.length_map, HMNL.out]; exact hrkF), List.getElem?_map, hbz]; rfl
          have hfz := hin2.frozen (rkF n z)
          have hri : ((rkF n z : Nat) : Int) < ((F : Nat) : Int) := by omega
          have hsz5 := hB5.size
          have hszb := HI.out.2.2.2.1
          have H5 := hid (And.intro (HI.out.1.below hB5) (And.intro hin2 (And.intro (HI.out.2.2.1.trans (hB5.mono HI.out.2.2.1.size)) (And.intro (HI.out.2.2.2.2.1.below hB5) hr7))))
          have HMA := hid (memN_add (l := l) hPc)
          clear hb5 hB5 hr7 hz hin2 hbz H2 H3 H4 hlm
          generalize rkF n z = kz at *
          by_cases hzin : z ∈ l
          · obtain rfl : bz = true := hbm.2 hzin
            have HN := hid (HC.out.there (by rw [HZ.out]; exact hzin))
            clear hbm hzin
            go_wp2_with fail
            refine HRK2.out.mono ?_
            rintro e w6 ⟨rfl, rfl⟩
            go_wp2
            go_roundw
            case rel => exact ⟨l, j + 1, by go_num, by omega, HN.out, H5.out.1.mono (Nat.le_refl _) hsz5, H5.out.2.1, H5.out.2.2.1, Nat.lt_of_lt_of_le hszb hsz5, H5.out.2.2.2.1⟩
            case measure => simp [intOf] <;> omega
          · obtain rfl : bz = false := by
              cases bz with
              | false => rfl
              | true => exact absurd (hbm.1 rfl) hzin
            have HN := hid (HC.out.add (by rw [HM.out]; exact hlt) (by rw [HM.out]; exact hjl) (by rw [HZ.out]; exact hzin))
            rw [HZ.out] at HN
            obtain ⟨hs7, hg7⟩ := H5.out.2.1.stored kz (.bool true)
            have hol7 := H5.out.1.kept hg7 (fun k e => .inl (by cases e; omega))
            have hr7 := H5.out.2.2.2.2.kept hg7 (.inr (fun e => by have := (H5.out.2.2.2.2.lt w.heap.size e).1; omega))
            have hb7 := H5.out.2.2.1.grown hg7 H5.out.2.2.1.size (fun b e => by cases e; exact Nat.le_refl _)
            have hu7 := H5.out.2.2.2.1.kept hg7 (.inr (fun e => by have := (H5.out.2.2.2.1.lt w.heap.size e).1; omega))
            have hsz7 : w.heap.size + 1 ≤ (w5.setCell ⟨w.heap.size, kz, none⟩ (.bool true)).heap.size := by have := hg7.size; omega
            have hsz8 : wr.heap.size ≤ (w5.setCell ⟨w.heap.size, kz, none⟩ (.bool true)).heap.size := by have := hg7.size; omega
            have hs7' : Ow 4 w.heap.size (w5.setCell ⟨w.heap.size, kz, none⟩ (.bool true)) (.slice (some ⟨w.heap.size, 0, none⟩) F F) ((memN n (l ++ [z])).map Value.bool) := by
              rw [HMA.out, List.map_set]; exact hs7
            have H7 := hid (And.intro hs7' (And.intro hb7 (And.intro hr7 hu7)))
            obtain ⟨vs, o1, o2, o3, o4⟩ := hol7
            have hvs : vs.length ≤ 1000000000000 := by rw [o3, List.length_map]; omega
            have HO2 := hid o2
            have HO3 := hid o3
            have HO4 := hid o4
            clear hbm hzin hs7 hg7 hr7 hb7 hs7' hu7 o2 o3 o4
            go_wp2_with fail
            refine HRK2.out.mono ?_
            rintro e w6 ⟨rfl, rfl⟩
            go_wp2_with (at_builtin; refine wpList_app (w6.setCell ⟨w.heap.size, kz, none⟩ (.bool true)) _ _ 22 23 (.slice none 0 0) 24 rfl rfl Try.underlying22 Try.info23 rfl (by decide) (w.heap.size + 1) (.slice la l.length lc) vs rfl o1 rfl rfl hvs hsz7 ?_; intro g9 c9 w9 hown1 hg1 hg2 hg3)
            go_roundw
            case rel =>
              have hol2 := OL.snoc o1 HO2.out HO3.out HO4.out H7.out.2.2.1 (by omega) hown1 hg1
              refine ⟨l ++ [z], j + 1, by go_num, by omega, HN.out, by rw [List.map_append]; exact hol2, H7.out.1.kept hg1 (.inr ?_), H7.out.2.1.grown hg1 H7.out.2.1.size (fun b e => by have := (o1.lt b e).1; omega), Nat.lt_of_lt_of_le hszb (Nat.le_trans hsz8 hg1.size), H7.out.2.2.2.kept hg1 (ow_apart o1 H7.out.2.2.2)⟩
              intro e
              have := (o1.lt w.heap.size e.symm).1
              omega
            case measure => simp [intOf] <;> omega
        · obtain rfl : j = M := by omega
          have hji : ¬ (j : Int) < (j : Int) := by omega
          have HN := hid ((show DF n L l i L.length by rw [HM.out]; exact HC.out).next)
          have HI := hid (And.intro ho (And.intro hin (And.intro hb hsz)))
          clear ho hin hb hsz hu
          go_wp2
          go_roundw
          case rel => exact ⟨l, i + 1, by go_num, by omega, HN.out, HI.out.1, HI.out.2.1, HI.out.2.2.1, HI.out.2.2.2⟩
          case measure => simp [intOf] <;> omega
    · obtain rfl : i = M := by omega
      have hii : ¬ (i : Int) < (i : Int) := by omega
      have hlm := HDM.out _ _ _ HC.out
      have hll := HDL.out _ _ _ HC.out
      have HEND := hid (HDD.out l HC.out)
      have HMB2 := hid (HMB.out u7 l wr (ho.rl (by rw [List.length_map]; omega) (fun i hi => by
        rw [List.length_map] at hi
        have : (l.map (elL n)).getD i [] = elL n (l.getD i id) := by simp [hi]
        rw [this, HELL.out]
        omega)) hlm (by omega))
      rw [HMS.out l hlm] at HMB2
      have HB := hid hb
      have hTR := HTR.out l
      have hTL := HMBL.out l
      obtain ⟨la, lc, el⟩ := ho.len
      rw [List.length_map] at el
      subst el
      clear ho hin hb hsz hlm hll HC
      go_wp2_with fail
      refine HMB2.out.mono ?_
      rintro e w2 ⟨⟨r, rfl, hr⟩, hb2⟩
      obtain ⟨rg, rc, er, _, hrg⟩ := hr.form (by rw [List.length_map, hTL]; omega)
      rw [List.length_map, hTL] at er
      subst er
      have H2 := hid (And.intro hr (HB.out.trans (hb2.mono HB.out.size)))
      have HTS := hid (fun k (h : k < F) => trueN_succ (bs := memB n l) (k := k) (by rw [hTL]; exact h))
      have HTLE := hid (trueN_le (memB n l))
      have HT0 := hid (trueN_zero (memB n l))
      have HTF : Hid (trueN (memB n l) F = D) := hid (by rw [hTR, HEND.out])
      have HCELL : Hid (∀ k, k < F → w2.cell? ⟨rg, k, none⟩ = some (.bool ((memB n l).getD k false))) := hid (fun k hk => by
        rw [hr.cell k (by rw [List.length_map, hTL]; exact hk)]
        simp [show k < (memB n l).length by rw [hTL]; exact hk])
      clear hb2 hr hTR hTL HB HMB2
      generalize trueN (memB n l) = TN at *
      generalize (memB n l).getD = GD at *
      go_wp2_with fail
      go_loopw [17, 18] (fun v17 v18 wr => ∃ k : Nat, v18 = .int .i64 k ∧ k ≤ F ∧ v17 = .int .i64 (TN k : Nat) ∧ wr = w2) (fun _ v18 _ => F - (intOf v18).toNat)
      case atStart => exact ⟨0, rfl, Nat.zero_le _, by rw [HT0.out]; rfl, rfl⟩
      case round =>
        obtain ⟨k, rfl, hk, rfl, rfl⟩ := hrel
        by_cases hkF : k < F
        · have hki : (k : Int) < (F : Int) := by omega
          have hcell := HCELL.out k hkF
          have hts := HTS.out k hkF
          have htl := HTLE.out k
          cases hg : GD k false with
          | true =>
            rw [hg] at hcell
            have HTk : Hid (TN (k + 1) = TN k + 1) := hid (by rw [hts, hg, if_pos rfl])
            clear hg hts
            go_wp2
            go_roundw
            case rel => exact ⟨k + 1, by go_num, by omega, by rw [HTk.out]; go_num, trivial⟩
            case measure => simp [intOf] <;> omega
          | false =>
            rw [hg] at hcell
            have HTk : Hid (TN (k + 1) = TN k) := hid (by rw [hts, hg, if_neg (by decide), Nat.add_zero])
            clear hg hts
            go_wp2
            go_roundw
            case rel => exact ⟨k + 1, by go_num, by omega, by rw [HTk.out], trivial⟩
            case measure => simp [intOf] <;> omega
        · obtain rfl : k = F := by omega
          have hki : ¬ (k : Int) < (k : Int) := by omega
          rw [HTF.out]
          go_wp2
          go_ret
          exact ⟨rfl, H2.out.2⟩
end Go.Proofs.Ytnbgnoimanpjnaa
