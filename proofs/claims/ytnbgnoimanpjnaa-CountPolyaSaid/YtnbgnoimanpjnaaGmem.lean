/-
  The walk over parterreref1.Members. Conditions: the slices can be read, permutations of n points, n <= 7.
-/
import Derived.Test.YtnbgnoimanpjnaaGopen
import Derived.Test.YtnbgnoimanpjnaaGidx
import Derived.Test.YtnbgnoimanpjnaaGPofr
namespace Go.Proofs.Ytnbgnoimanpjnaa
set_option linter.unusedVariables false
open Go.RowKit

/-- A move's numbers below n. -/
def elL (n : Nat) (x : Nat → Nat) : List Int := (List.range n).map fun i => ((x i : Nat) : Int)
theorem elL_len (n : Nat) (x : Nat → Nat) : (elL n x).length = n := by simp [elL]
theorem elL_get {n : Nat} {x : Nat → Nat} {i : Nat} (h : i < n) : (elL n x)[i]?.getD 0 = ((x i : Nat) : Int) := by simp [elL, h]
theorem elL_id (n : Nat) : elL n id = stillL n := rfl
theorem elL_pm {n : Nat} {x : Nat → Nat} (hn : n ≤ 12) (P : Mv n x) : PmL (elL n x) n x := ⟨elL_len n x, hn, P.pm, fun c hc => elL_get hc⟩
theorem elL_then {n : Nat} {x : Nat → Nat} {l : List Int} (P : Mv n x) (Q : PmL l n (fL l)) : thenL (elL n x) l = elL n (compF x (mvF n (fL l))) := by
  unfold thenL elL
  rw [List.map_map]
  refine List.map_congr_left fun i hi => ?_
  have hi' := P.pm.lt i (List.mem_range.1 hi)
  simp only [Function.comp, Int.toNat_natCast]
  rw [Q.at' _ hi']
  simp [compF, mvF, hi']
/-- Which ranks were found. -/
def memN (n : Nat) (l : List (Nat → Nat)) : List Bool := (List.range (fac n)).map fun k => l.any fun x => rkF n x == k
theorem memN_len (n : Nat) (l : List (Nat → Nat)) : (memN n l).length = fac n := by simp [memN]
theorem memN_get {n : Nat} {l : List (Nat → Nat)} {x : Nat → Nat} (P : Mv n x) (hl : ∀ y ∈ l, Mv n y) : ∃ b, (memN n l)[rkF n x]? = some b ∧ (b = true ↔ x ∈ l) := by
  refine ⟨_, by simp [memN, rk_lt P.pm]; rfl, ?_⟩
  rw [List.any_eq_true]
  constructor
  · rintro ⟨y, hy, h⟩
    rw [rk_inj (hl y hy) P (by simpa using h)] at hy
    exact hy
  · intro h
    exact ⟨x, h, by simp⟩
theorem memN_add {n : Nat} {l : List (Nat → Nat)} {x : Nat → Nat} (P : Mv n x) : memN n (l ++ [x]) = (memN n l).set (rkF n x) true := by
  refine List.ext_getElem? fun k => ?_
  by_cases hk : k < fac n
  · by_cases e : rkF n x = k
    · subst e
      rw [List.getElem?_set_self (by rw [memN_len]; exact hk)]
      simp [memN, hk]
    · rw [List.getElem?_set_ne e]
      simp [memN, hk, e]
  · rw [List.getElem?_eq_none (by rw [memN_len]; omega), List.getElem?_eq_none (by rw [List.length_set, memN_len]; omega)]
theorem rk_id (n : Nat) : rkF n id = 0 := by
  have : ∀ i, i ≤ n → rankS id n i = 0 := by
    intro i
    induction i with
    | zero => intro _; rfl
    | succ i ih =>
      intro hi
      simp only [rankS]
      rw [ih (by omega)]
      have h0 : lessA id n i = 0 := by
        unfold lessA
        refine (sumN_congr n (h := fun _ => 0) fun x _ => ?_).trans (sumN_zero n)
        rw [if_neg]
        rintro ⟨h1, h2⟩
        have : aheadB id i x = true := ahead_iff.2 ⟨x, h1, rfl⟩
        rw [h2] at this
        cases this
      rw [h0, Nat.zero_mul]
  exact this n (Nat.le_refl _)
theorem memN_one (n : Nat) : memN n [id] = (List.replicate (fac n) false).set 0 true := by
  rw [show [(id : Nat → Nat)] = [] ++ [id] from rfl, memN_add (id_mv n), rk_id]
  congr 1
  refine List.ext_getElem (by simp [memN]) fun i h1 h2 => by simp [memN]
open Classical in
/-- Which ranks are in the group. -/
noncomputable def memB (n : Nat) (ms : List (Nat → Nat)) : List Bool := (List.range (fac n)).map fun k => decide (GenF ms (unF n k))
theorem memB_len (n : Nat) (ms : List (Nat → Nat)) : (memB n ms).length = fac n := by simp [memB]
open Classical in
theorem memN_end {n : Nat} {ms l : List (Nat → Nat)} (hm : ∀ m ∈ ms, Mv n m) (h : ∀ x, x ∈ l ↔ GenF ms x) : memN n l = memB n ms := by
  unfold memN memB
  refine List.map_congr_left fun k hk => ?_
  have hk := List.mem_range.1 hk
  rw [Bool.eq_iff_iff, List.any_eq_true, decide_eq_true_eq]
  constructor
  · rintro ⟨x, hx, e⟩
    have e : rkF n x = k := by simpa using e
    subst e
    have hx := (h x).1 hx
    rw [un_rk (hx.mv hm)]
    exact hx
  · intro hg
    exact ⟨_, (h _).2 hg, by simp [rk_un hk]⟩
theorem OL.lit1 {B0 : Nat} {w : World} {u : Value} {l : List Int} (h : OI B0 w u l) (B : Nat) (hB : B ≤ B0) (hw : B ≤ w.heap.size) : OL B (w.heap.size + 1) (w.alloc (.cells #[u] 23)) (.slice (some ⟨w.heap.size, 0, none⟩) 1 1) [l] := by
  refine ⟨[u], Ow.lit 23 B w #[u] 1 hw rfl (by decide), fun k hk => ?_, rfl, fun i hi => ?_⟩
  · simp [Value.ownBlock] at hk; omega
  · obtain rfl : i = 0 := by simpa using hi
    exact ⟨(h.alloc _).mono hB, fun k hk => by have := (h.lt k hk).2; omega⟩

set_option maxHeartbeats 1000000 in
set_option maxRecDepth 10000 in
theorem members_ok (n : Nat) (v : Value) (ll : List (List Int)) (w : World) (hl : RL w v ll) (hn1 : 1 ≤ n) (hn : n ≤ 7) (hp : ∀ l ∈ ll, PmL l n (fL l)) (hlen : ll.length ≤ 1000000) :
    Calls Try.prog 19 #[.int .i64 n, v] w fun e w' => (∃ r, e = .returned r ∧ Ow 4 w.heap.size w' r ((memB n (msL n ll)).map Value.bool)) ∧ Below w.heap.size w w' := by
  have hmv : ∀ m ∈ msL n ll, Mv n m := by
    intro m hm
    obtain ⟨l, hl, rfl⟩ := List.mem_map.1 hm
    exact mvF_mv (hp l hl).pm
  have HMV := hid hmv
  have HBI := hid (BI.start hmv)
  have HFA := hid (fun (w1 : World) => factorial_ok n w1 (by omega))
  have HST := hid (fun (w1 : World) => still_ok n w1 (by omega))
  have HTH := hid (fun (v u : Value) (l m : List Int) (w : World) hl hm hr h12 => then_ok v u l m w hl hm hr h12)
  have HRK := hid (fun (v : Value) (x : Nat → Nat) (w : World) (hv : Sl w v (elL n x)) (P : Mv n x) => permrank_ok v (elL n x) n x w hv (elL_pm (by omega) P))
  obtain ⟨a, c, N, rfl, hN, hc1, hc2⟩ := hl.open
  have HC2 := hid hc2
  have HPJ : Hid (∀ j, j < N → PmL (ll.getD j []) n (fL (ll.getD j [])) ∧ (msL n ll).getD j id = mvF n (fL (ll.getD j []))) := hid (fun j hj => by
    have h' : j < ll.length := by rw [hN.out]; exact hj
    refine ⟨hp _ (getD_mem h' []), ?_⟩
    unfold msL
    simp [h'])
  have HML : Hid ((msL n ll).length = N) := hid (by rw [msL_len, hN.out])
  have hfb := fac_bd n (by omega)
  have hf1 : (0 : Int) < ((fac n : Nat) : Int) := by omega
  have HM1 := hid (memN_one n)
  have HMEND := hid (fun l h => memN_end (n := n) (ms := msL n ll) (l := l) hmv h)
  obtain ⟨F, hF⟩ : ∃ F, fac n = F := ⟨_, rfl⟩
  have HF := hid hF
  have HMNL : Hid (∀ l, (memN n l).length = F) := hid (fun l => by rw [memN_len, hF])
  rw [hF] at HM1 hfb hf1
  clear hl hc2 hp hmv hF
  generalize memB n (msL n ll) = MB at *
  have HCLF : Hid (∀ w6, Ow 4 w.heap.size w6 (.slice (some ⟨w.heap.size, 0, none⟩) F F) (List.replicate F (.bool false)) → w6.cell? ⟨w.heap.size, 0, none⟩ = some (.bool false)) := hid (fun w6 hs6 => by
    rw [hs6.cell 0 (by simp; omega)]
    rw [List.getElem?_replicate, if_pos (by omega)])
  go_enter Try.func19, Try.ntmps19
  go_wp2_with fail
  refine (HFA.out _).mono ?_
  rintro e w1 ⟨rfl, rfl⟩
  rw [HF.out]
  go_wp2_with (at_make; refine wpList_mk (w := w) _ _ 32 4 (.bool false) 1 rfl rfl Try.underlying32 Try.info4 rfl (by decide) w.heap.size _ F rfl rfl rfl (by omega) (Nat.le_refl _) ?_; intro w6 hs6 hgr6 hz6; have hcl : w6.cell? ⟨w.heap.size, 0, none⟩ = some (.bool false) := HCLF.out w6 hs6; have hfz := hs6.frozen 0)
  obtain ⟨hs7, hg7⟩ := hs6.stored 0 (.bool true)
  have hb6 : Below w.heap.size w w6 := (Below.refl _ _).grown hgr6 (Nat.le_refl _) (fun k h => by cases h)
  have hb7 : Below w.heap.size w (w6.setCell ⟨w.heap.size, 0, none⟩ (.bool true)) := hb6.grown hg7 hb6.size (fun k h => by cases h; exact Nat.le_refl _)
  have hs7' : Ow 4 w.heap.size (w6.setCell ⟨w.heap.size, 0, none⟩ (.bool true)) (.slice (some ⟨w.heap.size, 0, none⟩) F F) ((memN n [id]).map Value.bool) := by
    rw [HM1.out, List.map_set, List.map_replicate]; exact hs7
  have hz7 : w.heap.size < (w6.setCell ⟨w.heap.size, 0, none⟩ (.bool true)).heap.size := Nat.lt_of_lt_of_le hz6 hg7.size
  have H7 := hid (And.intro hs7' (And.intro hb7 hz7))
  clear hs6 hgr6 hs7 hg7 hb6 hb7 hs7' hz6 hz7 hcl hfz
  generalize w6.setCell ⟨w.heap.size, 0, none⟩ (.bool true) = w7 at *
  refine (HST.out _).mono ?_
  rintro e w8 ⟨⟨s, rfl, hs⟩, hb8⟩
  rw [← elL_id] at hs
  obtain ⟨sa, sc, es⟩ := hs.len
  rw [elL_len] at es
  subst es
  have h8z := Nat.lt_of_lt_of_le H7.out.2.2 hb8.size
  have hol := OL.lit1 hs (w.heap.size + 1) (by have := H7.out.2.2; omega) (by omega)
  have hb9 : Below w8.heap.size w8 (w8.alloc (.cells #[.slice sa n sc] 23)) := (Below.refl _ _).alloc (Nat.le_refl _) _
  have H8 := hid (And.intro hol (And.intro ((H7.out.1.below hb8).below hb9) (And.intro (((H7.out.2.1).trans (hb8.mono H7.out.2.1.size)).trans (hb9.mono (by omega))) (show w.heap.size + 1 ≤ w8.heap.size + 1 by omega))))
  clear hs hb8 hol hb9 HFA HST H7
  go_wp2_with fail
  go_loopw [8, 9, 10, 11, 12] (fun v8 v9 _ _ _ wr => ∃ (l : List (Nat → Nat)) (i : Nat), v9 = .int .i64 i ∧ Hid (BI n (msL n ll) l i 0) ∧ OL (w.heap.size + 1) wr.heap.size wr v8 (l.map (elL n)) ∧ Ow 4 w.heap.size wr (.slice (some ⟨w.heap.size, 0, none⟩) F F) ((memN n l).map Value.bool) ∧ Below w.heap.size w wr ∧ w.heap.size < wr.heap.size) (fun _ v9 _ _ _ _ => F + 1 - (intOf v9).toNat)
  case atStart => exact ⟨[id], 0, rfl, HBI.out, by rw [World.size_alloc]; exact H8.out.1, H8.out.2.1, H8.out.2.2.1, by rw [World.size_alloc]; omega⟩
  case round =>
    clear H8 HBI
    obtain ⟨l, i, rfl, HB, ho, hin, hb, hsz⟩ := hrel
    obtain ⟨la, lc, e8⟩ := ho.len
    rw [List.length_map] at e8
    subst e8
    have hlenl := HB.out.len
    rw [HF.out] at hlenl
    have hil := HB.out.il
    by_cases hlt : i < l.length
    · have hii : (i : Int) < ((l.length : Nat) : Int) := by omega
      have HI := hid (And.intro ho (And.intro hin (And.intro hb hsz)))
      clear ho hin hb hsz
      go_wp2_with fail
      go_loopw [8, 10, 11, 12] (fun v8 v10 _ _ wr => ∃ (l : List (Nat → Nat)) (j : Nat), v10 = .int .i64 j ∧ j ≤ N ∧ i < l.length ∧ Hid (BI n (msL n ll) l i j) ∧ OL (w.heap.size + 1) wr.heap.size wr v8 (l.map (elL n)) ∧ Ow 4 w.heap.size wr (.slice (some ⟨w.heap.size, 0, none⟩) F F) ((memN n l).map Value.bool) ∧ Below w.heap.size w wr ∧ w.heap.size < wr.heap.size) (fun _ v10 _ _ _ => N - (intOf v10).toNat)
      case atStart => exact ⟨l, 0, rfl, Nat.zero_le _, hlt, HB.out, HI.out.1, HI.out.2.1, HI.out.2.2.1, HI.out.2.2.2⟩
      case round =>
        clear HI HB hlenl hil hii hlt
        obtain ⟨l, j, rfl, hj, hil, HB, ho, hin, hb, hsz⟩ := hrel
        by_cases hjl : j < N
        · have hji : (j : Int) < (N : Int) := by omega
          obtain ⟨g, off, rfl, hg, hc⟩ := HC2.out (by omega)
          obtain ⟨u, c1, s1⟩ := hc j hjl
          obtain ⟨og, oc, e8, _, hog⟩ := ho.form (by simp; omega)
          rw [List.length_map] at e8
          subst e8
          obtain ⟨u2, c2, s2⟩ := ho.get i (by simpa using hil)
          have hlenl := HB.out.len
          rw [HF.out] at hlenl
          obtain ⟨x, hx⟩ : ∃ x, l.getD i id = x := ⟨_, rfl⟩
          have hPx : Mv n x := by rw [← hx]; exact HB.out.mvI' hil
          have hxi : (l.map (elL n)).getD i [] = elL n x := by
            rw [← hx]
            simp [hil]
          rw [hxi] at s2
          have c1' := (hb.cell (p := ⟨g, off + j, none⟩) hg).trans c1
          have s1' := s1.below hb
          have s2' := s2.sl (by rw [elL_len]; omega)
          obtain ⟨hPj, hmj⟩ := HPJ.out j hjl
          have htn := elL_then hPx hPj
          rw [← hmj] at htn
          have hPm : Mv n ((msL n ll).getD j id) := by
            have : j < (msL n ll).length := by rw [HML.out]; exact hjl
            exact HB.out.mvM this
          have HT := hid (fun w1 (hb1 : Below wr.heap.size wr w1) => HTH.out u2 u (elL n x) (ll.getD j []) w1 (s2'.below hb1) (s1'.below hb1) (by
            intro y hy
            simp only [elL, List.mem_map, List.mem_range] at hy
            obtain ⟨t, ht, rfl⟩ := hy
            have := hPx.pm.lt t ht
            rw [hPj.len]
            omega) (by rw [elL_len]; omega))
          rw [htn] at HT
          have HXI := hid hx
          have hii : (i : Int) < ((l.length : Nat) : Int) := by omega
          have HI := hid (And.intro ho (And.intro hin (And.intro hb hsz)))
          clear ho hin hb hsz hc c1 s1 s2 s1' s2' hx htn hmj hPj
          go_wp2_with fail
          go_still_tail 8, (by kernel_rfl)
          go_wp2_with fail
          refine (HT.out _ ((Below.refl _ _).drew)).mono ?_
          rintro e w2 ⟨⟨r, rfl, hr⟩, hb2⟩
          have hb2 : Below wr.heap.size wr w2 := ((Below.refl _ _).drew).trans hb2
          obtain ⟨z, hz⟩ : ∃ z, compF x ((msL n ll).getD j id) = z := ⟨_, rfl⟩
          have hPz : Mv n z := by rw [← hz]; exact comp_mv hPx hPm
          have HZ : Hid (compF (l.getD i id) ((msL n ll).getD j id) = z) := hid (by rw [HXI.out, hz])
          have hr : OI wr.heap.size w2 r (elL n z) := by rw [← hz]; exact hr
          obtain ⟨ra, rc, er⟩ := hr.len
          rw [elL_len] at er
          subst er
          have hlm : ∀ y ∈ l, Mv n y := fun y hy => (HB.out.gen y hy).mv HMV.out
          have hsz2 := hb2.size
          have HRK2 := hid (HRK.out _ z w2 (hr.sl (by rw [elL_len]; omega)) hPz)
          rw [show rankS z n n = rkF n z from rfl] at HRK2
          obtain ⟨bz, hbz, hbm⟩ := memN_get hPz hlm
          have hrkF : rkF n z < F := by rw [← HF.out]; exact rk_lt hPz.pm
          have hin2 := HI.out.2.1.below hb2
          have hcell : w2.cell? ⟨w.heap.size, rkF n z, none⟩ = some (.bool bz) := by
            rw [hin2.cell _ (by rw [List.length_map, HMNL.out]; exact hrkF), List.getElem?_map, hbz]; rfl
          have hfz := hin2.frozen (rkF n z)
          have hri : ((rkF n z : Nat) : Int) < ((F : Nat) : Int) := by omega
          have H2 := hid (And.intro (HI.out.1.below hb2) (And.intro hin2 (HI.out.2.2.1.trans (hb2.mono HI.out.2.2.1.size))))
          have HR := hid hr
          have hszb := HI.out.2.2.2
          have HMA := hid (memN_add (l := l) hPz)
          clear hb2 hz hin2 hr HT hbz
          generalize rkF n z = kz at *
          by_cases hin : z ∈ l
          · obtain rfl : bz = true := hbm.2 hin
            have HN := hid (HB.out.there (by rw [HZ.out]; exact hin))
            clear hbm hin
            go_wp2_with fail
            refine HRK2.out.mono ?_
            rintro e w3 ⟨rfl, rfl⟩
            go_wp2
            go_roundw
            case rel => exact ⟨l, j + 1, by go_num, by omega, hil, HN.out, H2.out.1.mono (Nat.le_refl _) hsz2, H2.out.2.1, H2.out.2.2, Nat.lt_of_lt_of_le hszb hsz2⟩
            case measure => simp [intOf] <;> omega
          · obtain rfl : bz = false := by
              cases bz with
              | false => rfl
              | true => exact absurd (hbm.1 rfl) hin
            have HN := hid (HB.out.add hil (by rw [HML.out]; exact hjl) (by rw [HZ.out]; exact hin))
            rw [HZ.out] at HN
            obtain ⟨hs7, hg7⟩ := H2.out.2.1.stored kz (.bool true)
            have hol7 := H2.out.1.kept hg7 (fun k e => .inl (by cases e; omega))
            have hr7 := HR.out.kept hg7 (.inr (fun e => by have := (HR.out.lt _ e).1; omega))
            have hb7 := H2.out.2.2.grown hg7 H2.out.2.2.size (fun b e => by cases e; exact Nat.le_refl _)
            have hsz7 : w.heap.size + 1 ≤ (w2.setCell ⟨w.heap.size, kz, none⟩ (.bool true)).heap.size := by have := hg7.size; omega
            have hsz8 : wr.heap.size ≤ (w2.setCell ⟨w.heap.size, kz, none⟩ (.bool true)).heap.size := by have := hg7.size; omega
            have hs7' : Ow 4 w.heap.size (w2.setCell ⟨w.heap.size, kz, none⟩ (.bool true)) (.slice (some ⟨w.heap.size, 0, none⟩) F F) ((memN n (l ++ [z])).map Value.bool) := by
              rw [HMA.out, List.map_set]; exact hs7
            have H7 := hid (And.intro hs7' (And.intro hb7 hr7))
            obtain ⟨vs, o1, o2, o3, o4⟩ := hol7
            have hvs : vs.length ≤ 1000000000000 := by rw [o3, List.length_map]; omega
            have HO2 := hid o2
            have HO3 := hid o3
            have HO4 := hid o4
            clear hbm hin hs7 hg7 hr7 hb7 hs7' o2 o3 o4
            go_wp2_with fail
            refine HRK2.out.mono ?_
            rintro e w3 ⟨rfl, rfl⟩
            go_wp2_with (at_builtin; refine wpList_app (w3.setCell ⟨w.heap.size, kz, none⟩ (.bool true)) _ _ 22 23 (.slice none 0 0) 24 rfl rfl Try.underlying22 Try.info23 rfl (by decide) (w.heap.size + 1) (.slice (some ⟨og, 0, none⟩) l.length oc) vs rfl o1 rfl rfl hvs hsz7 ?_; intro g9 c9 w9 hown1 hg1 hg2 hg3)
            go_roundw
            case rel =>
              have hol2 := OL.snoc o1 HO2.out HO3.out HO4.out H7.out.2.2 (by omega) hown1 hg1
              refine ⟨l ++ [z], j + 1, by go_num, by omega, by simp; omega, HN.out, by rw [List.map_append]; exact hol2, H7.out.1.kept hg1 (.inr ?_), H7.out.2.1.grown hg1 H7.out.2.1.size (fun b e => by have := (o1.lt b e).1; omega), Nat.lt_of_lt_of_le hszb (Nat.le_trans hsz8 hg1.size)⟩
              intro e
              have := (o1.lt w.heap.size e.symm).1
              omega
            case measure => simp [intOf] <;> omega
        · obtain rfl : j = N := by omega
          have hji : ¬ (j : Int) < (j : Int) := by omega
          have HN := hid ((show BI n (msL n ll) l i (msL n ll).length by rw [HML.out]; exact HB.out).next hil)
          have HI := hid (And.intro ho (And.intro hin (And.intro hb hsz)))
          have hlenl := HB.out.len
          rw [HF.out] at hlenl
          clear ho hin hb hsz
          go_wp2
          go_roundw
          case rel => exact ⟨l, i + 1, by go_num, HN.out, HI.out.1, HI.out.2.1, HI.out.2.2.1, HI.out.2.2.2⟩
          case measure => simp [intOf] <;> omega
    · obtain rfl : i = l.length := by omega
      have hii : ¬ ((l.length : Nat) : Int) < ((l.length : Nat) : Int) := by omega
      have hend := HMEND.out l HB.out.done
      rw [hend] at hin
      have HI := hid (And.intro hin hb)
      clear ho hin hb hsz hend
      go_wp2
      go_ret
      exact ⟨⟨_, rfl, HI.out.1⟩, HI.out.2⟩
end Go.Proofs.Ytnbgnoimanpjnaa
