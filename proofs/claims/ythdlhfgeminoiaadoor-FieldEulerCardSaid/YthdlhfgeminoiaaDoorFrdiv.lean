/-
  The walk over parterreref1.divides. Conditions: the slices can be read, the numbers are below the prime.
-/
import Derived.Test.YthdlhfgeminoiaaDoorFleast
import Derived.BigRegion
namespace Go.Proofs.YthdlhfgeminoiaaDoor
set_option linter.unusedVariables false
open Go.RowKit

def rN (P r c d : Nat) : Nat := (r + (P - c * d % P)) % P
theorem rN_spec {P r c d : Nat} (hP : 0 < P) : (((r : Int) - ((c * d : Nat) : Int)).tmod (P : Int) + (P : Int)).tmod (P : Int) = ((rN P r c d : Nat) : Int) := by
  have h1 : -(P : Int) < ((r : Int) - ((c * d : Nat) : Int)).tmod (P : Int) := by
    rcases Int.le_total 0 ((r : Int) - ((c * d : Nat) : Int)) with h | h
    · have := Int.tmod_nonneg (P : Int) h; omega
    · have h2 := Int.tmod_lt_of_pos (-((r : Int) - ((c * d : Nat) : Int))) (show (0 : Int) < P by omega)
      rw [Int.neg_tmod] at h2
      omega
  rw [Int.tmod_eq_emod_of_nonneg (by omega), Int.add_emod_right]
  have h3 : (((r : Int) - ((c * d : Nat) : Int)).tmod (P : Int)) % (P : Int) = ((r : Int) - ((c * d : Nat) : Int)) % (P : Int) := by
    have := Int.mul_tdiv_add_tmod ((r : Int) - ((c * d : Nat) : Int)) (P : Int)
    generalize ((r : Int) - ((c * d : Nat) : Int)).tmod (P : Int) = t at *
    generalize ((r : Int) - ((c * d : Nat) : Int)).tdiv (P : Int) = q at *
    rw [← this, Int.add_comm, Int.add_mul_emod_self_left]
  rw [h3]
  unfold rN
  rw [Int.natCast_emod]
  have hm : c * d % P < P := Nat.mod_lt _ hP
  have h4 := Nat.div_add_mod (c * d) P
  rw [show (((r + (P - c * d % P) : Nat)) : Int) = ((r : Int) - ((c * d : Nat) : Int)) + (P : Int) * (((c * d / P : Nat) : Int) + 1) by
    have h5 : ((P * (c * d / P) : Nat) : Int) = (P : Int) * ((c * d / P : Nat) : Int) := Int.natCast_mul _ _
    rw [Int.mul_add, Int.mul_one, ← h5]
    generalize P * (c * d / P) = m at *
    omega, Int.add_mul_emod_self_left]
def rdI (P c base : Nat) (d : List Nat) (a : List Nat) : Nat → List Nat
  | 0 => a
  | j + 1 => (rdI P c base d a j).set (base + j) (rN P ((rdI P c base d a j).getD (base + j) 0) c (d.getD j 0))
def rdO (P n k : Nat) (d : List Nat) (a : List Nat) : Nat → List Nat
  | 0 => a
  | s + 1 => rdI P ((rdO P n k d a s).getD (k - s) 0) (k - s - n) d ((rdO P n k d a s).set (k - s) 0) n
def rdZ (a : List Nat) : Bool := a.all (· == 0)
def rdB (P n k : Nat) (d low : List Nat) : Bool := rdZ (rdO P n k d (low ++ [1]) (k + 1 - n))
theorem rdI_len (P c base : Nat) (d a : List Nat) : ∀ j, (rdI P c base d a j).length = a.length
  | 0 => rfl
  | j + 1 => by rw [rdI, List.length_set, rdI_len P c base d a j]
theorem rN_lt {P r c d : Nat} (h : 0 < P) : rN P r c d < P := Nat.mod_lt _ h
theorem rdI_lt {P c base : Nat} {d a : List Nat} (h : ∀ j, a.getD j 0 < P) : ∀ i j, (rdI P c base d a i).getD j 0 < P
  | 0 => h
  | i + 1 => getD_set_lt (rdI_lt h i) (rN_lt (by have := h 0; omega))
theorem rdO_len (P n k : Nat) (d a : List Nat) : ∀ s, (rdO P n k d a s).length = a.length
  | 0 => rfl
  | s + 1 => by rw [rdO, rdI_len, List.length_set, rdO_len P n k d a s]
theorem rdO_lt {P n k : Nat} {d a : List Nat} (h : ∀ j, a.getD j 0 < P) : ∀ s j, (rdO P n k d a s).getD j 0 < P
  | 0 => h
  | s + 1 => rdI_lt (getD_set_lt (rdO_lt h s) (by have := h 0; omega)) _
theorem nZ_len (l : List Nat) : (nZ l).length = l.length := by simp [nZ]
theorem nZ_getD (l : List Nat) (i : Nat) : (nZ l).getD i 0 = ((l.getD i 0 : Nat) : Int) := by
  simp only [nZ, List.getD_eq_getElem?_getD, List.getElem?_map]
  cases l[i]? <;> rfl
theorem nZ_set (l : List Nat) (i x : Nat) : (nZ l).set i (x : Int) = nZ (l.set i x) := by simp [nZ, List.map_set]
theorem nZ_app (l : List Nat) (x : Nat) : nZ l ++ [(x : Int)] = nZ (l ++ [x]) := by simp [nZ]
theorem rdZ_no {a : List Nat} {i : Nat} (hi : i < a.length) (h : a.getD i 0 ≠ 0) : rdZ a = false := by
  rw [Bool.eq_false_iff]
  intro hc
  rw [List.getD_eq_getElem?_getD, List.getElem?_eq_getElem hi, Option.getD_some] at h
  have := List.all_eq_true.1 hc _ (List.getElem_mem hi)
  exact h (by simpa using this)
theorem rdZ_yes {a : List Nat} (h : ∀ i, i < a.length → a.getD i 0 = 0) : rdZ a = true :=
  List.all_eq_true.2 fun x hx => by
    obtain ⟨i, hi, rfl⟩ := List.mem_iff_getElem.1 hx
    have := h i hi
    rw [List.getD_eq_getElem?_getD, List.getElem?_eq_getElem hi, Option.getD_some] at this
    simpa using this

theorem tmod_bd (x : Int) {P : Nat} (hP : 0 < P) : -(P : Int) < x.tmod (P : Int) ∧ x.tmod (P : Int) < (P : Int) := by
  refine ⟨?_, Int.tmod_lt_of_pos x (by omega)⟩
  rcases Int.le_total 0 x with h | h
  · have := Int.tmod_nonneg (P : Int) h; omega
  · have h2 := Int.tmod_lt_of_pos (-x) (show (0 : Int) < P by omega)
    rw [Int.neg_tmod] at h2
    omega

set_option maxHeartbeats 1000000 in
set_option maxRecDepth 100000 in
theorem rdivides_ok (P n k : Nat) (d low : List Nat) (v u : Value) (w : World) (hv : Sl w v (nZ d)) (hu : Sl w u (nZ low)) (hP : 2 ≤ P) (hP2 : P ≤ 64) (hd : d.length = n) (hlow : low.length = k) (hdl : ∀ j, d.getD j 0 < P) (hal : ∀ j, low.getD j 0 < P) (h1 : 1 ≤ n) (h2 : n ≤ k) (h3 : k ≤ 6) :
    Calls Tryd.prog 40 #[v, u, .int .i64 P] w fun e w' => e = .returned (.bool (rdB P n k d low)) ∧ Below w.heap.size w w' := by
  have hal1 : ∀ j, (low ++ [1]).getD j 0 < P := by
    intro j
    rw [List.getD_eq_getElem?_getD, List.getElem?_append]
    split
    · rw [← List.getD_eq_getElem?_getD]; exact hal j
    · cases hj : j - low.length with
      | zero => simp; omega
      | succ m => simp; omega
  have HLEN := hid (fun s => (rdO_len P n k d (low ++ [1]) s).trans (show (low ++ [1]).length = k + 1 by simp [hlow]))
  have HLT := hid (fun s j => rdO_lt (n := n) (k := k) (d := d) hal1 s j)
  have HO0 : Hid (rdO P n k d (low ++ [1]) 0 = low ++ [1]) := hid rfl
  have HON : Hid (∀ s, rdO P n k d (low ++ [1]) (s + 1) = rdI P ((rdO P n k d (low ++ [1]) s).getD (k - s) 0) (k - s - n) d ((rdO P n k d (low ++ [1]) s).set (k - s) 0) n) := hid fun s => rfl
  have HIL := hid (fun t b (x : List Nat) i => rdI_len P t b d x i)
  have HIT := hid (fun t b (x : List Nat) (h : ∀ j, x.getD j 0 < P) i j => rdI_lt (c := t) (base := b) (d := d) h i j)
  have HI0 : Hid (∀ t b (x : List Nat), rdI P t b d x 0 = x) := hid fun t b x => rfl
  have HIN : Hid (∀ t b (x : List Nat) i, rdI P t b d x (i + 1) = (rdI P t b d x i).set (b + i) (rN P ((rdI P t b d x i).getD (b + i) 0) t (d.getD i 0))) := hid fun t b x i => rfl
  have HDV : Hid (rdB P n k d low = rdZ (rdO P n k d (low ++ [1]) (k + 1 - n))) := hid rfl
  have HDL := hid hdl
  have HRS := hid (fun r c d => rN_spec (P := P) (r := r) (c := c) (d := d) (by omega))
  have HAPP := hid (nZ_app low 1)
  have hm64 : ∀ x y, x < P → y < P → x * y ≤ 4096 := fun x y hx hy => Nat.mul_le_mul (show x ≤ 64 by omega) (show y ≤ 64 by omega)
  have HM := hid hm64
  have HDN : Hid (∀ j, (nZ d)[j]?.getD 0 = ((d.getD j 0 : Nat) : Int)) := hid (fun j => by rw [← nZ_getD, List.getD_eq_getElem?_getD])
  generalize rdB P n k d low = R at *
  have hu2 := hu
  obtain ⟨a, c, N, rfl, hN, hl1, hl2⟩ := hv.open
  obtain rfl : N = n := by rw [← hN.out, nZ_len]; exact hd
  obtain ⟨a', c', K, rfl, hK, hm1, hm2⟩ := hu.open
  obtain rfl : K = k := by rw [← hK.out, nZ_len]; exact hlow
  obtain ⟨O, hO⟩ : ∃ O, O = rdO P N K d (low ++ [1]) := ⟨_, rfl⟩
  rw [← hO] at HLEN HLT HO0 HON HDV
  have ho7 := OI.lit0 w.heap.size w (Nat.le_refl _)
  have hrd : Rd (w.alloc (.cells #[] 3)) (.slice a' K c') ((nZ low).map (Value.int .i64)) := Sl.below hu2 ((Below.refl _ _).alloc (Nat.le_refl _) _)
  have hone := ints_one (nZ low)
  have hlt7 : (([] : List Int).map (Value.int .i64)).length + ((nZ low).map (Value.int .i64)).length ≤ 1000000000000 := by simp [nZ_len, hlow]; omega
  have hbs7 : w.heap.size ≤ (w.alloc (.cells #[] 3)).heap.size := by simp
  have HB0 := hid ((Below.refl w.heap.size w).alloc (Nat.le_refl _) (.cells #[] 3))
  have HLA : Hid ((nZ low).length = K) := hid (by rw [nZ_len, hlow])
  clear hO hdl hal hm64 hal1 hv hu hu2 hm2
  go_enter Tryd.func40, Tryd.ntmps40
  go_wp2_with (first
    | (at_builtin; refine wpList_apps (w := w.alloc (.cells #[] 3)) _ _ 22 3 (.int .i64 0) 8 rfl rfl Tryd.underlying22 Tryd.info3 rfl (by decide) w.heap.size (.slice (some ⟨w.heap.size, 0, none⟩) 0 0) (.slice a' K c') (([] : List Int).map (Value.int .i64)) ((nZ low).map (Value.int .i64)) rfl ho7 rfl hrd hone hlt7 hbs7 ?_; intro v8 w8 hown8 hgr8 hnb8; have ho8 : OI w.heap.size w8 v8 (nZ low) := hown8; have hb8 := ho7.grown HB0.out hgr8 hbs7; have hz8 := hb8.size; have hl8 : (nZ low).length ≤ 1000000000000 := (by rw [HLA.out]; omega); obtain ⟨a8, c8, e8⟩ := ho8.len; rw [HLA.out] at e8; subst e8; have HB8 := hid hb8; clear hown8 hgr8 hnb8 ho7 hrd hb8)
    | (at_builtin; refine wpList_appi w8 _ _ 22 rfl rfl Tryd.underlying22 Tryd.info3 w.heap.size (.slice a8 K c8) (nZ low) rfl ho8 rfl hl8 hz8 ?_; intro g9 c9 w9 hown9 hgr9 hgs9 hgt9; rw [HLA.out] at *; have H9 := hid (And.intro hown9 (ho8.grown HB8.out hgr9 hz8)); clear hown9 hgr9 hgs9 hgt9 ho8))
  have HTB := hid (fun x => tmod_bd x (P := P) (by omega))
  go_loopw [10, 11, 12] (fun x _ _ wr => ∃ s top : Nat, s + top = K ∧ N ≤ top + 1 ∧ x = .int .i64 top ∧ OI w.heap.size wr (.slice (some ⟨g9, 0, none⟩) (K + 1) c9) (nZ (O s)) ∧ Below w.heap.size w wr) (fun x _ _ _ => (intOf x).toNat)
  case atStart => exact ⟨0, K, by omega, by omega, rfl, by rw [HO0.out, ← HAPP.out]; exact H9.out.1, H9.out.2⟩
  case round =>
    clear H9
    obtain ⟨s, top, hst, htd, rfl, ho, hb⟩ := hrel
    by_cases hge : N ≤ top
    · have hks : K - s = top := by omega
      have hon := HON.out s
      rw [hks] at hon
      have hlen := HLEN.out s
      have hlt := HLT.out s
      have htl := hlt top
      have hcell := ho.cell top (by rw [nZ_len, hlen]; omega)
      rw [nZ_getD] at hcell
      have hfz := ho.frozen top
      have hst2 := ho.stored top ((0 : Nat) : Int)
      rw [nZ_set] at hst2
      have hst3 : OI w.heap.size (wr.setCell ⟨g9, top, none⟩ (.int .i64 0)) (.slice (some ⟨g9, 0, none⟩) (K + 1) c9) (nZ ((O s).set top 0)) ∧ wr.grownBy (wr.setCell ⟨g9, top, none⟩ (.int .i64 0)) (some g9) := hst2
      have hg9 := (ho.lt g9 rfl).1
      have HW := hid (And.intro hst3.1 (hb.grown hst3.2 hb.size (fun k h => by cases h; exact hg9)))
      have HONS := hid hon
      have hi0 := HI0.out ((O s).getD top 0) (top - N) ((O s).set top 0)
      have HIL2 := hid (fun i => (HIL.out ((O s).getD top 0) (top - N) ((O s).set top 0) i).trans (show ((O s).set top 0).length = K + 1 by rw [List.length_set, hlen]))
      have HIT2 := hid (HIT.out ((O s).getD top 0) (top - N) ((O s).set top 0) (getD_set_lt hlt (by omega)))
      have HIN2 := hid (HIN.out ((O s).getD top 0) (top - N) ((O s).set top 0))
      have hge2 : (N : Int) ≤ (top : Int) := by omega
      have htopK : (top : Int) < (K : Int) + 1 := by omega
      have hsub : (top : Int) - (N : Int) = ((top - N : Nat) : Int) := by omega
      have hbd : top - N + N = top := by omega
      have HI0' := hid hi0
      clear ho hb hlt hon hi0 hst2 hst3
      generalize hI : rdI P ((O s).getD top 0) (top - N) d ((O s).set top 0) = I at *
      clear hI
      generalize (O s).getD top 0 = t at *
      generalize hbse : top - N = base at *
      clear hbse
      go_wp2
      go_loopw [12] (fun i wq => ∃ j : Nat, j ≤ N ∧ i = .int .i64 j ∧ OI w.heap.size wq (.slice (some ⟨g9, 0, none⟩) (K + 1) c9) (nZ (I j)) ∧ Below w.heap.size w wq) (fun i _ => N - (intOf i).toNat)
      case atStart => exact ⟨0, by omega, rfl, by rw [HI0'.out]; exact HW.out.1, HW.out.2⟩
      case round =>
        clear HW hcell hfz
        obtain ⟨j, hj, rfl, ho, hb⟩ := hrel
        by_cases hjl : j < N
        · have hlI := HIL2.out j
          have hin := HIN2.out j
          have hce := ho.cell (base + j) (by rw [nZ_len, hlI]; omega)
          rw [nZ_getD] at hce
          have hfz := ho.frozen (base + j)
          obtain ⟨b, off, rfl, hbl, hc⟩ := hl2 (by omega)
          have hcd := (hb.cell (p := ⟨b, off + j, none⟩) hbl).trans (hc j hjl)
          rw [HDN.out] at hcd
          have hst2 := OI.stored (w := wr.drew) ho (base + j) ((rN P ((I j).getD (base + j) 0) t (d.getD j 0) : Nat) : Int)
          rw [nZ_set, ← hin] at hst2
          have hq1 := HIT2.out j (base + j)
          have hq2 := HDL.out j
          have hm := HM.out t (d.getD j 0) htl hq2
          have hg9 := (ho.lt g9 rfl).1
          have HX := hid (And.intro hst2.1 ((hb.drew).grown hst2.2 hb.size (fun k h => by cases h; exact hg9)))
          have n4 := HRS.out ((I j).getD (base + j) 0) t (d.getD j 0)
          have n2 : (t : Int) * ((d.getD j 0 : Nat) : Int) = ((t * d.getD j 0 : Nat) : Int) := (Int.natCast_mul _ _).symm
          have n6 := HTB.out ((((I j).getD (base + j) 0 : Nat) : Int) - ((t * d.getD j 0 : Nat) : Int))
          have n5 : (base : Int) + (j : Int) = ((base + j : Nat) : Int) := by omega
          have hl1 : rN P ((I j).getD (base + j) 0) t (d.getD j 0) < P := rN_lt (by omega)
          have hbK : ((base + j : Nat) : Int) < (K : Int) + 1 := by omega
          have hjd : (j : Int) < (N : Int) := by omega
          have hcd : wr.drew.cell? ⟨b, off + j, none⟩ = _ := hcd
          have hce : wr.drew.cell? ⟨g9, base + j, none⟩ = _ := hce
          have hfz : wr.drew.frozen? ⟨g9, base + j, none⟩ = false := hfz
          clear ho hb hst2 hin hlI hc hl2
          generalize (I j).getD (base + j) 0 = av at *
          generalize d.getD j 0 = dvv at *
          generalize rN P av t dvv = r at *
          generalize hat : base + j = at' at *
          have HAT := hid hat
          clear hat
          generalize t * dvv = prod at *
          generalize hx : ((av : Int) - (prod : Int)).tmod (P : Int) = x at *
          go_wp2
          go_region
          go_wp2
          go_roundw
          case rel => exact ⟨j + 1, by omega, by go_num, HX.out.1, HX.out.2⟩
          case measure => simp [intOf] <;> omega
        · obtain rfl : j = N := by omega
          have HX := hid (And.intro ho hb)
          clear ho hb
          go_wp2
          go_roundw
          case rel => exact ⟨s + 1, top - 1, by omega, by omega, by go_num, by rw [HONS.out]; exact HX.out.1, HX.out.2⟩
          case measure => simp [intOf] <;> omega
    · have hs : s = K + 1 - N := by omega
      rw [← hs] at HDV
      have hlen := HLEN.out s
      have hlt2 : ¬ (N : Int) ≤ (top : Int) := by omega
      have HO := hid (And.intro ho hb)
      have HNO := hid (fun i hi h => rdZ_no (a := O s) (i := i) hi h)
      have HYE := hid (fun h => rdZ_yes (a := O s) h)
      rw [hlen] at HNO HYE
      have HLS := hid hlen
      clear ho hb hs hl2
      generalize rdZ (O s) = Z at *
      go_wp2
      go_loopw [13] (fun i wq => ∃ j : Nat, j ≤ K + 1 ∧ i = .int .i64 j ∧ Hid (∀ i', i' < j → (O s).getD i' 0 = 0) ∧ wr = wq) (fun i _ => K + 1 - (intOf i).toNat)
      case atStart => exact ⟨0, by omega, rfl, hid (fun i h => by omega), rfl⟩
      case round =>
        obtain ⟨j, hj, rfl, hH, rfl⟩ := hrel
        by_cases hjl : j < K + 1
        · have hji : (j : Int) < (K : Int) + 1 := by omega
          have hce := HO.out.1.cell j (by rw [nZ_len, HLS.out]; omega)
          rw [nZ_getD] at hce
          have HNJ := hid (HNO.out j hjl)
          have HNX : Hid ((O s).getD j 0 = 0 → ∀ i', i' < j + 1 → (O s).getD i' 0 = 0) := hid (fun h i' hi' => by
            by_cases e : i' = j
            · rw [e]; exact h
            · exact hH.out i' (by omega))
          clear hH hlen
          generalize (O s).getD j 0 = y at *
          by_cases hy : y = 0
          · have hq : ((y : Int) != 0) = false := by rw [bne_eq_false_iff_eq]; omega
            have HX := hid (HNX.out hy)
            clear hy HNX HNJ
            go_wp2
            go_roundw
            case rel => exact ⟨j + 1, by omega, by go_num, HX, by trivial⟩
            case measure => simp [intOf] <;> omega
          · have hq : ((y : Int) != 0) = true := by simp; omega
            have HE := hid (HDV.out.trans (HNJ.out hy))
            clear hy HNX HNJ
            go_wp2
            go_ret
            exact ⟨by rw [HE.out]; rfl, HO.out.2⟩
        · obtain rfl : j = K + 1 := by omega
          have hji : ¬ ((K + 1 : Nat) : Int) < (K : Int) + 1 := by omega
          have HE := hid (HDV.out.trans (HYE.out hH.out))
          clear hH hlen
          go_wp2
          go_ret
          exact ⟨by rw [HE.out]; rfl, HO.out.2⟩
end Go.Proofs.YthdlhfgeminoiaaDoor
