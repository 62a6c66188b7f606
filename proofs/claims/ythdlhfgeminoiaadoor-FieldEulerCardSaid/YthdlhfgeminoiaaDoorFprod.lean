/-
  The walk over parterreref1.Product. Conditions: two lists of one length; the numbers fit; the slices can be read.
-/
import Derived.Test.YthdlhfgeminoiaaDoorFrsum
namespace Go.Proofs.YthdlhfgeminoiaaDoor
set_option linter.unusedVariables false
open Go.RowKit

def pdI (P t i : Nat) (b : List Nat) (o : List Nat) : Nat → List Nat
  | 0 => o
  | j + 1 => (pdI P t i b o j).set (i + j) (((pdI P t i b o j).getD (i + j) 0 + t * b.getD j 0) % P)
def pdO (P K : Nat) (a b : List Nat) : Nat → List Nat
  | 0 => List.replicate (2 * K) 0
  | i + 1 => pdI P (a.getD i 0) i b (pdO P K a b i) K
theorem pdI_len (P t i : Nat) (b o : List Nat) : ∀ j, (pdI P t i b o j).length = o.length
  | 0 => rfl
  | j + 1 => by rw [pdI, List.length_set, pdI_len P t i b o j]
theorem pdI_lt {P t i : Nat} {b o : List Nat} (h : ∀ j, o.getD j 0 < P) : ∀ m j, (pdI P t i b o m).getD j 0 < P
  | 0 => h
  | m + 1 => getD_set_lt (pdI_lt h m) (Nat.mod_lt _ (by have := h 0; omega))
theorem pdO_len (P K : Nat) (a b : List Nat) : ∀ i, (pdO P K a b i).length = 2 * K
  | 0 => by simp [pdO]
  | i + 1 => by rw [pdO, pdI_len, pdO_len P K a b i]
theorem pdO_lt {P K : Nat} (a b : List Nat) (hP : 1 ≤ P) : ∀ i j, (pdO P K a b i).getD j 0 < P
  | 0 => fun j => rep_lt hP _ j
  | i + 1 => pdI_lt (pdO_lt a b hP i) _

set_option maxHeartbeats 2000000 in
set_option maxRecDepth 100000 in
theorem Product_ok (P K : Nat) (a b : List Nat) (v u : Value) (w : World) (hv : Sl w v (nZ a)) (hu : Sl w u (nZ b)) (hP : 2 ≤ P) (hP2 : P ≤ 64) (hK : 1 ≤ K) (hK6 : K ≤ 6) (ha : a.length = K) (hb : b.length = K) (hal : ∀ j, a.getD j 0 < P) (hbl : ∀ j, b.getD j 0 < P) :
    Calls Tryd.prog 46 #[v, u, .int .i64 P] w fun e w' => (∃ r, e = .returned r ∧ OI w.heap.size w' r (nZ (pdO P K a b K))) ∧ Below w.heap.size w w' := by
  have HOL := hid (pdO_len P K a b)
  have HOT := hid (fun i j => pdO_lt (P := P) (K := K) a b (by omega) i j)
  have HO0 : Hid (nZ (pdO P K a b 0) = (List.replicate (2 * K) 0).map fun x : Nat => (x : Int)) := hid rfl
  have HOS : Hid (∀ i, pdO P K a b (i + 1) = pdI P (a.getD i 0) i b (pdO P K a b i) K) := hid fun i => rfl
  have HIL := hid (fun t i (o : List Nat) j => pdI_len P t i b o j)
  have HIT := hid (fun t i (o : List Nat) (h : ∀ j, o.getD j 0 < P) m j => pdI_lt (t := t) (i := i) (b := b) h m j)
  have HI0 : Hid (∀ t i (o : List Nat), pdI P t i b o 0 = o) := hid fun t i o => rfl
  have HIS : Hid (∀ t i (o : List Nat) j, pdI P t i b o (j + 1) = (pdI P t i b o j).set (i + j) (((pdI P t i b o j).getD (i + j) 0 + t * b.getD j 0) % P)) := hid fun t i o j => rfl
  have HAL := hid hal
  have HBL := hid hbl
  obtain ⟨O, hO⟩ : ∃ O, O = pdO P K a b := ⟨_, rfl⟩
  rw [← hO] at HOL HOT HO0 HOS ⊢
  clear hO hal hbl
  obtain ⟨av, ac, N, rfl, hN, hl1, hl2⟩ := hv.open
  obtain rfl : N = K := by rw [← hN.out, nZ_len]; exact ha
  obtain ⟨bv, bc, N', rfl, hN', hm1, hm2⟩ := hu.open
  obtain rfl : N' = N := by rw [← hN'.out, nZ_len]; exact hb
  obtain ⟨bA, oA, rfl, hbA, hcA⟩ := hl2 (by omega)
  obtain ⟨bB, oB, rfl, hbB, hcB⟩ := hm2 (by omega)
  have HCA : Hid (∀ i, i < N' → w.cell? ⟨bA, oA + i, none⟩ = some (.int .i64 ((a.getD i 0 : Nat) : Int))) := hid (fun i hi => by rw [hcA i hi, ← nZ_getD, List.getD_eq_getElem?_getD])
  have HCB : Hid (∀ i, i < N' → w.cell? ⟨bB, oB + i, none⟩ = some (.int .i64 ((b.getD i 0 : Nat) : Int))) := hid (fun i hi => by rw [hcB i hi, ← nZ_getD, List.getD_eq_getElem?_getD])
  have hcast : Hid ((N' : Int) + (N' : Int) = ((2 * N' : Nat) : Int)) := hid (by omega)
  clear hcA hcB hl2 hm2 hv hu ha hb
  go_enter Tryd.func46, Tryd.ntmps46
  go_wp2_with (at_make; refine wpList_mk (w := w) _ _ 22 3 (.int .i64 0) 8 rfl rfl Tryd.underlying22 Tryd.info3 rfl (by decide) w.heap.size _ (2 * N') rfl rfl hcast.out (by omega) (Nat.le_refl _) ?_; intro w3 hs3 hgr3 hz3)
  have ho3 : OI w.heap.size w3 (.slice (some ⟨w.heap.size, 0, none⟩) (2 * N') (2 * N')) (nZ (O 0)) := by
    unfold OI
    rw [HO0.out, List.map_replicate, List.map_replicate]
    exact hs3
  have hb3 : Below w.heap.size w w3 := (Below.refl _ _).grown hgr3 (Nat.le_refl _) (fun k h => by cases h)
  have H3 := hid (And.intro ho3 hb3)
  clear hs3 hgr3 hz3 ho3 hb3
  go_loopw [8, 9] (fun i _ wr => ∃ m : Nat, m ≤ N' ∧ i = .int .i64 m ∧ OI w.heap.size wr (.slice (some ⟨w.heap.size, 0, none⟩) (2 * N') (2 * N')) (nZ (O m)) ∧ Below w.heap.size w wr) (fun i _ _ => N' - (intOf i).toNat)
  case atStart => exact ⟨0, Nat.zero_le _, rfl, H3.out.1, H3.out.2⟩
  case round =>
    clear H3
    obtain ⟨m, hm, rfl, ho, hb⟩ := hrel
    by_cases hml : m < N'
    · have hmN : (m : Int) < (N' : Int) := by omega
      have hI0 := HI0.out (a.getD m 0) m (O m)
      have HIL2 := hid (fun j => (HIL.out (a.getD m 0) m (O m) j).trans (HOL.out m))
      have HIT2 := hid (HIT.out (a.getD m 0) m (O m) (HOT.out m))
      have HIS2 := hid (HIS.out (a.getD m 0) m (O m))
      have HOS2 := hid (HOS.out m)
      have ht := HAL.out m
      have hca := HCA.out m hml
      obtain ⟨I, hI⟩ : ∃ I, I = pdI P (a.getD m 0) m b (O m) := ⟨_, rfl⟩
      rw [← hI] at hI0 HIL2 HIT2 HIS2 HOS2
      have HI02 := hid hI0
      have H4 := hid (And.intro ho hb)
      clear ho hb hI hI0
      generalize a.getD m 0 = t at *
      have HCAM := hid hca
      clear hca
      go_wp2
      go_loopw [9] (fun i wr => ∃ j : Nat, j ≤ N' ∧ i = .int .i64 j ∧ OI w.heap.size wr (.slice (some ⟨w.heap.size, 0, none⟩) (2 * N') (2 * N')) (nZ (I j)) ∧ Below w.heap.size w wr) (fun i _ => N' - (intOf i).toNat)
      case atStart => exact ⟨0, Nat.zero_le _, rfl, by rw [HI02.out]; exact H4.out.1, H4.out.2⟩
      case round =>
        clear H4
        obtain ⟨j, hj, rfl, ho, hb⟩ := hrel
        by_cases hjl : j < N'
        · have hjN : (j : Int) < (N' : Int) := by omega
          have hlI := HIL2.out j
          have hin := HIS2.out j
          have hce := ho.cell (m + j) (by rw [nZ_len, hlI]; omega)
          rw [nZ_getD] at hce
          have hfz := ho.frozen (m + j)
          have hca := (hb.cell (p := ⟨bA, oA + m, none⟩) hbA).trans HCAM.out
          have hcb := (hb.cell (p := ⟨bB, oB + j, none⟩) hbB).trans (HCB.out j hjl)
          have hst2 := OI.stored (w := wr.drew) ho (m + j) ((((I j).getD (m + j) 0 + t * b.getD j 0) % P : Nat) : Int)
          rw [nZ_set, ← hin] at hst2
          have hq1 := HIT2.out j (m + j)
          have hq2 := HBL.out j
          have hm64 : t * b.getD j 0 ≤ 4096 := Nat.mul_le_mul (show t ≤ 64 by omega) (show _ ≤ 64 by omega)
          have HX := hid (And.intro hst2.1 ((hb.drew).grown hst2.2 hb.size (fun k h => by cases h; omega)))
          have n2 : (t : Int) * ((b.getD j 0 : Nat) : Int) = ((t * b.getD j 0 : Nat) : Int) := (Int.natCast_mul _ _).symm
          have n3 : (((I j).getD (m + j) 0 : Nat) : Int) + ((t * b.getD j 0 : Nat) : Int) = (((I j).getD (m + j) 0 + t * b.getD j 0 : Nat) : Int) := by omega
          have n4 : (((I j).getD (m + j) 0 + t * b.getD j 0 : Nat) : Int).tmod (P : Int) = ((((I j).getD (m + j) 0 + t * b.getD j 0) % P : Nat) : Int) := (Int.ofNat_tmod _ _).symm
          have n5 : (m : Int) + (j : Int) = ((m + j : Nat) : Int) := by omega
          have hb2N : ((m + j : Nat) : Int) < ((2 * N' : Nat) : Int) := by omega
          have hlr := Nat.mod_lt ((I j).getD (m + j) 0 + t * b.getD j 0) (show 0 < P by omega)
          have hca : wr.drew.cell? ⟨bA, oA + m, none⟩ = _ := hca
          have hcb : wr.drew.cell? ⟨bB, oB + j, none⟩ = _ := hcb
          have hce : wr.drew.cell? ⟨w.heap.size, m + j, none⟩ = _ := hce
          have hfz : wr.drew.frozen? ⟨w.heap.size, m + j, none⟩ = false := hfz
          clear ho hb hst2 hin hlI
          generalize (I j).getD (m + j) 0 = av at *
          generalize b.getD j 0 = dvv at *
          generalize hat : m + j = at' at *
          have HAT := hid hat
          clear hat
          generalize t * dvv = prod at *
          have hsum : av + prod ≤ 5000 := by omega
          generalize av + prod = sm at *
          generalize sm % P = r at *
          go_wp2
          go_region
          go_wp2
          go_roundw
          case rel => exact ⟨j + 1, by omega, by go_num, HX.out.1, HX.out.2⟩
          case measure => simp [intOf] <;> omega
        · obtain rfl : N' = j := by omega
          have HX := hid (And.intro ho hb)
          clear ho hb
          go_wp2
          go_roundw
          case rel => exact ⟨m + 1, by omega, by go_num, by rw [HOS2.out]; exact HX.out.1, HX.out.2⟩
          case measure => simp [intOf] <;> omega
    · obtain rfl : N' = m := by omega
      have HX := hid (And.intro ho hb)
      clear ho hb
      go_wp2
      go_ret
      exact ⟨⟨_, rfl, HX.out.1⟩, HX.out.2⟩
end Go.Proofs.YthdlhfgeminoiaaDoor
