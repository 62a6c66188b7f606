/-
  The walks over tour.Rings, parterrelaw4.ring3 and tourFact. Conditions: the slice can be read; the numbers are of 64 bits.
-/
import Derived.Test.YthbpdfkaacgpoaaTpth2
import Derived.Test.YthbpdfkaacgpoaaTbeats
namespace Go.Proofs.Ythbpdfkaacgpoaa
set_option linter.unusedVariables false
open Go.RowKit

def sN (f : Nat → Nat) : Nat → Nat
  | 0 => 0
  | n + 1 => sN f n + f n
def rgT (SB : Nat → Bool) (i j k : Nat) : Nat := if (SB (i * 9 + j) == SB (j * 9 + k)) = true ∧ (SB (j * 9 + k) == SB (k * 9 + i)) = true then 1 else 0
/-- Rings of three, counted. -/
def rgC (SB : Nat → Bool) (n : Nat) : Nat := sN (fun i => sN (fun j => sN (fun k => rgT SB i j k) j) i) n
theorem rgT_le (SB : Nat → Bool) (i j k : Nat) : rgT SB i j k ≤ 1 := by unfold rgT; split <;> omega
theorem sN_le {f : Nat → Nat} {c : Nat} (n : Nat) (h : ∀ i, i < n → f i ≤ c) : sN f n ≤ n * c := by
  induction n with
  | zero => simp [sN]
  | succ n ih =>
    have h1 := ih (fun i hi => h i (by omega))
    have h2 := h n (by omega)
    rw [Nat.succ_mul, sN]
    omega
theorem rg_bd (SB : Nat → Bool) (i j k : Nat) (hi : i ≤ 9) (hj : j ≤ 9) (hk : k ≤ 9) : rgC SB i + (sN (fun j => sN (fun k => rgT SB i j k) j) j + sN (fun k => rgT SB i j k) k) ≤ 2000 := by
  have h1 : sN (fun k => rgT SB i j k) k ≤ k * 1 := sN_le k (fun x _ => rgT_le SB i j x)
  have h2 : ∀ i j, j ≤ 9 → sN (fun j => sN (fun k => rgT SB i j k) j) j ≤ 9 * 9 := fun i j hj => Nat.le_trans (sN_le (c := 9) j (fun x hx => Nat.le_trans (sN_le (c := 1) x (fun y _ => rgT_le SB i x y)) (by omega))) (by omega)
  have h3 : rgC SB i ≤ i * (9 * 9) := sN_le i (fun x hx => h2 x x (by omega))
  have h4 := h2 i j hj
  have h5 := Nat.mul_le_mul_right (9 * 9) hi
  omega

set_option maxHeartbeats 2000000 in
set_option maxRecDepth 100000 in
theorem Rings_ok (S : Nat) (u : Value) (l : List Int) (w : World) (hu : Sl w u l) (hi64 : ∀ x ∈ l, I64 x) (h : tE S l = 0) (hS1 : 1 ≤ S) (hS9 : S ≤ 9) (hlen : l.length = S * S) :
    Calls Try.prog 24 #[sqV S u] w fun e w' => e = .returned (.tuple #[.int .i64 (rgC (beB S l (S * S)) S : Nat), .int .i64 0]) ∧ Below w.heap.size w w' := by
  have HOP := hid (fun w1 (hb : Below w.heap.size w w1) => open_ok S u l w1 (hu.below hb) hi64 h hS1 hS9 hlen)
  obtain ⟨ax, cx, e1⟩ := hu.len
  subst e1
  generalize l.length = N at *
  unfold tabV at HOP
  obtain ⟨SB, hSB⟩ : ∃ SB, beB S l (S * S) = SB := ⟨_, rfl⟩
  rw [hSB] at HOP ⊢
  have HBD := hid (rg_bd SB)
  have HA : Hid (∀ i, rgC SB (i + 1) = rgC SB i + sN (fun j => sN (fun k => rgT SB i j k) j) i) := hid (fun i => rfl)
  have HA0 : Hid (rgC SB 0 = 0) := hid rfl
  obtain ⟨BB, hBB⟩ : ∃ BB : Nat → Nat → Nat, BB = fun i j => sN (fun j => sN (fun k => rgT SB i j k) j) j := ⟨_, rfl⟩
  obtain ⟨CC, hCC⟩ : ∃ CC : Nat → Nat → Nat → Nat, CC = fun i j k => sN (fun k => rgT SB i j k) k := ⟨_, rfl⟩
  have HBA : Hid (∀ i, rgC SB (i + 1) = rgC SB i + BB i i) := hid (fun i => by rw [hBB]; rfl)
  have HB0 : Hid (∀ i, BB i 0 = 0) := hid (fun i => by rw [hBB]; rfl)
  have HB1 : Hid (∀ i j, BB i (j + 1) = BB i j + CC i j j) := hid (fun i j => by rw [hBB, hCC]; rfl)
  have HC0 : Hid (∀ i j, CC i j 0 = 0) := hid (fun i j => by rw [hCC]; rfl)
  have HC1 : Hid (∀ i j k, CC i j (k + 1) = CC i j k + rgT SB i j k) := hid (fun i j k => by rw [hCC]; rfl)
  have HBD : Hid (∀ i j k, i ≤ 9 → j ≤ 9 → k ≤ 9 → rgC SB i + (BB i j + CC i j k) ≤ 2000) := hid (fun i j k hi hj hk => by rw [hBB, hCC]; exact HBD.out i j k hi hj hk)
  obtain ⟨AA, hAA⟩ : ∃ AA : Nat → Nat, AA = rgC SB := ⟨_, rfl⟩
  rw [← hAA] at HBA HA0 HBD ⊢
  clear hAA hBB hCC HA
  have HW0 := hid (And.intro (Arr.new w 24 [.int .i64 (S : Int), .slice ax N cx]) ((Below.refl w.heap.size w).alloc (Nat.le_refl _) (.cells #[.int .i64 (S : Int), .slice ax N cx] 24)))
  have HZT := zeroT
  have r1 := HW0.out.1.range
  have i2 : (Try.prog.info? 24).map (·.size) = some 2 := by kernel_rfl
  clear hu hi64 h hSB hlen
  unfold sqV at HOP
  unfold sqV
  go_enter Try.func24, Try.ntmps24
  go_wp2_with fail
  refine (HOP.out _ HW0.out.2).mono ?_
  rintro e w2 ⟨rfl, hb2⟩
  have hA2 := HW0.out.1.below hb2
  have hB2 := HW0.out.2.trans (hb2.mono HW0.out.2.size)
  have hs2 := hB2.size
  have hlt2 := hA2.lt
  have hB3 := hB2.alloc hB2.size (.cells (boolS 81 fun _ => false).toArray 51)
  have hA3 := Arr.new w2 51 (boolS 81 fun _ => false)
  have i3 : (Try.prog.info? 51).map (·.size) = some (boolS 81 SB).toArray.size := by rw [List.size_toArray, boolS_len]; kernel_rfl
  have t8 : (w2.alloc (.cells (boolS 81 fun _ => false).toArray 51)).there w2.heap.size 0 (boolS 81 SB).toArray.size := by
    have := hA3.there
    rw [boolS_len] at this
    have hsz : (boolS 81 SB).toArray.size = 81 := List.size_toArray.trans (boolS_len 81 _)
    rw [hsz]
    exact this
  have hone := bool81_one SB
  have hg9 := grown_setCells (b := w2.heap.size) (boolS 81 SB) 0 (w2.alloc (.cells (boolS 81 fun _ => false).toArray 51))
  have hF9 : Arr ((w2.alloc (.cells (boolS 81 fun _ => false).toArray 51)).setCells w2.heap.size 0 (boolS 81 SB)) w2.heap.size 51 (boolS 81 SB) := Arr.setCells (boolS 81 SB) [] _ _ hA3 ((boolS_len 81 _).trans (boolS_len 81 SB).symm)
  have hQ9 := (hA2.alloc (.cells (boolS 81 fun _ => false).toArray 51)).kept hg9 (fun e => by have : w.heap.size = w2.heap.size := Option.some.inj e; omega)
  have HT := hid (And.intro hF9 (And.intro hQ9 (hB3.grown hg9 hB3.size (fun k h => by cases h; exact hs2))))
  clear hB2 hB3 hA3 hb2 HW0 HOP r1 hg9 hA2 hF9 hQ9
  go_wp2_with (refine wpList_store_mid rfl 51 _ _ rfl w2.heap.size 0 (boolS 81 SB).toArray rfl rfl t8 i3 hone ?_; show wpList _ _ _ _ _ ((w2.alloc (.cells (boolS 81 fun _ => false).toArray 51)).setCells w2.heap.size 0 (boolS 81 SB)); generalize (w2.alloc (.cells (boolS 81 fun _ => false).toArray 51)).setCells w2.heap.size 0 (boolS 81 SB) = w3 at *; have k4 := HT.out.2.1.cell 0; simp only [List.getElem?_cons_zero] at k4)
  clear t8 k4
  go_loopw [6, 7, 8, 9, 20] (fun c _ _ _ x wr => ∃ i : Nat, x = .int .i64 i ∧ i ≤ S ∧ c = .int .i64 (AA i) ∧ Arr wr w2.heap.size 51 (boolS 81 SB) ∧ Below w.heap.size w wr) (fun _ _ _ _ x _ => S - (intOf x).toNat)
  case atStart => exact ⟨0, rfl, Nat.zero_le _, by rw [HA0.out]; rfl, HT.out.1, HT.out.2.2⟩
  case round =>
    clear HT
    obtain ⟨i, rfl, hiS, rfl, hA, hB⟩ := hrel
    by_cases hlt : i < S
    · have hlti : (i : Int) < (S : Int) := by omega
      have HX := hid (And.intro hA hB)
      have HBAi := hid (HBA.out i)
      clear hA hB
      go_wp2_with fail
      go_loopw [6, 8, 9, 24] (fun c _ _ x wq => ∃ j : Nat, x = .int .i64 j ∧ j ≤ i ∧ c = .int .i64 (AA i + BB i j) ∧ Arr wq w2.heap.size 51 (boolS 81 SB) ∧ Below w.heap.size w wq) (fun _ _ _ x _ => i - (intOf x).toNat)
      case atStart => exact ⟨0, rfl, Nat.zero_le _, by rw [HB0.out]; simp, HX.out.1, HX.out.2⟩
      case round =>
        clear HX
        obtain ⟨j, rfl, hji, rfl, hA, hB⟩ := hrel
        by_cases hjl : j < i
        · have hjli : (j : Int) < (i : Int) := by omega
          have HX := hid (And.intro hA hB)
          have HBj := hid (HB1.out i j)
          clear hA hB
          go_wp2_with fail
          go_loopw [6, 9, 28] (fun c _ x wq => ∃ k : Nat, x = .int .i64 k ∧ k ≤ j ∧ c = .int .i64 (AA i + (BB i j + CC i j k)) ∧ Arr wq w2.heap.size 51 (boolS 81 SB) ∧ Below w.heap.size w wq) (fun _ _ x _ => j - (intOf x).toNat)
          case atStart => exact ⟨0, rfl, Nat.zero_le _, by rw [HC0.out]; simp, HX.out.1, HX.out.2⟩
          case round =>
            clear HX
            obtain ⟨k, rfl, hkj, rfl, hA, hB⟩ := hrel
            by_cases hkl : k < j
            · have hkli : (k : Int) < (j : Int) := by omega
              have c1 := hA.cell (i * 9 + j)
              have c2 := hA.cell (j * 9 + k)
              have c3 := hA.cell (k * 9 + i)
              rw [boolS_get (by omega)] at c1 c2 c3
              have HCk := HC1.out i j k
              have hbd := HBD.out i j k (by omega) (by omega) (by omega)
              have hT : rgT SB i j k = if (SB (i * 9 + j) == SB (j * 9 + k)) = true ∧ (SB (j * 9 + k) == SB (k * 9 + i)) = true then 1 else 0 := rfl
              have HX := hid (And.intro hA hB)
              have hi9 : i < 9 := by omega
              have hj9 : j < 9 := by omega
              have hk9 : k < 9 := by omega
              clear hA hB
              generalize SB (i * 9 + j) = b1 at *
              generalize SB (j * 9 + k) = b2 at *
              generalize SB (k * 9 + i) = b3 at *
              generalize hCN : CC i j (k + 1) = CN at *
              generalize hCO : CC i j k = CO at *
              generalize BB i j = BO at *
              generalize AA i = AO at *
              cases h12 : (b1 == b2) with
              | false =>
                have HN : Hid (CN = CO) := hid (by rw [HCk, hT, if_neg (by rw [h12]; simp)]; rfl)
                clear HCk hT
                go_wp2
                go_quiet (fail)
                go_wp2
                go_roundw
                case rel => exact ⟨k + 1, by go_num, by omega, by rw [hCN, HN.out], HX.out.1, below_drewN HX.out.2 _⟩
                case measure => simp [intOf] <;> omega
              | true =>
                cases h23 : (b2 == b3) with
                | false =>
                  have HN : Hid (CN = CO) := hid (by rw [HCk, hT, if_neg (by rw [h23]; simp)]; rfl)
                  clear HCk hT
                  go_wp2
                  go_quiet (fail)
                  go_wp2
                  go_roundw
                  case rel => exact ⟨k + 1, by go_num, by omega, by rw [hCN, HN.out], HX.out.1, below_drewN HX.out.2 _⟩
                  case measure => simp [intOf] <;> omega
                | true =>
                  have HN : Hid (CN = CO + 1) := hid (by rw [HCk, hT, if_pos ⟨h12, h23⟩])
                  clear HCk hT
                  go_wp2
                  go_quiet (fail)
                  go_wp2
                  go_roundw
                  case rel => exact ⟨k + 1, by go_num, by omega, by rw [hCN, HN.out]; go_num, HX.out.1, below_drewN HX.out.2 _⟩
                  case measure => simp [intOf] <;> omega
            · obtain rfl : k = j := by omega
              have hkli : ¬ (k : Int) < (k : Int) := by omega
              have HX := hid (And.intro hA hB)
              clear hA hB
              go_wp2
              go_roundw
              case rel => exact ⟨k + 1, by go_num, by omega, by rw [HBj.out]; go_num, HX.out.1, HX.out.2⟩
              case measure => simp [intOf] <;> omega
        · obtain rfl : j = i := by omega
          have hjli : ¬ (j : Int) < (j : Int) := by omega
          have HX := hid (And.intro hA hB)
          clear hA hB
          go_wp2
          go_roundw
          case rel => exact ⟨j + 1, by go_num, by omega, by rw [HBAi.out]; go_num, HX.out.1, HX.out.2⟩
          case measure => simp [intOf] <;> omega
    · obtain rfl : i = S := by omega
      have hlti : ¬ (i : Int) < (i : Int) := by omega
      have HX := hid hB
      clear hA hB
      go_wp2
      go_ret2
      exact ⟨rfl, HX.out⟩

def ring3L : List Int := [0, 1, 0, 0, 0, 1, 1, 0, 0]
end Go.Proofs.Ythbpdfkaacgpoaa
