/-
  The walk over count.kindOf. Conditions: the slice can be read, a permutation of n points, n <= 7.
-/
import Derived.Test.YtnbgnoimanpjnaaCkm
import Derived.Test.YtnbgnoimanpjnaaGel
import Derived.Test.YtnbgnoimanpjnaaGmoveof
import Derived.Test.YtnbgnoimanpjnaaGaid
namespace Go.Proofs.Ytnbgnoimanpjnaa
set_option linter.unusedVariables false
open Go.RowKit

/-- How many cycles of each length there are, with leaders below k. -/
def kdF (x : Nat → Nat) (n k c : Nat) : Nat := sumN (fun j => if leadB x n j = true ∧ per x n j = c then 1 else 0) k
def kdC (f : Nat → Nat) : List Value := (kdI f).map (Value.int .i64)
theorem kdC_len (f : Nat → Nat) : (kdC f).length = 8 := by simp [kdC, kdI]
theorem kdC_one (f : Nat → Nat) : (kdC f).toArray.all (·.oneCell') = true := by simp [kdC, kdI, Value.oneCell']
theorem kdC_get {f : Nat → Nat} {c : Nat} (h : c < 8) : (kdC f)[c]? = some (.int .i64 ((f c : Nat) : Int)) := by simp [kdC, kdI, h]
theorem kd_le (x : Nat → Nat) (n k c : Nat) : kdF x n k c ≤ k := sumN_le _ (fun i => by split <;> omega) k
theorem kd_set {x : Nat → Nat} {n k : Nat} (hl : leadB x n k = true) (hp : per x n k < 8) : (kdC (kdF x n k)).set (per x n k) (.int .i64 (((kdF x n k (per x n k) : Nat) : Int) + 1)) = kdC (kdF x n (k + 1)) := by
  refine List.ext_getElem? fun i => ?_
  by_cases e : per x n k = i
  · subst e
    rw [List.getElem?_set_self (by rw [kdC_len]; exact hp), kdC_get hp]
    simp [kdF, sumN, hl]
  · rw [List.getElem?_set_ne e]
    by_cases hi : i < 8
    · rw [kdC_get hi, kdC_get hi]
      simp [kdF, sumN, e]
    · rw [List.getElem?_eq_none (by rw [kdC_len]; omega), List.getElem?_eq_none (by rw [kdC_len]; omega)]
theorem kd_same {x : Nat → Nat} {n k : Nat} (hl : leadB x n k = false) : kdF x n (k + 1) = kdF x n k := by
  funext c
  simp [kdF, sumN, hl]
def boS (S : Nat → Bool) : List Value := (List.range 7).map fun x => .bool (S x)
theorem boS_get {S : Nat → Bool} {c : Nat} (h : c < 7) : (boS S)[c]? = some (.bool (S c)) := by simp [boS, h]
theorem boS_set {S : Nat → Bool} {c : Nat} (h : c < 7) : (boS S).set c (.bool true) = boS (fun x => x == c || S x) := by
  refine List.ext_getElem? fun i => ?_
  by_cases e : c = i
  · subst e
    rw [List.getElem?_set_self (by simpa [boS] using h), boS_get h]
    simp
  · rw [List.getElem?_set_ne e]
    by_cases hi : i < 7
    · rw [boS_get hi, boS_get hi]
      have : (i == c) = false := by simp; omega
      rw [this]; rfl
    · simp [boS, hi]

set_option maxHeartbeats 4000000 in
set_option maxRecDepth 100000 in
theorem kindof_ok (v : Value) (x : Nat → Nat) (n : Nat) (w : World) (hn1 : 1 ≤ n) (hn : n ≤ 7) (hl : Sl w v (elL n x)) (hx : Mv n x) :
    Calls Try.prog 88 #[v] w fun e w' => e = .returned (kF (kdI (kdF x n n))) ∧ Below w.heap.size w w' := by
  have HPM := hid hx.pm
  have HLT := hid (fun i (hi : i < n) k => hx.pm.it_lt hi k)
  obtain ⟨hb0, ho0, hc0, rfl, hcc⟩ := hl.elFix (by omega)
  have HCC := hid hcc
  have HK0 : Hid (kdF x n 0 = fun _ => 0) := hid rfl
  have HKS := hid (fun k h1 h2 => kd_set (x := x) (n := n) (k := k) h1 h2)
  have HKN := hid (fun k h1 => kd_same (x := x) (n := n) (k := k) h1)
  have HKL := hid (kd_le x n)
  have hb0 : Below w.heap.size w (((w.alloc (.cells (kdC fun _ => 0).toArray 85)).alloc (.cells (kdC fun _ => 0).toArray 85)).alloc (.cells (boS fun _ => false).toArray 109)) := (((Below.refl _ _).alloc (Nat.le_refl _) _).alloc (by simp) _).alloc (by simp; omega) _
  have hA1 : Arr (((w.alloc (.cells (kdC fun _ => 0).toArray 85)).alloc (.cells (kdC fun _ => 0).toArray 85)).alloc (.cells (boS fun _ => false).toArray 109)) w.heap.size 85 (kdC fun _ => 0) := ((Arr.new w _ _).alloc _).alloc _
  have hA2 : Arr (((w.alloc (.cells (kdC fun _ => 0).toArray 85)).alloc (.cells (kdC fun _ => 0).toArray 85)).alloc (.cells (boS fun _ => false).toArray 109)) (w.alloc (.cells (kdC fun _ => 0).toArray 85)).heap.size 85 (kdC fun _ => 0) := (Arr.new _ _ _).alloc _
  have hA3 : Arr (((w.alloc (.cells (kdC fun _ => 0).toArray 85)).alloc (.cells (kdC fun _ => 0).toArray 85)).alloc (.cells (boS fun _ => false).toArray 109)) ((w.alloc (.cells (kdC fun _ => 0).toArray 85)).alloc (.cells (kdC fun _ => 0).toArray 85)).heap.size 109 (boS fun _ => false) := Arr.new _ _ _
  rw [World.size_alloc] at hA2
  rw [World.size_alloc, World.size_alloc] at hA3
  have hz : w.heap.size + 3 ≤ (((w.alloc (.cells (kdC fun _ => 0).toArray 85)).alloc (.cells (kdC fun _ => 0).toArray 85)).alloc (.cells (boS fun _ => false).toArray 109)).heap.size := by simp
  have H0 := hid (And.intro hA1 (And.intro hA2 (And.intro hA3 hb0)))
  clear hA1 hA2 hA3 hb0 hcc hl hx
  go_enter Try.func88, Try.ntmps88
  go_wp2_with fail
  go_loopw [5, 6, 7, 10] (fun _ _ _ i wr => ∃ (k : Nat) (S : Nat → Bool), k ≤ n ∧ i = .int .i64 k ∧ Arr wr w.heap.size 85 (kdC fun _ => 0) ∧ Arr wr (w.heap.size + 1) 85 (kdC (kdF x n k)) ∧ Arr wr (w.heap.size + 1 + 1) 109 (boS S) ∧ Hid (∀ y, y < n → (S y = true ↔ ∃ j, j < k ∧ Reach x j y)) ∧ Below w.heap.size w wr) (fun _ _ _ i _ => n - (intOf i).toNat)
  case atStart => exact ⟨0, fun _ => false, Nat.zero_le _, rfl, H0.out.1, by rw [HK0.out]; exact H0.out.2.1, H0.out.2.2.1, hid (fun y _ => Iff.intro (fun h => by cases h) (fun ⟨j, hj, _⟩ => absurd hj (by omega))), H0.out.2.2.2⟩
  case round =>
    clear H0 hz
    obtain ⟨k, S, hk, rfl, h1, h2, hA', hS, hb⟩ := hrel
    obtain ⟨W0, hW0⟩ : ∃ W0, W0 = wr := ⟨_, rfl⟩
    subst hW0
    by_cases hlt : k < n
    · have hki : (k : Int) < (n : Int) := by omega
      cases hlead : leadB x n k with
      | false =>
        have HKk := hid (HKN.out k hlead)
        have hSk : S k = true := (hS.out k hlt).2 (HPM.out.lead_not hlt hlead)
        have hcell := hA'.cell k
        rw [boS_get (by omega), hSk] at hcell
        have hk7 : (k : Int) < 7 := by omega
        have HX := hid (And.intro h1 (And.intro h2 (And.intro hA' hb)))
        have HSS : Hid (∀ y, y < n → (S y = true ↔ ∃ j, j < k + 1 ∧ Reach x j y)) := hid (fun y hy => by
          rw [hS.out y hy]
          constructor
          · rintro ⟨j, hj, hr⟩; exact ⟨j, by omega, hr⟩
          · rintro ⟨j, hj, hr⟩
            by_cases e : j = k
            · subst e
              obtain ⟨j2, hj2, hr2⟩ := (hS.out j hlt).1 hSk
              exact ⟨j2, hj2, hr2.trans hr⟩
            · exact ⟨j, by omega, hr⟩)
        clear h1 h2 hA' hb hS hSk
        go_wp2_with fail
        go_loopw [6, 7] (fun q y wq => q = .int .i64 0 ∧ y = .int .i64 k ∧ wq = W0) (fun _ _ _ => 0)
        case atStart => exact ⟨rfl, rfl, rfl⟩
        case round =>
          obtain ⟨rfl, rfl, hw⟩ := hrel
          subst hw
          go_wp2
          go_roundw
          case rel => exact ⟨k + 1, S, by omega, by go_num, HX.out.1, by rw [HKk.out]; exact HX.out.2.1, HX.out.2.2.1, HSS, HX.out.2.2.2⟩
          case measure => simp [intOf] <;> omega
      | true =>
        have hno := (HPM.out.lead_iff hlt).1 hlead
        obtain ⟨-, hm1, hm2, -⟩ := HPM.out.per_spec hlt
        have HBACK := hid (HPM.out.per_spec hlt).1
        have HUN := hid (fun a b (hb : b < per x n k) (hab : a < b) => HPM.out.it_unlike hlt hb hab)
        have HRE := hid (fun y (h : Reach x k y) => HPM.out.reach_small hlt h)
        have HKk := hid (HKS.out k hlead (by omega))
        have hkl := HKL.out k (per x n k)
        have HX := hid (And.intro h1 (And.intro h2 (And.intro hA' hb)))
        have HC2 := hid (kdC_get (f := kdF x n k) (c := per x n k) (by omega))
        clear h1 h2 hA' hb
        generalize kdF x n k (per x n k) = kv at *
        generalize per x n k = m at *
        go_wp2_with fail
        go_loopw [6, 7] (fun q y wq => ∃ (t : Nat) (S' : Nat → Bool), t ≤ m ∧ y = .int .i64 (it x t k) ∧ q = .int .i64 t ∧ Arr wq w.heap.size 85 (kdC fun _ => 0) ∧ Arr wq (w.heap.size + 1) 85 (kdC (kdF x n k)) ∧ Arr wq (w.heap.size + 1 + 1) 109 (boS S') ∧ Hid (∀ y, y < n → (S' y = true ↔ (∃ j, j < k ∧ Reach x j y) ∨ ∃ a, a < t ∧ y = it x a k)) ∧ Below w.heap.size w wq) (fun q _ _ => m - (intOf q).toNat)
        case atStart => exact ⟨0, S, Nat.zero_le _, rfl, rfl, HX.out.1, HX.out.2.1, HX.out.2.2.1, hid (fun y hy => by
          rw [hS.out y hy]
          exact ⟨fun h => .inl h, fun h => h.resolve_right (fun ⟨a, ha, _⟩ => absurd ha (by omega))⟩), HX.out.2.2.2⟩
        case round =>
          clear HX
          obtain ⟨t, S', ht, rfl, rfl, h1, h2, hA, hS', hb⟩ := hrel
          have hxN := HLT.out k hlt t
          have hcell := hA.cell (it x t k)
          rw [boS_get (by omega)] at hcell
          by_cases htm : t < m
          · have hSx : S' (it x t k) = false := by
              cases e : S' (it x t k) with
              | false => rfl
              | true =>
                exfalso
                rcases (hS'.out _ hxN).1 e with ⟨j, hj, hr⟩ | ⟨a, ha, he⟩
                · exact hno j hj (hr.trans (HPM.out.reach_symm hlt ⟨t, rfl⟩))
                · exact HUN.out a t htm ha he.symm
            rw [hSx] at hcell
            have hfz := hA.frozen (it x t k)
            obtain ⟨hA1, hg1⟩ := hA.stored (it x t k) (.bool true)
            rw [boS_set (by omega)] at hA1
            have hb1 := hb.grown hg1 hb.size (fun b e => by cases e; omega)
            have hca := HCC.out _ hb1 (it x t k) hxN
            have HS2 : Hid (∀ y, y < n → ((y == it x t k || S' y) = true ↔ (∃ j, j < k ∧ Reach x j y) ∨ ∃ a, a < t + 1 ∧ y = it x a k)) := hid (fun y hy => by
              rw [Bool.or_eq_true, hS'.out y hy, beq_iff_eq]
              constructor
              · rintro (h | h | ⟨a, ha, he⟩)
                · exact .inr ⟨t, by omega, h⟩
                · exact .inl h
                · exact .inr ⟨a, by omega, he⟩
              · rintro (h | ⟨a, ha, he⟩)
                · exact .inr (.inl h)
                · by_cases e : a = t
                  · subst e; exact .inl he
                  · exact .inr (.inr ⟨a, by omega, he⟩))
            have HIT : Hid (it x (t + 1) k = x (it x t k)) := hid rfl
            have HX := hid (And.intro (h1.kept hg1 (by simp <;> omega)) (And.intro (h2.kept hg1 (by simp)) (And.intro hA1 hb1)))
            have hx7 : ((it x t k : Nat) : Int) < 7 := by omega
            have hxNi : ((it x t k : Nat) : Int) < (n : Int) := by omega
            clear h1 h2 hA hA1 hS' hg1 hb hb1 hSx
            generalize it x t k = z at *
            go_wp2
            go_roundw
            case rel => exact ⟨t + 1, _, by omega, by rw [HIT.out], by go_num, HX.out.1, HX.out.2.1, HX.out.2.2.1, HS2, HX.out.2.2.2⟩
            case measure => simp [intOf] <;> omega
          · obtain rfl : m = t := by omega
            have hSx : S' (it x m k) = true := (hS'.out _ hxN).2 (.inr ⟨0, by omega, HBACK.out⟩)
            rw [hSx] at hcell
            have HSS : Hid (∀ y, y < n → (S' y = true ↔ ∃ j, j < k + 1 ∧ Reach x j y)) := hid (fun y hy => by
              rw [hS'.out y hy]
              constructor
              · rintro (⟨j, hj, hr⟩ | ⟨a, ha, he⟩)
                · exact ⟨j, by omega, hr⟩
                · exact ⟨k, by omega, a, he⟩
              · rintro ⟨j, hj, hr⟩
                by_cases e : j = k
                · subst e; exact .inr (HRE.out y hr)
                · exact .inl ⟨j, by omega, hr⟩)
            have hx7 : ((it x m k : Nat) : Int) < 7 := by omega
            have hm0 : (0 : Int) < (m : Int) := by omega
            have hm8 : (m : Int) < 8 := by omega
            have hcm := h2.cell m
            rw [HC2.out] at hcm
            have hfm := h2.frozen m
            obtain ⟨hs9, hg9⟩ := h2.stored m (.int .i64 (((kv : Nat) : Int) + 1))
            rw [HKk.out] at hs9
            have HX := hid (And.intro (h1.kept hg9 (by simp)) (And.intro hs9 (And.intro (hA.kept hg9 (by simp)) (hb.grown hg9 hb.size (fun b e => by cases e; omega)))))
            clear h1 h2 hA hb hs9 hg9 hS' hSx
            generalize it x m k = z at *
            go_wp2
            go_roundw
            case rel => exact ⟨k + 1, S', by omega, by go_num, HX.out.1, HX.out.2.1, HX.out.2.2.1, HSS, HX.out.2.2.2⟩
            case measure => simp [intOf] <;> omega
    · obtain rfl : k = n := by omega
      have hki : ¬ (k : Int) < (k : Int) := by omega
      have r1 := h2.range
      have i1 : (Try.prog.info? 85).map (·.size) = some (kdC (kdF x k k)).length := by rw [kdC_len]; kernel_rfl
      have HI := hid (And.intro h1 hb)
      have HE : Hid (kF (kdI (kdF x k k)) = .agg (kdC (kdF x k k)).toArray) := hid rfl
      have h8 : (kdC fun _ => 0).length = (kdC (kdF x k k)).length := by rw [kdC_len, kdC_len]
      have h1c := kdC_one (kdF x k k)
      clear h1 h2 hA' hb hS
      generalize kdC (kdF x k k) = cs at *
      go_wp2_with (first
        | (refine wpList_load_mid rfl 85 _ rfl (w.heap.size + 1) 0 rfl cs _ r1 Try.underlying85 rfl i1 ?_; clear r1)
        | (refine wpList_store_arr rfl 85 _ _ rfl w.heap.size cs rfl rfl HI.out.1 h8 i1 h1c ?_
           intro w5 hA5 hg5
           have H5 := hid (And.intro hA5 (HI.out.2.grown hg5 HI.out.2.size (fun b e => by cases e; exact Nat.le_refl _)))
           clear hA5 hg5)
        | fail)
      have hld := run_loadVar_mid (P := Try.prog) _ _ _ 85 _ _ H5.out.1.range Try.underlying85 rfl i1
      refine ⟨rfl, .agg cs.toArray, ?_, by rw [HE.out], H5.out.2⟩
      show ((results _ _).run _ _) = _
      simp [results, Try.f88, asAddr, hld]
end Go.Proofs.Ytnbgnoimanpjnaa
