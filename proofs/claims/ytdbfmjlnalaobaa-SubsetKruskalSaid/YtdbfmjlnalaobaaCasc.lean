/-
  The walk over subset.Cascade and its test. No condition.
-/
import Derived.Test.YtdbfmjlnalaobaaSways2
import Derived.Test.YtdbfmjlnalaobaaSearch
import Derived.Test.YtdbfmjlnalaobaaArr
import Derived.Deep.RegionWith
namespace Go.Proofs.Ytdbfmjlnalaobaa
set_option linter.unusedVariables false
open Go.RowKit Go.Shelf

def lenV : Value → Nat
  | .slice _ n _ => n
  | _ => 0
def natC (L : List Nat) : List Int := L.map fun x : Nat => (x : Int)
theorem natC_snoc (L : List Nat) (x : Nat) : natC (L ++ [x]) = natC L ++ [(x : Int)] := by simp [natC]
theorem natC_len (L : List Nat) : (natC L).length = L.length := by simp [natC]
def topC (k m : Nat) : Nat := topG k m (m + k)
theorem bin_gt {k : Nat} (hk : 1 ≤ k) : ∀ m, m < bin (m + k) k
  | 0 => by rw [Nat.zero_add, bin_all]; omega
  | m + 1 => by
    obtain ⟨j, rfl⟩ : ∃ j, k = j + 1 := ⟨k - 1, by omega⟩
    have h1 := bin_gt hk m
    have h2 := bin_pos (m + (j + 1)) j (by omega)
    rw [show m + 1 + (j + 1) = (m + (j + 1)) + 1 by omega, bin_succ]
    omega
theorem topC_spec {k m : Nat} (hk : 1 ≤ k) : bin (topC k m) k ≤ m ∧ m < bin (topC k m + 1) k ∧ topC k m < m + k := by
  obtain ⟨h1, h2, h3⟩ := topG_spec (i := k) (r := m) hk (m + k)
  have h4 := bin_gt hk m
  have hlt : topC k m < m + k := by
    rcases Nat.lt_or_ge (topC k m) (m + k) with h | h
    · exact h
    · have := bin_mono h k
      have h1' : bin (topC k m) k ≤ m := h1
      omega
  exact ⟨h1, h3 _ (by show topC k m < topC k m + 1; omega) (by omega), hlt⟩
theorem topC_only {k m a : Nat} (hk : 1 ≤ k) (h1 : bin a k ≤ m) (h2 : m < bin (a + 1) k) : topC k m = a := by
  obtain ⟨g1, g2, _⟩ := topC_spec (m := m) hk
  rcases Nat.lt_trichotomy a (topC k m) with h | h | h
  · have := bin_mono (show a + 1 ≤ topC k m by omega) k; omega
  · exact h.symm
  · have := bin_mono (show topC k m + 1 ≤ a by omega) k; omega
def casc : Nat → Nat → List Nat
  | 0, _ => []
  | k + 1, m => if m = 0 then [] else topC (k + 1) m :: casc k (m - bin (topC (k + 1) m) (k + 1))
theorem casc_nil (k : Nat) : casc k 0 = [] := by cases k <;> simp [casc]
theorem casc_step {k m : Nat} (h : 0 < m) : casc (k + 1) m = topC (k + 1) m :: casc k (m - bin (topC (k + 1) m) (k + 1)) := by simp only [casc]; rw [if_neg (by omega)]
theorem casc_rest {k m : Nat} (h : k = 0) : m - bin (topC (k + 1) m) (k + 1) = 0 := by
  subst h
  obtain ⟨h1, h2, _⟩ := topC_spec (k := 1) (m := m) (by omega)
  have h3 : bin (topC 1 m + 1) 1 = bin (topC 1 m) 0 + bin (topC 1 m) 1 := rfl
  rw [h3, bin_zero] at h2
  show m - bin (topC 1 m) 1 = 0
  omega
theorem casc_len : ∀ k m, (casc k m).length ≤ k
  | 0, _ => by simp [casc]
  | k + 1, m => by
    simp only [casc]
    split
    · simp
    · have := casc_len k (m - bin (topC (k + 1) m) (k + 1))
      simp only [List.length_cons]
      omega

set_option maxRecDepth 100000 in
theorem cascade1_any (k m n bk bm : Nat) (w : World) (hn : n ≤ 1000000030) (hk : k ≤ 30) (hm : m ≤ 1000000000) (ck : w.cell? ⟨bk, 0, none⟩ = some (.int .i64 k)) (cm : w.cell? ⟨bm, 0, none⟩ = some (.int .i64 m)) :
    Calls Try.prog 46 #[.int .i64 n, .pointer (some ⟨bk, 0, none⟩), .pointer (some ⟨bm, 0, none⟩)] w fun e w' => e = .returned (.bool (decide (m < bin (n + 1) k))) ∧ ∃ q, w' = w.drewN q := by
  have HW := hid (fun q => ways_any (n + 1) k (w.drewN q) (by omega) hk)
  have hcast : ((n + 1 : Nat) : Int) = (n : Int) + 1 := by omega
  rw [hcast] at HW
  have HD : Hid (decide (m < cut60 (bin (n + 1) k)) = decide (m < bin (n + 1) k)) := hid (by
    rw [decide_eq_decide]
    unfold cut60
    split <;> omega)
  clear hcast
  generalize cut60 (bin (n + 1) k) = c at *
  generalize bin (n + 1) k = b at *
  go_enter Try.func46, Try.ntmps46
  go_wp2_with fail
  go_quiet ((go_at_call 44; exact Calls.quiet_of (HW.out _)))
  go_wp2
  go_ret
  exact ⟨by rw [← HD.out]; rfl, nq, rfl⟩

/-- Two boxes of the call's own, both written anew. -/
theorem two_cells (W : World) (A B C : Nat) (l : List Int) (u : Value) (x y : Value) {w : World} {x0 y0 : Value} (hAB : A ≠ B) (hC : A < C) (hC2 : B < C) (hA : Arr W A 3 [x0]) (hB : Arr W B 3 [y0]) (ho : OI C W u l) (hb : Below w.heap.size w W) (hwA : w.heap.size ≤ A := by omega) (hwB : w.heap.size ≤ B := by omega) :
    Arr ((W.setCell ⟨A, 0, none⟩ x).setCell ⟨B, 0, none⟩ y) A 3 [x] ∧ Arr ((W.setCell ⟨A, 0, none⟩ x).setCell ⟨B, 0, none⟩ y) B 3 [y] ∧ OI C ((W.setCell ⟨A, 0, none⟩ x).setCell ⟨B, 0, none⟩ y) u l ∧ Below w.heap.size w ((W.setCell ⟨A, 0, none⟩ x).setCell ⟨B, 0, none⟩ y) := by
  obtain ⟨a1, a2⟩ := hA.stored 0 x
  have b1 := hB.kept a2 (by simp; omega)
  obtain ⟨c1, c2⟩ := b1.stored 0 y
  have a3 := a1.kept c2 (by simp; omega)
  have ne : ∀ g, g < C → u.ownBlock = none ∨ u.ownBlock ≠ some g := fun g hg => by
    cases e : u.ownBlock with
    | none => exact .inl rfl
    | some h => right; intro e2; cases e2; have := (ho.lt _ e).1; omega
  exact ⟨a3, c1, (ho.kept a2 (ne A hC)).kept c2 (ne B hC2), (hb.grown a2 hb.size (fun k e => by cases e; exact hwA)).grown c2 (Nat.le_trans hb.size a2.size) (fun k e => by cases e; exact hwB)⟩
theorem run_callFunc_own' {P : Program} {f : FuncId} {fn : Func} (hf : P.funcs[f]? = some fn) (hn : (fn.name == "runtime.NumGoroutine") = false) (hb : fn.body.isNone = false) (args : Array Value) (w : World) :
    (callFunc f args).run P w = .ok (.enter f args) w := by
  unfold callFunc
  simp only [program, Sem.run_bind]
  simp [hf, hn, hb, Sem.run, Result.andThen]
theorem search_casc (k m bk bm : Nat) (w : World) (hk : 1 ≤ k) (hk30 : k ≤ 30) (hm : m ≤ 1000000000) (ck : w.cell? ⟨bk, 0, none⟩ = some (.int .i64 k)) (cm : w.cell? ⟨bm, 0, none⟩ = some (.int .i64 m)) :
    Calls Try.prog 45 #[.int .i64 1000000030, .func (.func 46) #[] #[.pointer (some ⟨bk, 0, none⟩), .pointer (some ⟨bm, 0, none⟩)]] w fun e w' => e = .returned (.int .i64 (topC k m : Nat)) ∧ ∃ q, w' = w.drewN q := by
  obtain ⟨g1, g2, g3⟩ := topC_spec (m := m) hk
  have ht : TestsN 46 #[.pointer (some ⟨bk, 0, none⟩), .pointer (some ⟨bm, 0, none⟩)] (fun n => decide (m < bin (n + 1) k)) 1000000030 w :=
    ⟨run_callFunc_own' Try.func46 (by kernel_rfl) (by kernel_rfl), fun x q hx => cascade1_any k m x bk bm (w.drewN q) (by omega) hk30 hm ck cm⟩
  exact search_any _ _ _ 1000000030 (topC k m) w (by omega) ht (by omega) (fun x hx => decide_eq_false (by
    have := bin_mono (show x + 1 ≤ topC k m by omega) k
    omega)) (fun x hx _ => decide_eq_true (by
    have := bin_mono (show topC k m + 1 ≤ x + 1 by omega) k
    omega))

theorem Cascade_bad (m k : Int) (w : World) (h : m < 0 ∨ k < 1 ∨ 30 < k) :
    Calls Try.prog 25 #[.int .i64 m, .int .i64 k] w fun e w' => e = .returned (.tuple #[.slice none 0 0, .int .i64 1]) ∧ Below w.heap.size w w' := by
  have hb : Below w.heap.size w ((w.alloc (.cells #[.int .i64 m] 3)).alloc (.cells #[.int .i64 k] 3)) := ((Below.refl _ _).alloc (Nat.le_refl _) _).alloc (by simp) _
  have HB := hid hb
  clear hb
  by_cases h1 : m < 0
  · clear h
    go_enter Try.func25, Try.ntmps25
    go_wp2
    go_ret2
    exact ⟨rfl, HB.out⟩
  by_cases h2 : k < 1
  · clear h
    go_enter Try.func25, Try.ntmps25
    go_wp2
    go_ret2
    exact ⟨rfl, HB.out⟩
  · have h3 : 30 < k := by omega
    clear h
    go_enter Try.func25, Try.ntmps25
    go_wp2
    go_ret2
    exact ⟨rfl, HB.out⟩
theorem Cascade_full (m k : Int) (w : World) (h : ¬ (m < 0 ∨ k < 1 ∨ 30 < k)) (hm : 1000000000 < m) :
    Calls Try.prog 25 #[.int .i64 m, .int .i64 k] w fun e w' => e = .returned (.tuple #[.slice none 0 0, .int .i64 3]) ∧ Below w.heap.size w w' := by
  have hb : Below w.heap.size w ((w.alloc (.cells #[.int .i64 m] 3)).alloc (.cells #[.int .i64 k] 3)) := ((Below.refl _ _).alloc (Nat.le_refl _) _).alloc (by simp) _
  have HB := hid hb
  have h1 : ¬ m < 0 := by omega
  have h2 : ¬ k < 1 := by omega
  have h3 : ¬ 30 < k := by omega
  clear hb h
  go_enter Try.func25, Try.ntmps25
  go_wp2
  go_ret2
  exact ⟨rfl, HB.out⟩

set_option maxRecDepth 100000 in
set_option maxHeartbeats 2000000 in
theorem Cascade_ok (m k : Nat) (w : World) (hk : 1 ≤ k) (hk30 : k ≤ 30) (hm : m ≤ 1000000000) :
    Calls Try.prog 25 #[.int .i64 m, .int .i64 k] w fun e w' => (∃ u, e = .returned (.tuple #[u, .int .i64 0]) ∧ OI w.heap.size w' u (natC (casc k m))) ∧ Below w.heap.size w w' := by
  have hA : Arr ((w.alloc (.cells #[.int .i64 m] 3)).alloc (.cells #[.int .i64 k] 3)) w.heap.size 3 [.int .i64 m] := Arr.alloc (Arr.new w _ [.int .i64 m]) _
  have hB : Arr ((w.alloc (.cells #[.int .i64 m] 3)).alloc (.cells #[.int .i64 k] 3)) (w.heap.size + 1) 3 [.int .i64 k] := by
    have := Arr.new (w.alloc (.cells #[.int .i64 m] 3)) 3 [.int .i64 k]
    simpa using this
  have hb : Below w.heap.size w ((w.alloc (.cells #[.int .i64 m] 3)).alloc (.cells #[.int .i64 k] 3)) := ((Below.refl _ _).alloc (Nat.le_refl _) _).alloc (by simp) _
  have HI := hid (And.intro hA (And.intro hB hb))
  clear hA hB hb
  go_enter Try.func25, Try.ntmps25
  go_wp2
  go_loopw [6] (fun o wr => ∃ (kk mm : Nat) (L : List Nat), Hid (L ++ casc kk mm = casc k m ∧ (kk = 0 → mm = 0) ∧ L.length + kk ≤ 30 ∧ lenV o = L.length) ∧ mm ≤ 1000000000 ∧ Arr wr w.heap.size 3 [.int .i64 mm] ∧ Arr wr (w.heap.size + 1) 3 [.int .i64 kk] ∧ OI (w.heap.size + 2) wr o (natC L) ∧ Below w.heap.size w wr) (fun o _ => 31 - lenV o)
  case atStart => exact ⟨k, m, [], hid ⟨rfl, fun h => by omega, by simpa using hk30, rfl⟩, hm, HI.out.1, HI.out.2.1, OI.nil _ _, HI.out.2.2⟩
  case round =>
    obtain ⟨kk, mm, L, HL, hmm, hA, hB, ho, hb⟩ := hrel
    clear HI
    have cm := hA.cell 0
    have fm := hA.frozen 0
    have ck := hB.cell 0
    have fk := hB.frozen 0
    rw [List.getElem?_cons_zero] at cm ck
    have hszB := hB.lt
    by_cases hm0 : 0 < mm
    · obtain ⟨k', rfl⟩ : ∃ k', kk = k' + 1 := by
        cases kk with
        | zero => have := HL.out.2.1 rfl; omega
        | succ k' => exact ⟨k', rfl⟩
      have hkl := HL.out.2.2.1
      have HSE := hid (search_casc (k' + 1) mm (w.heap.size + 1) w.heap.size wr (by omega) (by omega) hmm ck cm)
      obtain ⟨g1, g2, g3⟩ := topC_spec (k := k' + 1) (m := mm) (by omega)
      have HST := hid (casc_step (k := k') hm0)
      have HRE := hid (casc_rest (k := k') (m := mm))
      have HLEN := hid (show (natC L).length ≤ 1000000000000 by rw [natC_len]; omega)
      have HWY := hid (fun w1 => ways_any (topC (k' + 1) mm) (k' + 1) w1 (by omega) (by omega))
      rw [cut_small (show bin (topC (k' + 1) mm) (k' + 1) ≤ 1152921504606846976 by omega)] at HWY
      generalize topC (k' + 1) mm = a at *
      obtain ⟨b, hbb⟩ : ∃ b, b = bin a (k' + 1) := ⟨_, rfl⟩
      rw [← hbb] at HWY HST HRE g1
      clear g2 hbb
      have hsz : w.heap.size + 2 ≤ wr.heap.size := hszB
      go_wp2_with fail
      refine HSE.out.mono ?_
      rintro e w1 ⟨rfl, q1, rfl⟩
      have ho1 : OI (w.heap.size + 2) (wr.drewN q1) _ _ := ho.drewN q1
      go_wp2_with (at_builtin; refine wpList_appi (wr.drewN q1) _ _ 22 rfl rfl Try.underlying22 Try.info3 (w.heap.size + 2) _ _ rfl ho1 rfl HLEN.out hsz ?_; intro g c w4 hown1 hg1 hg2 hg3)
      have hA4 : Arr w4 w.heap.size 3 [.int .i64 mm] := (show Arr (wr.drewN q1) w.heap.size 3 _ from hA).kept hg1 (fun e => by have := (ho.lt w.heap.size e.symm).1; omega)
      have hB4 : Arr w4 (w.heap.size + 1) 3 [.int .i64 ((k' + 1 : Nat) : Int)] := (show Arr (wr.drewN q1) (w.heap.size + 1) 3 _ from hB).kept hg1 (fun e => by have := (ho.lt (w.heap.size + 1) e.symm).1; omega)
      have hb4 : Below w.heap.size w w4 := ((ho.drewN q1).mono (show w.heap.size ≤ w.heap.size + 2 by omega)).grown (below_drewN hb q1) hg1 (by show w.heap.size ≤ wr.heap.size; omega)
      have hs4 : w.heap.size + 2 ≤ w4.heap.size := Nat.le_trans hsz hg1.size
      have cm4 := hA4.cell 0
      have fm4 := hA4.frozen 0
      have ck4 := hB4.cell 0
      have fk4 := hB4.frozen 0
      rw [List.getElem?_cons_zero] at cm4 ck4
      have hX4 := hid (And.intro hA4 (And.intro hB4 (And.intro hown1 hb4)))
      have HX5 := hid (fun q => two_cells (w4.drewN q) w.heap.size (w.heap.size + 1) (w.heap.size + 2) (natC L ++ [(a : Int)]) _ (.int .i64 ((mm - b : Nat) : Int)) (.int .i64 (k' : Int)) (by omega) (by omega) (by omega) hA4 hB4 (hown1.drewN q) (below_drewN hb4 q))
      have HPL : Hid ((L ++ [a]) ++ casc k' (mm - b) = casc k m ∧ (k' = 0 → mm - b = 0) ∧ (L ++ [a]).length + k' ≤ 30 ∧ lenV (.slice (some ⟨g, 0, none⟩) ((natC L).length + 1) c) = (L ++ [a]).length) := hid ⟨by rw [List.append_assoc, ← HL.out.1, HST.out]; rfl, HRE.out, by simp; omega, by simp [lenV, natC_len]⟩
      have HM : Hid (lenV u6 = L.length ∧ L.length + k' + 1 ≤ 30) := hid ⟨HL.out.2.2.2, by omega⟩
      clear hA hB ho hb cm fm ck fk hg1 hg2 hg3 hA4 hB4 hown1 hb4 ho1 hsz hszB
      have hsub : ((mm : Int) - (b : Int)) = ((mm - b : Nat) : Int) := by omega
      go_wp2_with fail
      go_region_with ((go_at_call 44; refine (HWY.out _).mono ?_; rintro e w5 ⟨rfl, q5, rfl⟩))
      all_goals
        go_wp2
        go_roundw
      all_goals first
        | exact ⟨k', mm - b, L ++ [a], HPL.out, by omega, (HX5.out _).1, (HX5.out _).2.1, (HX5.out _).2.2.1.cast (natC_snoc L a).symm, (HX5.out _).2.2.2⟩
        | (rw [HM.out.1]; show 31 - ((natC L).length + 1) < _; rw [natC_len]; have := HM.out.2; omega)
    · obtain rfl : mm = 0 := by omega
      have HFIN : Hid (natC (casc k m) = natC L) := hid (by rw [← HL.out.1, casc_nil, List.append_nil])
      have HX := hid (And.intro (ho.mono (show w.heap.size ≤ w.heap.size + 2 by omega)) hb)
      clear ho hb
      go_wp2
      go_ret2
      refine ⟨⟨_, rfl, ?_⟩, HX.out.2⟩
      rw [HFIN.out]
      exact HX.out.1
end Go.Proofs.Ytdbfmjlnalaobaa
