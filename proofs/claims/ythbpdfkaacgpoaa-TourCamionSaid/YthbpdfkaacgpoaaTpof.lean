/-
  The walk over parterreref4.PartsOf. Conditions: the tournament is right; the slice can be read.
-/
import Derived.Test.YthbpdfkaacgpoaaTclos
import Derived.Test.YthbpdfkaacgpoaaOl
namespace Go.Proofs.Ythbpdfkaacgpoaa
set_option linter.unusedVariables false
open Go.RowKit

/-- A table of bools, row by row. -/
def relS (S : Nat) (r : Rel) : List Value := boolS (S * S) fun c => r (c / S) (c % S)
theorem relS_len (S : Nat) (r : Rel) : (relS S r).length = S * S := boolS_len _ _
theorem idx_div {S i j : Nat} (hj : j < S) : (i * S + j) / S = i ∧ (i * S + j) % S = j := by
  constructor
  · rw [Nat.mul_comm, Nat.mul_add_div (by omega), Nat.div_eq_of_lt hj]; omega
  · rw [Nat.mul_comm, Nat.mul_add_mod, Nat.mod_eq_of_lt hj]
theorem relS_get {S : Nat} {r : Rel} {i j : Nat} (hi : i < S) (hj : j < S) : (relS S r)[i * S + j]? = some (.bool (r i j)) := by
  unfold relS
  rw [boolS_get (pos_lt hi hj), (idx_div hj).1, (idx_div hj).2]
theorem relS_put {S : Nat} {r : Rel} {i j : Nat} {b : Bool} (hi : i < S) (hj : j < S) : (relS S r).set (i * S + j) (.bool b) = relS S (upd r i j b) := by
  unfold relS
  rw [boolS_put (pos_lt hi hj)]
  congr
  funext c
  unfold upd
  by_cases h : c = i * S + j
  · subst h
    rw [if_pos rfl, if_pos (idx_div hj)]
  · rw [if_neg h, if_neg]
    rintro ⟨rfl, rfl⟩
    exact h (by rw [Nat.mul_comm]; exact (Nat.div_add_mod c S).symm)
theorem upd_same (r : Rel) (i j : Nat) : upd r i j (r i j) = r := by
  funext x y
  unfold upd
  split
  · rename_i h; rw [h.1, h.2]
  · rfl
/-- The table while it is filled. -/
def filB (S : Nat) (l : List Int) (t c : Nat) : Bool := decide (c < t) && ((gD l c == 1) || (c / S == c % S))
def t0R (S : Nat) (l : List Int) : Rel := fun x y => (gD l (x * S + y) == 1) || (x == y)
theorem fil_zero (S : Nat) (l : List Int) : (List.replicate (S * S) (Value.bool false)) = boolS (S * S) (filB S l 0) := by
  rw [← boolS_none]
  congr
theorem fil_step {S : Nat} {l : List Int} {t : Nat} (ht : t < S * S) : (boolS (S * S) (filB S l t)).set t (.bool ((gD l t == 1) || (t / S == t % S))) = boolS (S * S) (filB S l (t + 1)) := by
  rw [boolS_put ht]
  congr
  funext c
  unfold filB
  by_cases h : c = t
  · subst h; rw [if_pos rfl, decide_eq_true (by omega)]; rfl
  · rw [if_neg h]
    congr 1
    rw [Bool.eq_iff_iff, decide_eq_true_iff, decide_eq_true_iff]
    omega
theorem fil_all {S : Nat} (l : List Int) (hS : 1 ≤ S) : boolS (S * S) (filB S l (S * S)) = relS S (t0R S l) := by
  unfold relS boolS
  refine List.map_congr_left fun c hc => ?_
  have hc := List.mem_range.1 hc
  unfold filB t0R
  have : c / S * S + c % S = c := by rw [Nat.mul_comm]; exact Nat.div_add_mod c S
  show Value.bool (decide (c < S * S) && _) = Value.bool ((gD l (c / S * S + c % S) == 1) || _)
  rw [decide_eq_true hc, Bool.true_and, this]

/-- Who comes to one and to whom he comes; how many he comes to. -/
def clP (T : Rel) (a k : Nat) : List Int := ((List.range k).filter fun b => T a b && T b a).map fun z : Nat => (z : Int)
def cnP (T : Rel) (a k : Nat) : Nat := ((List.range k).filter fun b => T a b).length
theorem clP_succ (T : Rel) (a k : Nat) : clP T a (k + 1) = clP T a k ++ if (T a k && T k a) = true then [(k : Int)] else [] := by
  unfold clP
  rw [List.range_succ, List.filter_append, List.map_append, List.filter_cons]
  split <;> simp
theorem cnP_succ (T : Rel) (a k : Nat) : cnP T a (k + 1) = cnP T a k + if T a k = true then 1 else 0 := by
  unfold cnP
  rw [List.range_succ, List.filter_append, List.length_append, List.filter_cons]
  split <;> simp
theorem clP_le (T : Rel) (a k : Nat) : (clP T a k).length ≤ k := by
  unfold clP
  rw [List.length_map]
  have := List.length_filter_le (fun b => T a b && T b a) (List.range k)
  rwa [List.length_range] at this
theorem cnP_le (T : Rel) (a k : Nat) : cnP T a k ≤ k := by
  unfold cnP
  have := List.length_filter_le (fun b => T a b) (List.range k)
  rwa [List.length_range] at this
theorem clP_pos {T : Rel} {a k : Nat} (ha : a < k) (h : T a a = true) : 1 ≤ (clP T a k).length := by
  have : (a : Int) ∈ clP T a k := List.mem_map.2 ⟨a, List.mem_filter.2 ⟨List.mem_range.2 ha, by rw [h]; rfl⟩, rfl⟩
  exact List.length_pos_of_mem this
/-- Is this player the first of his part, of just so many reached? -/
def takR (T : Rel) (n reach a : Nat) : Bool := decide (cnP T a n = reach) && ((clP T a n).getD 0 0 == (a : Int))
def prI (T : Rel) (n reach : Nat) : Nat → List (List Int)
  | 0 => []
  | a + 1 => prI T n reach a ++ if takR T n reach a = true then [clP T a n] else []
def prO (T : Rel) (n : Nat) : Nat → List (List Int)
  | 0 => []
  | d + 1 => prO T n d ++ prI T n (n - d) n
theorem prI_len (T : Rel) (n reach : Nat) : ∀ a, (prI T n reach a).length ≤ a
  | 0 => Nat.le_refl _
  | a + 1 => by
    have := prI_len T n reach a
    rw [prI, List.length_append]
    split <;> simp <;> omega
theorem prO_len (T : Rel) (n : Nat) : ∀ d, (prO T n d).length ≤ d * n
  | 0 => by simp [prO]
  | d + 1 => by
    have := prO_len T n d
    have := prI_len T n (n - d) n
    rw [prO, List.length_append, Nat.succ_mul]
    omega

set_option maxHeartbeats 4000000 in
set_option maxRecDepth 100000 in
theorem PartsOf_ok (S : Nat) (u : Value) (l : List Int) (w : World) (hu : Sl w u l) (hS1 : 1 ≤ S) (hS9 : S ≤ 9) (hlen : l.length = S * S) :
    Calls Try.prog 29 #[sqV S u] w fun e w' => (∃ v, e = .returned v ∧ OL w.heap.size w'.heap.size w' v (prO (c1 S (t0R S l) S) S S)) ∧ Below w.heap.size w w' := by
  obtain ⟨ax, cx, N, rfl, hN, hl1, hl2⟩ := hu.open
  obtain rfl : N = S * S := by rw [← hN.out, hlen]
  obtain ⟨bs, os, rfl, hbs, hcs⟩ := hl2 (Nat.mul_pos (by omega) (by omega))
  have HCS : Hid (∀ i, i < S * S → w.cell? ⟨bs, os + i, none⟩ = some (.int .i64 (gD l i))) := hid (fun i hi => by rw [hcs i hi, gD_opt])
  have hSS81 : S * S ≤ 81 := Nat.mul_le_mul hS9 hS9
  have hSSc : (S : Int) * (S : Int) = ((S * S : Nat) : Int) := (Int.natCast_mul _ _).symm
  have HF0 := hid (fil_zero S l)
  have HF1 := hid (fun t (ht : t < S * S) => fil_step (l := l) ht)
  have HFA := hid (fil_all l hS1)
  have HFL := hid (fun t => boolS_len (S * S) (filB S l t))
  have HFG := hid (fun t c (hc : c < S * S) => boolS_get (f := filB S l t) hc)
  have HRL := hid (relS_len S)
  have HRG := hid (fun r i j (hi : i < S) (hj : j < S) => relS_get (r := r) hi hj)
  have HRP := hid (fun r i j b (hi : i < S) (hj : j < S) => relS_put (r := r) (b := b) hi hj)
  have HDV := hid (fun t (ht : t < S * S) => show t / S < S from Nat.div_lt_of_lt_mul ht)
  have HMD := hid (fun t => show t % S < S from Nat.mod_lt t (by omega))
  have HP := hid (fun i j (hi : i < S) (hj : j < S) => pos_lt hi hj)
  have HTT : Hid (∀ a, a < S → c1 S (t0R S l) S a a = true) := hid (fun a ha => c1_mono _ ha ha (by simp [t0R]) S)
  obtain ⟨T0, hT0⟩ : ∃ T0, T0 = t0R S l := ⟨_, rfl⟩
  rw [← hT0] at HFA HTT ⊢
  have HC1 : Hid (∀ m, c1 S T0 (m + 1) = c2 S m (c1 S T0 m) S) := hid (fun m => rfl)
  have HC10 : Hid (c1 S T0 0 = T0) := hid rfl
  have HC2 : Hid (∀ m r i, c2 S m r (i + 1) = c3 m i (c2 S m r i) S) := hid (fun m r i => rfl)
  have HC20 : Hid (∀ m r, c2 S m r 0 = r) := hid (fun m r => rfl)
  have HC3 : Hid (∀ m i r j, c3 m i r (j + 1) = upd (c3 m i r j) i j (c3 m i r j i j || (c3 m i r j i m && c3 m i r j m j))) := hid (fun m i r j => rfl)
  have HC30 : Hid (∀ m i r, c3 m i r 0 = r) := hid (fun m i r => rfl)
  generalize c1 S T0 = D1 at *
  generalize c2 S = D2 at *
  generalize c3 = D3 at *
  generalize filB S l = FB at *
  generalize relS S = RS at *
  have HO0 : Hid (prO (D1 S) S 0 = []) := hid rfl
  have HO1 : Hid (∀ d, prO (D1 S) S (d + 1) = prO (D1 S) S d ++ prI (D1 S) S (S - d) S) := hid (fun d => rfl)
  have HI0 : Hid (∀ reach, prI (D1 S) S reach 0 = []) := hid (fun r => rfl)
  have HI1 : Hid (∀ reach a, prI (D1 S) S reach (a + 1) = prI (D1 S) S reach a ++ if takR (D1 S) S reach a = true then [clP (D1 S) a S] else []) := hid (fun r a => rfl)
  have HTK : Hid (∀ reach a, takR (D1 S) S reach a = (decide (cnP (D1 S) a S = reach) && ((clP (D1 S) a S).getD 0 0 == (a : Int)))) := hid (fun r a => rfl)
  have HOL := hid (prO_len (D1 S) S)
  have HIL := hid (prI_len (D1 S) S)
  have HL1 := hid (clP_succ (D1 S))
  have HN1 := hid (cnP_succ (D1 S))
  have HL0 : Hid (∀ a, clP (D1 S) a 0 = []) := hid (fun a => rfl)
  have HN0 : Hid (∀ a, cnP (D1 S) a 0 = 0) := hid (fun a => rfl)
  have HLL := hid (clP_le (D1 S))
  have HNL := hid (cnP_le (D1 S))
  have HLP := hid (fun a (ha : a < S) => clP_pos (T := D1 S) (k := S) ha (HTT.out a ha))
  generalize prO (D1 S) S = PO at *
  generalize prI (D1 S) S = PI at *
  generalize takR (D1 S) S = TK at *
  generalize clP (D1 S) = CL at *
  generalize cnP (D1 S) = CN at *
  have hxg : ∀ i, gD l i = gD l i := fun i => rfl
  generalize gD l = G at *
  clear hl2 hcs hu hN hlen hT0 hxg
  generalize hNN : S * S = NN at *
  unfold sqV
  have HW0 := hid (And.intro (Arr.new w 24 [.int .i64 (S : Int), .slice (some ⟨bs, os, none⟩) NN cx]) ((Below.refl w.heap.size w).alloc (Nat.le_refl _) (.cells #[.int .i64 (S : Int), .slice (some ⟨bs, os, none⟩) NN cx] 24)))
  have HNN := hid hNN
  clear hNN
  go_enter Try.func29, Try.ntmps29
  go_wp2_with (at_make; refine wpList_mk (w := w.alloc (.cells #[.int .i64 (S : Int), .slice (some ⟨bs, os, none⟩) NN cx] 24)) _ _ 67 4 (.bool false) 1 rfl rfl Try.underlying67 Try.info4 rfl (by decide) (w.heap.size + 1) _ NN rfl rfl rfl (by omega) (by simp) ?_; intro w3 hs3 hgr3 hz3)
  rw [World.size_alloc] at hs3 hz3
  have hA3 := HW0.out.1.kept hgr3 (by simp)
  have hb3 : Below w.heap.size w w3 := HW0.out.2.grown hgr3 HW0.out.2.size (fun k h => by cases h)
  rw [HF0.out] at hs3
  have HX := hid (And.intro hA3 (And.intro hs3 hb3))
  clear hA3 hs3 hb3 hgr3 hz3 HW0
  go_loopw [5] (fun x wr => ∃ t : Nat, x = .int .i64 t ∧ t ≤ NN ∧ Arr wr w.heap.size 24 [.int .i64 (S : Int), .slice (some ⟨bs, os, none⟩) NN cx] ∧ Ow 4 (w.heap.size + 1) wr (.slice (some ⟨(w.heap.size + 1), 0, none⟩) NN NN) (boolS NN (FB t)) ∧ Below w.heap.size w wr) (fun x _ => NN - (intOf x).toNat)
  case atStart => exact ⟨0, rfl, Nat.zero_le _, HX.out.1, HX.out.2.1, HX.out.2.2⟩
  case round =>
    clear HX
    obtain ⟨t, rfl, htN, hA, hO, hB⟩ := hrel
    by_cases hlt : t < NN
    · have hlti : (t : Int) < (NN : Int) := by omega
      have c1 := (hB.cell (p := ⟨bs, os + t, none⟩) hbs).trans (HCS.out t hlt)
      have k1 := hA.cell 1
      simp only [List.getElem?_cons_zero, List.getElem?_cons_succ] at k1
      have hq := HDV.out t hlt
      have hr := HMD.out t
      have hst := HF1.out t hlt
      have hcell := hO.cell t (by rw [HFL.out]; exact hlt)
      rw [HFG.out t t hlt] at hcell
      have hfz := hO.frozen t
      have htd : (t : Int).tdiv (S : Int) = ((t / S : Nat) : Int) := by rw [Int.tdiv_eq_ediv_of_nonneg (by omega)]; rfl
      have htm : (t : Int).tmod (S : Int) = ((t % S : Nat) : Int) := by rw [Int.tmod_eq_emod_of_nonneg (by omega)]; rfl
      have hSz : (S : Int) ≠ 0 := by omega
      have hrest : ∀ W : World, wr.drew = W ∨ wr = W → W.cell? ⟨(w.heap.size + 1), t, none⟩ = some (.bool (FB t t)) := fun W h => by rcases h with h | h <;> rw [← h] <;> exact hcell
      have hne : w.heap.size ≠ (w.heap.size + 1) := by omega
      have HY : Hid (∀ v, v = Value.bool ((G t == 1) || (t / S == t % S)) → Arr (wr.setCell ⟨(w.heap.size + 1), t, none⟩ v) w.heap.size 24 [.int .i64 (S : Int), .slice (some ⟨bs, os, none⟩) NN cx] ∧ Ow 4 (w.heap.size + 1) (wr.setCell ⟨(w.heap.size + 1), t, none⟩ v) (.slice (some ⟨(w.heap.size + 1), 0, none⟩) NN NN) (boolS NN (FB (t + 1))) ∧ Below w.heap.size w (wr.setCell ⟨(w.heap.size + 1), t, none⟩ v).drew) := hid (fun v hv => by
        subst hv
        have hsd := hO.stored t (.bool ((G t == 1) || (t / S == t % S)))
        rw [hst] at hsd
        exact ⟨Arr.kept (w := wr) hA hsd.2 (fun e => by have : w.heap.size = (w.heap.size + 1) := Option.some.inj e; omega), hsd.1, (hB.grown hsd.2 hB.size (fun k h => by cases h; omega)).drew⟩)
      clear hA hO hB hst hrest
      have hqn : ((t / S : Nat) : Int) = ((t / S : Nat) : Int) := rfl
      clear hqn
      generalize FB t t = ob at *
      generalize G t = x at *
      generalize t / S = q at *
      generalize t % S = r at *
      by_cases hx : x = 1
      · have hx1 : (x == 1) = true := by rw [beq_iff_eq]; exact hx
        rw [hx1] at HY
        clear hx
        go_wp2
        go_region
        go_wp2
        go_roundw
        case rel => exact ⟨t + 1, by go_num, by omega, HY.out _ rfl⟩
        case measure => simp [intOf] <;> omega
      · have hx1 : (x == 1) = false := by rw [beq_eq_false_iff_ne]; exact hx
        rw [hx1] at HY
        have hqr : ((q : Int) == (r : Int)) = (q == r) := by
          by_cases e : q = r
          · rw [e]; simp
          · rw [beq_eq_false_iff_ne.2 e, beq_eq_false_iff_ne]; omega
        generalize (q == r) = qr at *
        clear hx
        go_wp2
        go_region
        go_wp2
        go_roundw
        case rel => exact ⟨t + 1, by go_num, by omega, HY.out _ (by rfl)⟩
        case measure => simp [intOf] <;> omega
    · obtain rfl : t = NN := by omega
      have hlti : ¬ (t : Int) < (t : Int) := by omega
      rw [HFA.out] at hO
      have HX := hid (And.intro hO hB)
      clear hA hO hB
      go_wp2
      go_loopw [6, 7, 8] (fun x _ _ wr => ∃ m : Nat, x = .int .i64 m ∧ m ≤ S ∧ Ow 4 (w.heap.size + 1) wr (.slice (some ⟨(w.heap.size + 1), 0, none⟩) t t) (RS (D1 m)) ∧ Below w.heap.size w wr) (fun x _ _ _ => S - (intOf x).toNat)
      case atStart => exact ⟨0, rfl, Nat.zero_le _, by rw [HC10.out]; exact HX.out.1, HX.out.2⟩
      case round =>
        clear HX
        obtain ⟨m, rfl, hmS, hO, hB⟩ := hrel
        by_cases hml : m < S
        · have hmli : (m : Int) < (S : Int) := by omega
          have HX := hid (And.intro hO hB)
          clear hO hB
          go_wp2_with fail
          go_loopw [7, 8] (fun x _ wr => ∃ i : Nat, x = .int .i64 i ∧ i ≤ S ∧ Ow 4 (w.heap.size + 1) wr (.slice (some ⟨(w.heap.size + 1), 0, none⟩) t t) (RS (D2 m (D1 m) i)) ∧ Below w.heap.size w wr) (fun x _ _ => S - (intOf x).toNat)
          case atStart => exact ⟨0, rfl, Nat.zero_le _, by rw [HC20.out]; exact HX.out.1, HX.out.2⟩
          case round =>
            clear HX
            obtain ⟨i, rfl, hiS, hO, hB⟩ := hrel
            by_cases hil : i < S
            · have hili : (i : Int) < (S : Int) := by omega
              have HX := hid (And.intro hO hB)
              clear hO hB
              go_wp2_with fail
              go_loopw [8] (fun x wr => ∃ j : Nat, x = .int .i64 j ∧ j ≤ S ∧ Ow 4 (w.heap.size + 1) wr (.slice (some ⟨(w.heap.size + 1), 0, none⟩) t t) (RS (D3 m i (D2 m (D1 m) i) j)) ∧ Below w.heap.size w wr) (fun x _ => S - (intOf x).toNat)
              case atStart => exact ⟨0, rfl, Nat.zero_le _, by rw [HC30.out]; exact HX.out.1, HX.out.2⟩
              case round =>
                clear HX
                obtain ⟨j, rfl, hjS, hO, hB⟩ := hrel
                by_cases hjl : j < S
                · have hjli : (j : Int) < (S : Int) := by omega
                  have hup := HC3.out m i (D2 m (D1 m) i) j
                  generalize hrn : D3 m i (D2 m (D1 m) i) (j + 1) = rn at *
                  have HRN := hid hrn
                  clear hrn
                  generalize D3 m i (D2 m (D1 m) i) j = ro at *
                  have p1 := HP.out i m hil hml
                  have p2 := HP.out m j hml hjl
                  have p3 := HP.out i j hil hjl
                  have d1 := hO.cell (i * S + m) (by rw [HRL.out]; exact p1)
                  have d2 := hO.cell (m * S + j) (by rw [HRL.out]; exact p2)
                  have d3 := hO.cell (i * S + j) (by rw [HRL.out]; exact p3)
                  rw [HRG.out ro i m hil hml] at d1
                  rw [HRG.out ro m j hml hjl] at d2
                  rw [HRG.out ro i j hil hjl] at d3
                  have hfz := hO.frozen (i * S + j)
                  have hsd := hO.stored (i * S + j) (.bool true)
                  rw [HRP.out ro i j true hil hjl] at hsd
                  have HY := hid (And.intro hO hB)
                  have HZ := hid (And.intro hsd.1 (hB.grown hsd.2 hB.size (fun k h => by cases h; omega)))
                  have m1 : (i : Int) * (S : Int) = ((i * S : Nat) : Int) := (Int.natCast_mul _ _).symm
                  have a1 : ((i * S : Nat) : Int) + (m : Int) = ((i * S + m : Nat) : Int) := (Int.natCast_add _ _).symm
                  have m2 : (m : Int) * (S : Int) = ((m * S : Nat) : Int) := (Int.natCast_mul _ _).symm
                  have a2 : ((m * S : Nat) : Int) + (j : Int) = ((m * S + j : Nat) : Int) := (Int.natCast_add _ _).symm
                  have a3 : ((i * S : Nat) : Int) + (j : Int) = ((i * S + j : Nat) : Int) := (Int.natCast_add _ _).symm
                  have l1 : i * S ≤ i * S + m := by omega
                  have l2 : m * S ≤ m * S + j := by omega
                  have HE1 : Hid (ro i m = true → ro m j = true → rn = upd ro i j true) := hid (fun h1 h2 => by rw [hup, h1, h2]; simp)
                  have HE2 : Hid ((ro i m && ro m j) = false → rn = ro) := hid (fun h1 => by rw [hup, h1, Bool.or_false, upd_same])
                  clear hO hB hsd hup
                  generalize ro i m = b1 at *
                  generalize ro m j = b2 at *
                  generalize ro i j = b3 at *
                  generalize i * S + m = q1 at *
                  generalize m * S + j = q2 at *
                  generalize i * S + j = q3 at *
                  generalize i * S = s1 at *
                  generalize m * S = s2 at *
                  cases b1 with
                  | true =>
                    cases b2 with
                    | true =>
                      have HE := hid (HE1.out rfl rfl)
                      clear HE1 HE2
                      go_wp2
                      go_roundw
                      case rel => exact ⟨j + 1, by go_num, by omega, by rw [HRN.out, HE.out]; exact HZ.out.1, HZ.out.2⟩
                      case measure => simp [intOf] <;> omega
                    | false =>
                      have HE := hid (HE2.out rfl)
                      clear HE1 HE2
                      go_wp2
                      go_roundw
                      case rel => exact ⟨j + 1, by go_num, by omega, by rw [HRN.out, HE.out]; exact HY.out.1, HY.out.2⟩
                      case measure => simp [intOf] <;> omega
                  | false =>
                    have HE := hid (HE2.out rfl)
                    clear HE1 HE2
                    go_wp2
                    go_roundw
                    case rel => exact ⟨j + 1, by go_num, by omega, by rw [HRN.out, HE.out]; exact HY.out.1, HY.out.2⟩
                    case measure => simp [intOf] <;> omega
                · obtain rfl : j = S := by omega
                  have hjli : ¬ (j : Int) < (j : Int) := by omega
                  rw [← HC2.out] at hO
                  have HX := hid (And.intro hO hB)
                  clear hO hB
                  go_wp2
                  go_roundw
                  case rel => exact ⟨i + 1, by go_num, by omega, HX.out.1, HX.out.2⟩
                  case measure => simp [intOf] <;> omega
            · obtain rfl : i = S := by omega
              have hili : ¬ (i : Int) < (i : Int) := by omega
              rw [← HC1.out] at hO
              have HX := hid (And.intro hO hB)
              clear hO hB
              go_wp2
              go_roundw
              case rel => exact ⟨m + 1, by go_num, by omega, HX.out.1, HX.out.2⟩
              case measure => simp [intOf] <;> omega
        · obtain rfl : m = S := by omega
          have hmli : ¬ (m : Int) < (m : Int) := by omega
          have hsz := (hO.lt _ rfl).2
          have HX := hid (And.intro hO hB)
          clear hO hB
          go_wp2
          go_loopw [9, 10, 11, 12, 13, 14] (fun o x _ _ _ _ wr => ∃ d : Nat, x = .int .i64 ((m - d : Nat) : Int) ∧ d ≤ m ∧ OL (w.heap.size + 2) wr.heap.size wr o (PO d) ∧ Ow 4 (w.heap.size + 1) wr (.slice (some ⟨(w.heap.size + 1), 0, none⟩) t t) (RS (D1 m)) ∧ Below w.heap.size w wr ∧ w.heap.size + 2 ≤ wr.heap.size) (fun _ x _ _ _ _ _ => (intOf x).toNat)
          case atStart => exact ⟨0, rfl, Nat.zero_le _, by rw [HO0.out]; exact OL.nil _ _ _, HX.out.1, HX.out.2, by omega⟩
          case round =>
            clear HX
            obtain ⟨d, rfl, hdm, hol, hO, hB, hws⟩ := hrel
            have HOd := hid (HO1.out d)
            have hOLd := HOL.out d
            have hdd : d * m ≤ 81 := Nat.le_trans (Nat.mul_le_mul hdm (Nat.le_refl m)) (Nat.le_trans (Nat.mul_le_mul hS9 hS9) (by omega))
            by_cases hdl : d < m
            · have hrp : (0 : Int) < ((m - d : Nat) : Int) := by omega
              have hrp2 : decide (0 < m - d) = true := by simp; omega
              have hrm : ((m - d : Nat) : Int) - 1 = ((m - (d + 1) : Nat) : Int) := by omega
              have hr9 : m - d ≤ 9 := by omega
              have hmeas : m - (d + 1) < m - d := by omega
              generalize hre : m - d = reach at *
              have HRE := hid hre
              clear hre
              have HX := hid (And.intro hol (And.intro hO (And.intro hB hws)))
              clear hol hO hB
              go_wp2_with fail
              go_loopw [9, 11, 12, 13, 14] (fun o x _ _ _ wr => ∃ a : Nat, x = .int .i64 a ∧ a ≤ m ∧ OL (w.heap.size + 2) wr.heap.size wr o (PO d ++ PI reach a) ∧ Ow 4 (w.heap.size + 1) wr (.slice (some ⟨(w.heap.size + 1), 0, none⟩) t t) (RS (D1 m)) ∧ Below w.heap.size w wr ∧ w.heap.size + 2 ≤ wr.heap.size) (fun _ x _ _ _ _ => m - (intOf x).toNat)
              case atStart => exact ⟨0, rfl, Nat.zero_le _, by rw [HI0.out, List.append_nil]; exact HX.out.1, HX.out.2.1, HX.out.2.2.1, HX.out.2.2.2⟩
              case round =>
                clear HX
                obtain ⟨a, rfl, ham, hol, hO, hB, hwa⟩ := hrel
                by_cases hal : a < m
                · have hali : (a : Int) < (m : Int) := by omega
                  obtain ⟨W1, rfl⟩ : ∃ W1, W1 = wr := ⟨_, rfl⟩
                  have HX := hid (And.intro hol (And.intro hO hB))
                  clear hol hO hB
                  go_wp2_with fail
                  go_loopw [12, 13, 14] (fun n o x wr => ∃ b : Nat, x = .int .i64 b ∧ b ≤ m ∧ n = .int .i64 (CN a b) ∧ OI W1.heap.size wr o (CL a b) ∧ Below W1.heap.size W1 wr) (fun _ _ x _ => m - (intOf x).toNat)
                  case atStart => exact ⟨0, rfl, Nat.zero_le _, by rw [HN0.out]; rfl, by rw [HL0.out]; exact OI.nil _ _, Below.refl _ _⟩
                  case round =>
                    obtain ⟨b, rfl, hbm, rfl, hp, hb⟩ := hrel
                    by_cases hbl : b < m
                    · have hbli : (b : Int) < (m : Int) := by omega
                      have hO := HX.out.2.1.below hb
                      have p1 := HP.out a b hal hbl
                      have p2 := HP.out b a hbl hal
                      have d1 := hO.cell (a * m + b) (by rw [HRL.out]; exact p1)
                      have d2 := hO.cell (b * m + a) (by rw [HRL.out]; exact p2)
                      rw [HRG.out (D1 m) a b hal hbl] at d1
                      rw [HRG.out (D1 m) b a hbl hal] at d2
                      have m1 : (a : Int) * (m : Int) = ((a * m : Nat) : Int) := (Int.natCast_mul _ _).symm
                      have a1 : ((a * m : Nat) : Int) + (b : Int) = ((a * m + b : Nat) : Int) := (Int.natCast_add _ _).symm
                      have m2 : (b : Int) * (m : Int) = ((b * m : Nat) : Int) := (Int.natCast_mul _ _).symm
                      have a2 : ((b * m : Nat) : Int) + (a : Int) = ((b * m + a : Nat) : Int) := (Int.natCast_add _ _).symm
                      have l1 : a * m ≤ a * m + b := by omega
                      have l2 : b * m ≤ b * m + a := by omega
                      have hl1 := HL1.out a b
                      have hn1 := HN1.out a b
                      have hnl := HNL.out a b
                      have hcl9 : (CL a b).length ≤ 9 := by have := HLL.out a b; omega
                      have hbw := hb.size
                      clear hO
                      generalize D1 m a b = b1 at *
                      generalize D1 m b a = b2 at *
                      generalize a * m + b = q1 at *
                      generalize b * m + a = q2 at *
                      generalize a * m = s1 at *
                      generalize b * m = s2 at *
                      generalize hcn : CN a b = cn at *
                      cases b1 with
                      | true =>
                        rw [if_pos rfl] at hn1
                        have HN := hid hn1
                        clear hn1
                        cases b2 with
                        | true =>
                          rw [show (true && true) = true from rfl, if_pos rfl] at hl1
                          have HL := hid hl1
                          clear hl1
                          go_wp2_with (at_builtin; refine wpList_appi wr _ _ 22 rfl rfl Try.underlying22 Try.info3 W1.heap.size _ _ rfl hp rfl (by omega) hbw ?_; intro g7 c7 w7 ho7 hg7 hg7a hg7b; have HZ := hid (And.intro ho7 (hp.grown hb hg7 hbw)); clear ho7 hg7 hg7a hg7b)
                          go_roundw
                          case rel => exact ⟨b + 1, by go_num, by omega, by rw [HN.out]; go_num, by rw [HL.out]; exact HZ.out.1, HZ.out.2⟩
                          case measure => simp [intOf] <;> omega
                        | false =>
                          rw [if_neg (by decide), List.append_nil] at hl1
                          have HL := hid hl1
                          clear hl1
                          have HZ := hid (And.intro hp hb)
                          clear hp hb
                          go_wp2
                          go_roundw
                          case rel => exact ⟨b + 1, by go_num, by omega, by rw [HN.out]; go_num, by rw [HL.out]; exact HZ.out.1, HZ.out.2⟩
                          case measure => simp [intOf] <;> omega
                      | false =>
                        rw [if_neg (by decide), Nat.add_zero] at hn1
                        rw [Bool.false_and, if_neg (by decide), List.append_nil] at hl1
                        have HN := hid hn1
                        have HL := hid hl1
                        have HZ := hid (And.intro hp hb)
                        clear hl1 hn1 hp hb
                        go_wp2
                        go_roundw
                        case rel => exact ⟨b + 1, by go_num, by omega, by rw [HN.out]; rfl, by rw [HL.out]; exact HZ.out.1, HZ.out.2⟩
                        case measure => simp [intOf] <;> omega
                    · obtain rfl : b = m := by omega
                      have hbli : ¬ (b : Int) < (b : Int) := by omega
                      have hlp := HLP.out a hal
                      have hcn := HNL.out a b
                      have hlen9 := HLL.out a b
                      have htk := HTK.out reach a
                      have HIa := hid (HI1.out reach a)
                      have hol := HX.out.1.below hb
                      have hO := HX.out.2.1.below hb
                      have hB := HX.out.2.2.trans (hb.mono HX.out.2.2.size)
                      have hsw := hb.size
                      obtain ⟨gp, cp, hpe, hgp1, hgp2⟩ := hp.form (by omega)
                      have hPIl := HIL.out reach a
                      by_cases hT1 : CN a b = reach
                      · have e1 : ((CN a b : Int) == (reach : Int)) = true := by rw [beq_iff_eq, hT1]
                        rw [decide_eq_true hT1, Bool.true_and] at htk
                        generalize hplen : (CL a b).length = pl at *
                        subst hpe
                        have c0 := hp.cell 0 (by omega)
                        generalize hhead : (CL a b).getD 0 0 = hd0 at *
                        cases hT2 : (hd0 == (a : Int)) with
                        | true =>
                          rw [hT2] at htk
                          rw [htk, if_pos rfl] at HIa
                          have HQ := hid hp
                          obtain ⟨vs, o1, o2, o3, o4⟩ := hol
                          have hvs : vs.length ≤ 1000000000000 := by
                            rw [List.length_append] at o3
                            omega
                          have HO2 := hid o2
                          have HO3 := hid o3
                          have HO4 := hid o4
                          have hB2 : w.heap.size + 2 ≤ wr.heap.size := Nat.le_trans hwa hsw
                          have HW1 := hid hwa
                          have HKP := hid (And.intro hO hB)
                          clear hp hb o2 o3 o4 hO hB hT1 htk
                          go_wp2_with (at_builtin; refine wpList_app wr _ _ 40 22 (.slice none 0 0) 24 rfl rfl Try.underlying40 Try.info22 rfl (by decide) (w.heap.size + 2) _ vs rfl o1 rfl rfl hvs hB2 ?_; intro g3 c3 w4 hown1 hg1 hg2 hg3)
                          have hol2 := OL.snoc o1 HO2.out HO3.out HO4.out HQ.out HW1.out hown1 hg1
                          have hOz := HKP.out.1.kept hg1 (.inr (fun e => by have := (o1.lt (w.heap.size + 1) e.symm).1; omega))
                          have HEND := hid (And.intro hol2 (And.intro hOz (And.intro (HKP.out.2.grown hg1 HKP.out.2.size (fun k e => by have := (o1.lt k e).1; omega)) (Nat.le_trans hB2 hg1.size))))
                          clear hol2 hown1 hg1 hg2 hg3 o1 hOz
                          go_roundw
                          case rel => exact ⟨a + 1, by go_num, by omega, by rw [HIa.out, ← List.append_assoc]; exact HEND.out.1, HEND.out.2.1, HEND.out.2.2.1, HEND.out.2.2.2⟩
                          case measure => simp [intOf] <;> omega
                        | false =>
                          rw [hT2] at htk
                          rw [htk, if_neg (by decide), List.append_nil] at HIa
                          have HEND := hid (And.intro (hol.mono (Nat.le_refl _) hsw) (And.intro hO (And.intro hB (Nat.le_trans hwa hsw))))
                          clear hp hb hO hB hT1 htk hol
                          go_wp2
                          go_roundw
                          case rel => exact ⟨a + 1, by go_num, by omega, by rw [HIa.out]; exact HEND.out.1, HEND.out.2.1, HEND.out.2.2.1, HEND.out.2.2.2⟩
                          case measure => simp [intOf] <;> omega
                      · have e1 : ((CN a b : Int) == (reach : Int)) = false := by rw [beq_eq_false_iff_ne]; omega
                        rw [decide_eq_false hT1, Bool.false_and] at htk
                        rw [htk, if_neg (by decide), List.append_nil] at HIa
                        have HEND := hid (And.intro (hol.mono (Nat.le_refl _) hsw) (And.intro hO (And.intro hB (Nat.le_trans hwa hsw))))
                        generalize hcnn : CN a b = cn at *
                        clear hp hb hO hB hT1 htk hol hpe hcnn
                        go_wp2
                        go_roundw
                        case rel => exact ⟨a + 1, by go_num, by omega, by rw [HIa.out]; exact HEND.out.1, HEND.out.2.1, HEND.out.2.2.1, HEND.out.2.2.2⟩
                        case measure => simp [intOf] <;> omega
                · obtain rfl : a = m := by omega
                  have hali : ¬ (a : Int) < (a : Int) := by omega
                  rw [← HOd.out] at hol
                  have HX := hid (And.intro hol (And.intro hO (And.intro hB hwa)))
                  clear hol hO hB
                  go_wp2
                  go_roundw
                  case rel => exact ⟨d + 1, by first | rfl | go_num, by omega, HX.out.1, HX.out.2.1, HX.out.2.2.1, HX.out.2.2.2⟩
                  case measure => simp [intOf] <;> omega
            · obtain rfl : d = m := by omega
              have hr0 : d - d = 0 := by omega
              have HX := hid (And.intro hol hB)
              clear hol hO hB
              go_wp2
              go_ret
              exact ⟨⟨_, rfl, HX.out.1.mono (by omega) (Nat.le_refl _)⟩, HX.out.2⟩
end Go.Proofs.Ythbpdfkaacgpoaa
