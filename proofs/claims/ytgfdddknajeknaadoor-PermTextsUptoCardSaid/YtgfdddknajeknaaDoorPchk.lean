/-
  What is wrong with a permutation: the walks over perm.Check and parterreref1.PermFault. Condition: the slice can be read.
-/
import Derived.Test.YtgfdddknajeknaaDoorBase
import Derived.BigQuiet
import Derived.RangeFuncBox
import Derived.Deep.MidRow
namespace Go.Proofs.YtgfdddknajeknaaDoor
set_option linter.unusedVariables false
open Go.RowKit

/-- A block that holds an array. -/
def Arr (w : World) (b : Nat) (t : TypeId) (xs : List Value) : Prop := w.heap[b]? = some (.cells xs.toArray t (0, 0))
theorem Arr.lt {w : World} {b : Nat} {t : TypeId} {xs : List Value} (h : Arr w b t xs) : b < w.heap.size := (Array.getElem?_eq_some_iff.1 h).1
theorem Arr.cell {w : World} {b : Nat} {t : TypeId} {xs : List Value} (h : Arr w b t xs) (i : Nat) : w.cell? ⟨b, i, none⟩ = xs[i]? := by simp [World.cell?, show w.heap[b]? = _ from h]
theorem Arr.frozen {w : World} {b : Nat} {t : TypeId} {xs : List Value} (h : Arr w b t xs) (i : Nat) : w.frozen? ⟨b, i, none⟩ = false := by simp [World.frozen?, show w.heap[b]? = _ from h]
theorem Arr.kept {w w' : World} {row : Option Nat} {b : Nat} {t : TypeId} {xs : List Value} (h : Arr w b t xs) (hg : w.grownBy w' row) (hne : some b ≠ row) : Arr w' b t xs := (hg.block b h.lt hne).trans h
theorem Arr.below {w w' : World} {b : Nat} {t : TypeId} {xs : List Value} (h : Arr w b t xs) (hb : Below w.heap.size w w') : Arr w' b t xs := (hb.block b h.lt).trans h
theorem Arr.alloc {w : World} {b : Nat} {t : TypeId} {xs : List Value} (h : Arr w b t xs) (o : Obj) : Arr (w.alloc o) b t xs := h.kept (World.grownBy_alloc w o none) (by simp)
theorem Arr.new (w : World) (t : TypeId) (xs : List Value) : Arr (w.alloc (.cells xs.toArray t)) w.heap.size t xs := World.alloc_heap_new w _
theorem Arr.stored {w : World} {b : Nat} {t : TypeId} {xs : List Value} (h : Arr w b t xs) (i : Nat) (v : Value) : Arr (w.setCell ⟨b, i, none⟩ v) b t (xs.set i v) ∧ w.grownBy (w.setCell ⟨b, i, none⟩ v) (some b) := by
  obtain ⟨hlt, hk⟩ := Array.getElem?_eq_some_iff.1 h
  refine ⟨?_, ⟨rfl, rfl, rfl, (KeepsWalks.setCell w _ v).size, fun k _ hk => Below.heap_setCell _ _ _ k (fun e => hk (by rw [e]))⟩⟩
  show (w.heap.modify b _)[b]? = _
  rw [Array.getElem?_eq_getElem (by rw [Array.size_modify]; exact hlt), Array.getElem_modify_self, hk]
  simp

theorem Arr.setCells {b : Nat} {t : TypeId} : ∀ (vs xs ys : List Value) (w : World), Arr w b t (xs ++ ys) → ys.length = vs.length → Arr (w.setCells b xs.length vs) b t (xs ++ vs)
  | [], xs, ys, w, h, hl => by
    obtain rfl : ys = [] := List.eq_nil_of_length_eq_zero hl
    exact h
  | v :: vs, xs, y :: ys, w, h, hl => by
    have h1 := (h.stored xs.length v).1
    rw [List.set_append_right _ _ (Nat.le_refl _), Nat.sub_self, List.set_cons_zero] at h1
    have h2 : Arr (w.setCell ⟨b, xs.length, none⟩ v) b t ((xs ++ [v]) ++ ys) := by simpa using h1
    have h3 := Arr.setCells vs (xs ++ [v]) ys _ h2 (by simpa using hl)
    rw [List.length_append] at h3
    simpa [World.setCells] using h3
theorem grown_setCells {b : Nat} : ∀ (vs : List Value) (o : Nat) (w : World), w.grownBy (w.setCells b o vs) (some b)
  | [], o, w => ⟨rfl, rfl, rfl, Nat.le_refl _, fun _ _ _ => rfl⟩
  | v :: vs, o, w => by
    have h1 : w.grownBy (w.setCell ⟨b, o, none⟩ v) (some b) := ⟨rfl, rfl, rfl, (KeepsWalks.setCell w _ v).size, fun k _ hk => Below.heap_setCell _ _ _ k (fun e => hk (by rw [e]))⟩
    have h2 := grown_setCells (b := b) vs (o + 1) (w.setCell ⟨b, o, none⟩ v)
    exact ⟨h2.os.trans h1.os, h2.tape.trans h1.tape, h2.output.trans h1.output, Nat.le_trans h1.size h2.size, fun k hk hne => (h2.block k (Nat.lt_of_lt_of_le hk h1.size) hne).trans (h1.block k hk hne)⟩
theorem Arr.range {w : World} {b : Nat} {t : TypeId} {xs : List Value} (h : Arr w b t xs) : w.rangeAt b 0 xs := fun j v hv => by rw [Nat.zero_add, h.cell]; exact hv
theorem Arr.there {w : World} {b : Nat} {t : TypeId} {xs : List Value} (h : Arr w b t xs) : w.there b 0 xs.length := fun j hj => by
  rw [Nat.zero_add, h.cell]
  exact ⟨by simp [hj], h.frozen j⟩

/-- Off the numbers below n. -/
def offN (n : Nat) (x : Int) : Bool := decide (x < 0) || decide ((n : Int) ≤ x)
/-- What is wrong with a list as a permutation. -/
def permE (l : List Int) : Int := if 12 < l.length then 3 else if l.any (offN l.length) then 1 else if l.Nodup then 0 else 6
/-- How often each number stands in a list. -/
def cntL (l : List Int) : List Value := (List.range 12).map fun c : Nat => Value.int .i64 ((l.count (c : Int) : Nat) : Int)
theorem cnt_get {l : List Int} {c : Nat} (h : c < 12) : (cntL l)[c]? = some (.int .i64 ((l.count (c : Int) : Nat) : Int)) := by simp [cntL, h]
theorem cnt_set {l : List Int} {c : Nat} (h : c < 12) : (cntL l).set c (.int .i64 ((l.count (c : Int) : Nat) + 1 : Int)) = cntL (l ++ [(c : Int)]) := by
  refine List.ext_getElem? fun i => ?_
  by_cases e : c = i
  · subst e
    rw [List.getElem?_set_self (by simpa [cntL] using h), cnt_get h, List.count_append]
    simp
  · rw [List.getElem?_set_ne e]
    by_cases hi : i < 12
    · rw [cnt_get hi, cnt_get hi, List.count_append]
      have : List.count (i : Int) [(c : Int)] = 0 := by rw [List.count_eq_zero]; simp; omega
      rw [this]
      rfl
    · simp [cntL, hi]
theorem cnt_nil : cntL [] = List.replicate 12 (.int .i64 0) := by rfl
/-- Numbers below n, none twice: each stands once at most. -/
theorem nodup_counts {l : List Int} {n : Nat} (h : ∀ x ∈ l, 0 ≤ x ∧ x < (n : Int)) : l.Nodup ↔ ∀ c : Nat, c < n → l.count (c : Int) ≤ 1 := by
  rw [List.nodup_iff_count]
  constructor
  · intro h1 c _
    exact h1 c
  · intro h1 x
    by_cases hx : x ∈ l
    · obtain ⟨h2, h3⟩ := h x hx
      obtain ⟨c, rfl⟩ : ∃ c : Nat, x = (c : Int) := ⟨x.toNat, by omega⟩
      exact h1 c (by omega)
    · rw [List.count_eq_zero.2 hx]; omega
theorem offN_true {n : Nat} {x : Int} (h : x < 0 ∨ (n : Int) ≤ x) : offN n x = true := by simp [offN]; exact h
theorem offN_false {n : Nat} {x : Int} : offN n x = false ↔ 0 ≤ x ∧ x < (n : Int) := by simp [offN]
theorem permE_big {l : List Int} (h : 12 < l.length) : permE l = 3 := by simp [permE, h]
theorem permE_off {l : List Int} {k : Nat} (h : ¬ 12 < l.length) (hk : k < l.length) (ho : offN l.length (l[k]?.getD 0) = true) : permE l = 1 := by
  have : l.any (offN l.length) = true := List.any_eq_true.2 ⟨l[k], List.getElem_mem hk, by simpa [hk] using ho⟩
  unfold permE
  rw [if_neg h, if_pos this]
theorem permE_in {l : List Int} (h : ¬ 12 < l.length) (ho : ∀ x ∈ l, 0 ≤ x ∧ x < (l.length : Int)) : permE l = if l.Nodup then 0 else 6 := by
  have : ¬ l.any (offN l.length) = true := by
    rw [List.any_eq_true]
    rintro ⟨x, hx, h1⟩
    rw [offN_false.2 (ho x hx)] at h1
    cases h1
  unfold permE
  rw [if_neg h, if_neg this]
theorem mem_of_below {l : List Int} {N k : Nat} (hN : l.length = N) (hk : k = N) (h : ∀ j : Nat, j < k → offN N (l[j]?.getD 0) = false) : ∀ x ∈ l, 0 ≤ x ∧ x < (N : Int) := by
  intro x hx
  obtain ⟨j, hj, rfl⟩ := List.mem_iff_getElem.1 hx
  have := h j (by omega)
  rw [List.getElem?_eq_getElem hj] at this
  exact offN_false.1 this

theorem check_any (v : Value) (l : List Int) (w : World) (hl : Sl w v l) :
    Calls Tryd.prog 14 #[v] w fun e w' => e = .returned (.int .i64 (permE l)) ∧ Below w.heap.size w w' := by
  obtain ⟨a, k, N, rfl, hN, hl1, hl2⟩ := hl.open
  by_cases h12 : 12 < N
  · have HE := hid (permE_big (l := l) (by rw [hN.out]; exact h12))
    clear hl
    go_enter Tryd.func14, Tryd.ntmps14
    go_wp2
    go_ret
    exact ⟨by rw [HE.out]; rfl, Below.refl _ _⟩
  · have HO := hid (fun (j : Nat) (h : j < N) (ho : offN N (l[j]?.getD 0) = true) => permE_off (l := l) (k := j) (by rw [hN.out]; exact h12) (by rw [hN.out]; exact h) (by rw [hN.out]; exact ho))
    have HI := hid (fun (h : ∀ x ∈ l, 0 ≤ x ∧ x < (N : Int)) => permE_in (l := l) (by rw [hN.out]; exact h12) (by rw [hN.out]; exact h))
    clear hl
    go_enter Tryd.func14, Tryd.ntmps14
    go_wp2
    have hA : Arr (w.alloc (.cells (List.replicate 12 (Value.int .i64 0)).toArray 48)) w.heap.size 48 (cntL (l.take 0)) := Arr.new w _ _
    have hb0 : Below w.heap.size w (w.alloc (.cells (List.replicate 12 (Value.int .i64 0)).toArray 48)) := (Below.refl _ _).alloc (Nat.le_refl _) _
    go_loopw [13] (fun i wr => ∃ k : Nat, k ≤ N ∧ i = .int .i64 k ∧ Arr wr w.heap.size 48 (cntL (l.take k)) ∧ Hid (∀ j : Nat, j < k → offN N (l[j]?.getD 0) = false) ∧ Below w.heap.size w wr) (fun i _ => N - (intOf i).toNat)
    case atStart => exact ⟨0, Nat.zero_le _, rfl, hA, hid (fun j hj => by omega), hb0⟩
    case round =>
      obtain ⟨k, hk, rfl, hA', hno, hb⟩ := hrel
      clear hA hb0
      by_cases hlt : k < N
      · obtain ⟨b, off, rfl, hb1, hc⟩ := hl2 (by omega)
        have c1 := (hb.cell (p := ⟨b, off + k, none⟩) hb1).trans (hc k hlt)
        by_cases h1 : l[k]?.getD 0 < 0
        · have HP := hid (HO.out k hlt (offN_true (.inl h1)))
          clear hl2 hc hA'
          go_wp2
          go_ret
          exact ⟨by rw [HP.out]; rfl, hb⟩
        by_cases h2 : (N : Int) ≤ l[k]?.getD 0
        · have HP := hid (HO.out k hlt (offN_true (.inr h2)))
          clear hl2 hc hA'
          go_wp2
          go_ret
          exact ⟨by rw [HP.out]; rfl, hb⟩
        · obtain ⟨c, hcc⟩ : ∃ c : Nat, l[k]?.getD 0 = (c : Int) := ⟨(l[k]?.getD 0).toNat, by omega⟩
          have hcN : c < N := by omega
          have hx := hA'.cell c
          rw [cnt_get (by omega)] at hx
          have hf := hA'.frozen c
          have hcnt : (l.take k).count (c : Int) ≤ k := Nat.le_trans List.count_le_length (by simp; omega)
          obtain ⟨hs1, hs2⟩ := hA'.stored c (.int .i64 (((l.take k).count (c : Int) : Nat) + 1 : Int))
          have hk1 : l.take (k + 1) = l.take k ++ [(c : Int)] := by
            have hkl : k < l.length := by rw [hN.out]; exact hlt
            rw [List.getElem?_eq_getElem hkl, Option.getD_some] at hcc
            rw [List.take_add_one, List.getElem?_eq_getElem hkl, hcc]
            rfl
          rw [cnt_set (by omega), ← hk1] at hs1
          have HS := hid (And.intro hs1 (hb.grown hs2 hb.size (fun k' e => by cases e; exact Nat.le_refl _)))
          have HNO : Hid (∀ j : Nat, j < k + 1 → offN N (l[j]?.getD 0) = false) := hid (fun j hj => by
            by_cases e : j = k
            · rw [e, hcc]; exact offN_false.2 ⟨by omega, by omega⟩
            · exact hno.out j (by omega))
          rw [hcc] at c1
          clear hl2 hc hA' h1 h2 hno hs1 hs2 hk1 hcc
          generalize (l.take k).count (c : Int) = m at *
          go_wp2
          go_roundw
          case rel => exact ⟨k + 1, by omega, by go_num, HS.out.1, HNO, HS.out.2⟩
          case measure => simp [intOf] <;> omega
      · obtain rfl : N = k := by omega
        have hmem := mem_of_below hN.out rfl hno.out
        have HE := hid (HI.out hmem)
        have HND := hid (nodup_counts hmem)
        have ht : l.take N = l := List.take_of_length_le (by rw [hN.out]; exact Nat.le_refl _)
        rw [ht] at hA'
        have HA := hid hA'
        have HB := hid hb
        have HCL := hid (fun c : Nat => Nat.le_trans (List.count_le_length (a := (c : Int)) (l := l)) (by rw [hN.out]; exact Nat.le_refl _))
        clear hA' hb hmem ht hno
        go_wp2
        go_loopw [35] (fun i w' => ∃ j : Nat, j ≤ N ∧ i = .int .i64 j ∧ w' = wr ∧ Hid (∀ c : Nat, c < j → l.count (c : Int) ≤ 1)) (fun i _ => N - (intOf i).toNat)
        case atStart => exact ⟨0, Nat.zero_le _, rfl, rfl, hid (fun c hc => by omega)⟩
        case round =>
          obtain ⟨j, hj, rfl, rfl, hone⟩ := hrel
          by_cases hjN : j < N
          · have hx := HA.out.cell j
            rw [cnt_get (by omega)] at hx
            have hcl := HCL.out j
            by_cases h1 : l.count (j : Int) ≤ 1
            · have HNO : Hid (∀ c : Nat, c < j + 1 → l.count (c : Int) ≤ 1) := hid (fun c hc => by
                by_cases e : c = j
                · rw [e]; exact h1
                · exact hone.out c (by omega))
              clear hone
              generalize l.count (j : Int) = m at *
              go_wp2
              go_roundw
              case rel => exact ⟨j + 1, by omega, by go_num, by simp, HNO⟩
              case measure => simp [intOf] <;> omega
            · have HP : Hid (permE l = 6) := hid (by rw [HE.out, if_neg]; intro h; exact h1 (HND.out.1 h j hjN))
              clear hone
              generalize l.count (j : Int) = m at *
              go_wp2
              go_ret
              exact ⟨by rw [HP.out]; rfl, HB.out⟩
          · obtain rfl : N = j := by omega
            have HP : Hid (permE l = 0) := hid (by rw [HE.out, if_pos (HND.out.2 hone.out)])
            go_wp2
            go_ret
            exact ⟨by rw [HP.out]; rfl, HB.out⟩

/-- Two alike, the one behind the other. -/
theorem nodup_pairs {l : List Int} {N : Nat} (hN : l.length = N) : l.Nodup ↔ ∀ i j : Nat, i < N → j < i → l[i]?.getD 0 ≠ l[j]?.getD 0 := by
  rw [List.nodup_iff_pairwise_ne, List.pairwise_iff_getElem]
  constructor
  · intro h i j hi hj
    have := h j i (by omega) (by omega) hj
    rw [List.getElem?_eq_getElem (by omega), List.getElem?_eq_getElem (by omega)]
    exact fun e => this e.symm
  · intro h j i h1 h2 hj e
    have := h i j (by omega) hj
    rw [List.getElem?_eq_getElem h2, List.getElem?_eq_getElem h1] at this
    exact this e.symm

theorem permfault_any (v : Value) (l : List Int) (w : World) (hl : Sl w v l) :
    Calls Tryd.prog 5 #[v] w fun e w' => e = .returned (.int .i64 (permE l)) ∧ ∃ n, w' = w.drewN n := by
  obtain ⟨a, k, N, rfl, hN, hl1, hl2⟩ := hl.open
  by_cases h12 : 12 < N
  · have HE := hid (permE_big (l := l) (by rw [hN.out]; exact h12))
    clear hl
    go_enter Tryd.func5, Tryd.ntmps5
    go_wp2
    go_ret
    exact ⟨by rw [HE.out]; rfl, 0, rfl⟩
  · have HO := hid (fun (j : Nat) (h : j < N) (ho : offN N (l[j]?.getD 0) = true) => permE_off (l := l) (k := j) (by rw [hN.out]; exact h12) (by rw [hN.out]; exact h) (by rw [hN.out]; exact ho))
    have HI := hid (fun (h : ∀ x ∈ l, 0 ≤ x ∧ x < (N : Int)) => permE_in (l := l) (by rw [hN.out]; exact h12) (by rw [hN.out]; exact h))
    have HND := hid (nodup_pairs hN.out)
    clear hl
    go_enter Tryd.func5, Tryd.ntmps5
    go_wp2
    go_loop [3] (fun i => ∃ k : Nat, k ≤ N ∧ i = .int .i64 k ∧ Hid (∀ j : Nat, j < k → offN N (l[j]?.getD 0) = false)) (fun i => N - (intOf i).toNat)
    case atStart => exact ⟨0, Nat.zero_le _, rfl, hid (fun j hj => by omega)⟩
    case round =>
      obtain ⟨k, hk, rfl, hno⟩ := hrel
      by_cases hlt : k < N
      · obtain ⟨b, off, rfl, hb1, hc⟩ := hl2 (by omega)
        have c1 := hc k hlt
        by_cases h1 : l[k]?.getD 0 < 0
        · have HP := hid (HO.out k hlt (offN_true (.inl h1)))
          clear hl2 hc
          go_wp2
          go_ret
          exact ⟨by rw [HP.out]; rfl, 0, rfl⟩
        by_cases h2 : (N : Int) ≤ l[k]?.getD 0
        · have HP := hid (HO.out k hlt (offN_true (.inr h2)))
          clear hl2 hc
          go_wp2
          go_ret
          exact ⟨by rw [HP.out]; rfl, 0, rfl⟩
        · have HNO : Hid (∀ j : Nat, j < k + 1 → offN N (l[j]?.getD 0) = false) := hid (fun j hj => by
            by_cases e : j = k
            · rw [e]; exact offN_false.2 ⟨by omega, by omega⟩
            · exact hno.out j (by omega))
          clear hl2 hc hno
          go_wp2
          go_round
          case rel => exact ⟨k + 1, by omega, by go_num, HNO⟩
          case measure => simp [intOf] <;> omega
      · obtain rfl : N = k := by omega
        have HE := hid (HI.out (mem_of_below hN.out rfl hno.out))
        clear hno
        go_wp2
        go_loopw [4, 5] (fun i _ w' => ∃ j m : Nat, j ≤ N ∧ i = .int .i64 j ∧ w' = w.drewN m ∧ Hid (∀ c d : Nat, c < j → d < c → l[c]?.getD 0 ≠ l[d]?.getD 0)) (fun i _ _ => N - (intOf i).toNat)
        case atStart => exact ⟨0, 0, Nat.zero_le _, rfl, rfl, hid (fun c d hc _ => by omega)⟩
        case round =>
          obtain ⟨j, m, hj, rfl, rfl, hone⟩ := hrel
          by_cases hjN : j < N
          · go_wp2
            go_loopw [5] (fun i w' => ∃ t m : Nat, t ≤ j ∧ i = .int .i64 t ∧ w' = w.drewN m ∧ Hid (∀ d : Nat, d < t → l[j]?.getD 0 ≠ l[d]?.getD 0)) (fun i _ => j - (intOf i).toNat)
            case atStart => exact ⟨0, m, Nat.zero_le _, rfl, rfl, hid (fun d hd => by omega)⟩
            case round =>
              obtain ⟨t, m2, ht, rfl, rfl, hin⟩ := hrel
              by_cases htj : t < j
              · obtain ⟨b, off, rfl, hb1, hc⟩ := hl2 (by omega)
                have c1 := hc j hjN
                have c2 := hc t (by omega)
                by_cases he : l[j]?.getD 0 = l[t]?.getD 0
                · have HP : Hid (permE l = 6) := hid (by rw [HE.out, if_neg]; intro h; exact HND.out.1 h j t hjN htj he)
                  have hbe : (l[j]?.getD 0 == l[t]?.getD 0) = true := by simpa using he
                  clear hl2 hc hin hone he
                  generalize l[j]?.getD 0 = x at *
                  generalize l[t]?.getD 0 = y at *
                  go_wp2
                  go_quiet (fail)
                  go_wp2
                  go_ret
                  exact ⟨by rw [HP.out]; rfl, m2 + nq, by rw [World.drewN_drewN]⟩
                · have hbe : (l[j]?.getD 0 == l[t]?.getD 0) = false := by simpa using he
                  have HIN : Hid (∀ d : Nat, d < t + 1 → l[j]?.getD 0 ≠ l[d]?.getD 0) := hid (fun d hd => by
                    by_cases e : d = t
                    · rw [e]; exact he
                    · exact hin.out d (by omega))
                  clear hl2 hc hin hone he
                  generalize l[j]?.getD 0 = x at *
                  generalize l[t]?.getD 0 = y at *
                  go_wp2
                  go_quiet (fail)
                  go_wp2
                  go_roundw
                  case rel => exact ⟨t + 1, m2 + nq, by omega, by go_num, rfl, HIN⟩
                  case measure => simp [intOf] <;> omega
              · obtain rfl : j = t := by omega
                have HNO : Hid (∀ c d : Nat, c < j + 1 → d < c → l[c]?.getD 0 ≠ l[d]?.getD 0) := hid (fun c d hc hd => by
                  by_cases e : c = j
                  · rw [e]; exact hin.out d (by omega)
                  · exact hone.out c d (by omega) hd)
                clear hl2 hin hone
                go_wp2
                go_roundw
                case rel => exact ⟨j + 1, m2, by omega, by go_num, rfl, HNO⟩
                case measure => simp [intOf] <;> omega
          · obtain rfl : N = j := by omega
            have HP : Hid (permE l = 0) := hid (by rw [HE.out, if_pos (HND.out.2 (fun i j hi hj => hone.out i j hi hj))])
            go_wp2
            go_ret
            exact ⟨by rw [HP.out]; rfl, m, rfl⟩
end Go.Proofs.YtgfdddknajeknaaDoor
