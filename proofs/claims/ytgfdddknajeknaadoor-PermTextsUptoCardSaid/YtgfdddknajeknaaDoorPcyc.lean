/-
  The walk over perm.cycles. Condition: the slice can be read and is a permutation.
-/
import Derived.Test.YtgfdddknajeknaaDoorPchk
import Derived.Test.YtgfdddknajeknaaDoorPm
import Derived.Test.YtgfdddknajeknaaDoorOl
namespace Go.Proofs.YtgfdddknajeknaaDoor
set_option linter.unusedVariables false
open Go.RowKit

def fL (l : List Int) (c : Nat) : Nat := (l[c]?.getD 0).toNat
structure PmL (l : List Int) (N : Nat) (f : Nat → Nat) : Prop where
  len : l.length = N
  n12 : N ≤ 12
  pm : Pm N f
  at' : ∀ c, c < N → l[c]?.getD 0 = (f c : Int)
theorem pm_of {l : List Int} (h : permE l = 0) : PmL l l.length (fL l) := by
  unfold permE at h
  by_cases h1 : 12 < l.length
  · rw [if_pos h1] at h; simp at h
  rw [if_neg h1] at h
  by_cases h2 : l.any (offN l.length) = true
  · rw [if_pos h2] at h; simp at h
  rw [if_neg h2] at h
  by_cases h3 : l.Nodup
  · have hb : ∀ c : Nat, c < l.length → 0 ≤ l[c]?.getD 0 ∧ l[c]?.getD 0 < (l.length : Int) := fun c hc => by
      have h4 : offN l.length (l[c]?.getD 0) = false := by
        cases e : offN l.length (l[c]?.getD 0) with
        | false => rfl
        | true => exact absurd (List.any_eq_true.2 ⟨l[c], List.getElem_mem hc, by simpa [hc] using e⟩) h2
      exact offN_false.1 h4
    refine ⟨rfl, by omega, ⟨fun i hi => ?_, fun i j hi hj e => ?_⟩, fun c hc => ?_⟩
    · have := hb i hi
      unfold fL; omega
    · have a1 := hb i hi
      have a2 := hb j hj
      have e2 : l[i]?.getD 0 = l[j]?.getD 0 := by unfold fL at e; omega
      have hp := (nodup_pairs (l := l) rfl).1 h3
      rcases Nat.lt_trichotomy i j with h | h | h
      · exact absurd e2.symm (hp j i hj h)
      · exact h
      · exact absurd e2 (hp i j hi h)
    · have := hb c hc
      unfold fL; omega
  · rw [if_neg h3] at h; simp at h

def boolL (S : Nat → Bool) : List Value := (List.range 12).map fun x => .bool (S x)
theorem boolL_get {S : Nat → Bool} {c : Nat} (h : c < 12) : (boolL S)[c]? = some (.bool (S c)) := by simp [boolL, h]
theorem boolL_set {S : Nat → Bool} {c : Nat} (h : c < 12) : (boolL S).set c (.bool true) = boolL (fun x => x == c || S x) := by
  refine List.ext_getElem? fun i => ?_
  by_cases e : c = i
  · subst e
    rw [List.getElem?_set_self (by simpa [boolL] using h), boolL_get h]
    simp
  · rw [List.getElem?_set_ne e]
    by_cases hi : i < 12
    · rw [boolL_get hi, boolL_get hi]
      have : (i == c) = false := by simp; omega
      rw [this]; rfl
    · simp [boolL, hi]
def intsL (L : List Nat) : List Int := L.map fun x : Nat => (x : Int)
theorem intsL_snoc (L : List Nat) (x : Nat) : intsL (L ++ [x]) = intsL L ++ [(x : Int)] := by simp [intsL]
theorem intsL_len (L : List Nat) : (intsL L).length = L.length := by simp [intsL]
def lenV : Value → Nat
  | .slice _ n _ => n
  | _ => 0

set_option maxHeartbeats 1000000 in
theorem cycles_ok (v : Value) (l : List Int) (N : Nat) (f : Nat → Nat) (w : World) (hl : Sl w v l) (P : PmL l N f) :
    Calls Tryd.prog 15 #[v] w fun e w' => (∃ u, e = .returned u ∧ OL w.heap.size w'.heap.size w' u ((cycL f N N).map intsL)) ∧ Below w.heap.size w w' := by
  obtain ⟨a, cp, N', rfl, hN, hl1, hl2⟩ := hl.open
  obtain rfl : N' = N := by rw [← hN.out, P.len]
  have h12 := P.n12
  have HPM := hid P.pm
  have HAT := hid P.at'
  have HLT := hid (fun i (hi : i < N') k => P.pm.it_lt hi k)
  clear hl P
  go_enter Tryd.func15, Tryd.ntmps15
  go_wp2
  have hA : Arr (w.alloc (.cells (boolL fun _ => false).toArray 49)) w.heap.size 49 (boolL fun _ => false) := Arr.new w _ _
  have hb0 : Below w.heap.size w (w.alloc (.cells (boolL fun _ => false).toArray 49)) := (Below.refl _ _).alloc (Nat.le_refl _) _
  go_loopw [3, 10] (fun o i wr => ∃ (k : Nat) (S : Nat → Bool), k ≤ N' ∧ i = .int .i64 k ∧ Arr wr w.heap.size 49 (boolL S) ∧ Hid (∀ x, x < N' → (S x = true ↔ ∃ j, j < k ∧ Reach f j x)) ∧ OL (w.heap.size + 1) wr.heap.size wr o ((cycL f N' k).map intsL) ∧ Below w.heap.size w wr) (fun _ i _ => N' - (intOf i).toNat)
  case atStart => exact ⟨0, fun _ => false, Nat.zero_le _, rfl, hA, hid (fun x _ => Iff.intro (fun h => by cases h) (fun ⟨j, hj, _⟩ => absurd hj (by omega))), OL.nil _ _ _, hb0⟩
  case round =>
    obtain ⟨k, S, hk, rfl, hA', hS, ho, hb⟩ := hrel
    clear hA hb0
    by_cases hlt : k < N'
    · have hCS := hid (cycL_succ f N' k)
      cases hlead : leadB f N' k with
      | false =>
        rw [hlead] at hCS
        have hSk : S k = true := (hS.out k hlt).2 (HPM.out.lead_not hlt hlead)
        have hcell := hA'.cell k
        rw [boolL_get (by omega), hSk] at hcell
        have HX := hid (And.intro hA' (And.intro ho hb))
        have HSS : Hid (∀ x, x < N' → (S x = true ↔ ∃ j, j < k + 1 ∧ Reach f j x)) := hid (fun x hx => by
          rw [hS.out x hx]
          constructor
          · rintro ⟨j, hj, hr⟩; exact ⟨j, by omega, hr⟩
          · rintro ⟨j, hj, hr⟩
            by_cases e : j = k
            · subst e
              obtain ⟨j2, hj2, hr2⟩ := (hS.out j hlt).1 hSk
              exact ⟨j2, hj2, hr2.trans hr⟩
            · exact ⟨j, by omega, hr⟩)
        clear hA' ho hb hS hSk
        obtain ⟨w0, rfl⟩ : ∃ w0, w0 = wr := ⟨wr, rfl⟩
        go_wp2
        go_loopw [6, 7] (fun q x wq => q = .slice none 0 0 ∧ x = .int .i64 k ∧ wq = w0) (fun _ _ _ => 0)
        case atStart => exact ⟨rfl, rfl, rfl⟩
        case round =>
          obtain ⟨rfl, rfl, rfl⟩ := hrel
          go_wp2
          go_roundw
          case rel => exact ⟨k + 1, S, by omega, by go_num, HX.out.1, HSS, by rw [hCS.out]; simpa using HX.out.2.1, HX.out.2.2⟩
          case measure => simp [intOf] <;> omega
      | true =>
        rw [hlead] at hCS
        have hno := (HPM.out.lead_iff hlt).1 hlead
        obtain ⟨-, hm1, hm2, -⟩ := HPM.out.per_spec hlt
        have HBACK := hid (HPM.out.per_spec hlt).1
        have HUN := hid (fun a b (hb : b < per f N' k) (hab : a < b) => HPM.out.it_unlike hlt hb hab)
        have HRE := hid (fun x (h : Reach f k x) => HPM.out.reach_small hlt h)
        generalize per f N' k = m at *
        have HOS := hid (orb_succ f)
        have HOL := hid (orb_len f)
        have HO0 : Hid (orb f 0 k = []) := hid rfl
        have hbs := hb.size
        have hlw := hA'.lt
        obtain ⟨w0, rfl⟩ : ∃ w0, w0 = wr := ⟨wr, rfl⟩
        have HX := hid (And.intro hA' (And.intro ho hb))
        clear hA' ho hb
        go_wp2
        go_loopw [6, 7] (fun q x wq => ∃ (t : Nat) (S' : Nat → Bool), t ≤ m ∧ x = .int .i64 (it f t k) ∧ OI w0.heap.size wq q (intsL (orb f t k)) ∧ Arr wq w.heap.size 49 (boolL S') ∧ Hid (∀ y, y < N' → (S' y = true ↔ (∃ j, j < k ∧ Reach f j y) ∨ ∃ a, a < t ∧ y = it f a k)) ∧ OL (w.heap.size + 1) w0.heap.size wq u3 ((cycL f N' k).map intsL) ∧ Below w.heap.size w wq ∧ w0.heap.size ≤ wq.heap.size) (fun q _ _ => m - lenV q)
        case atStart => exact ⟨0, S, Nat.zero_le _, rfl, by rw [HO0.out]; exact OI.nil _ _, HX.out.1, hid (fun y hy => by
          rw [hS.out y hy]
          exact ⟨fun h => .inl h, fun h => h.resolve_right (fun ⟨a, ha, _⟩ => absurd ha (by omega))⟩), HX.out.2.1, HX.out.2.2, Nat.le_refl _⟩
        case round =>
          obtain ⟨t, S', ht, rfl, hq, hA, hS', hol, hb, hsz⟩ := hrel
          have hxN := HLT.out k hlt t
          have hcell := hA.cell (it f t k)
          rw [boolL_get (by omega)] at hcell
          by_cases htm : t < m
          · have hSx : S' (it f t k) = false := by
              cases e : S' (it f t k) with
              | false => rfl
              | true =>
                exfalso
                rcases (hS'.out _ hxN).1 e with ⟨j, hj, hr⟩ | ⟨a, ha, he⟩
                · exact hno j hj (hr.trans (HPM.out.reach_symm hlt ⟨t, rfl⟩))
                · exact HUN.out a t htm ha he.symm
            rw [hSx] at hcell
            have hfz := hA.frozen (it f t k)
            obtain ⟨hA1, hg1⟩ := hA.stored (it f t k) (.bool true)
            rw [boolL_set (by omega)] at hA1
            have hq1 := hq.kept hg1 (by
              cases e : u6.ownBlock with
              | none => exact .inl rfl
              | some b => right; intro e2; have := (hq.lt b e).1; simp at e2; omega)
            have hol1 := hol.kept hg1 (fun b e => by cases e; exact .inl (by omega))
            have hb1 := hb.grown hg1 hb.size (fun b e => by cases e; exact Nat.le_refl _)
            have hsz1 : w0.heap.size ≤ (wr.setCell ⟨w.heap.size, it f t k, none⟩ (.bool true)).heap.size := Nat.le_trans hsz hg1.size
            obtain ⟨qa, qc, hqe⟩ := hq1.len
            have hlenq : (intsL (orb f t k)).length = t := by rw [intsL_len, orb_len]
            have hlq : (intsL (orb f t k)).length ≤ 1000000000000 := by rw [hlenq]; omega
            obtain ⟨b, off, rfl, hblt, hc⟩ := hl2 (by omega)
            have hca := hc (it f t k) hxN
            rw [HAT.out _ hxN] at hca
            have HS2 : Hid (∀ y, y < N' → ((y == it f t k || S' y) = true ↔ (∃ j, j < k ∧ Reach f j y) ∨ ∃ a, a < t + 1 ∧ y = it f a k)) := hid (fun y hy => by
              rw [Bool.or_eq_true, hS'.out y hy, beq_iff_eq]
              constructor
              · rintro (h | h | ⟨a, ha, he⟩)
                · exact .inr ⟨t, by omega, h⟩
                · exact .inl h
                · exact .inr ⟨a, by omega, he⟩
              · rintro (h | ⟨a, ha, he⟩)
                · exact .inr (.inl h)
                · by_cases e : a = t
                  · subst e; exact .inl he
                  · exact .inr (.inr ⟨a, by omega, he⟩))
            have HOT := hid (HOS.out t k)
            have HIT : Hid (it f (t + 1) k = f (it f t k)) := hid rfl
            have HLQ := hid hlenq
            clear hq hA hS' hol hg1 hb hSx hc hl2 hlenq
            generalize it f t k = x at *
            go_wp2_with (at_builtin; refine wpList_appi (wr.setCell ⟨w.heap.size, x, none⟩ (.bool true)) _ _ 22 rfl rfl Tryd.underlying22 Tryd.info3 w0.heap.size _ _ rfl hq1 rfl hlq hsz1 ?_; intro g c w1 hown1 hg1 hg2 hg3; have hb2 := (hq1.mono (Nat.le_of_lt hlw)).grown hb1 hg1 (Nat.le_trans (Nat.le_of_lt hlw) hsz1); have c2 := (hb2.cell (p := ⟨b, off + x, none⟩) hblt).trans hca)
            go_roundw
            case rel => exact ⟨t + 1, _, by omega, by rw [HIT.out], hown1.cast (by rw [HOT.out, intsL_snoc]), hA1.kept hg1 (by
              intro e
              have := (hq1.lt w.heap.size e.symm).1
              omega), HS2, hol1.kept hg1 (fun b' e => .inr (hq1.lt b' e).1), hb2, Nat.le_trans hsz1 hg1.size⟩
            case measure => rw [hqe]; simp only [lenV, HLQ.out]; omega
          · obtain rfl : m = t := by omega
            have hSx : S' (it f m k) = true := (hS'.out _ hxN).2 (.inr ⟨0, by omega, HBACK.out⟩)
            rw [hSx] at hcell
            have HSS : Hid (∀ y, y < N' → (S' y = true ↔ ∃ j, j < k + 1 ∧ Reach f j y)) := hid (fun y hy => by
              rw [hS'.out y hy]
              constructor
              · rintro (⟨j, hj, hr⟩ | ⟨a, ha, he⟩)
                · exact ⟨j, by omega, hr⟩
                · exact ⟨k, by omega, a, he⟩
              · rintro ⟨j, hj, hr⟩
                by_cases e : j = k
                · subst e; exact .inr (HRE.out y hr)
                · exact .inl ⟨j, by omega, hr⟩)
            obtain ⟨qa, qc, hqe⟩ := hq.len
            have hlenq : (intsL (orb f m k)).length = m := by rw [intsL_len, orb_len]
            rw [hlenq] at hqe
            subst hqe
            have HQ := hid hq
            have HA := hid hA
            have HB := hid hb
            have hco := hol.len
            have hlc : ((cycL f N' k).map intsL).length ≤ k := by
              rw [List.length_map]
              unfold cycL
              rw [List.length_map]
              exact Nat.le_trans (List.length_filter_le _ _) (by simp)
            obtain ⟨vs, o1, o2, o3, o4⟩ := hol
            have hvs : vs.length ≤ 1000000000000 := by omega
            have HO2 := hid o2
            have HO3 := hid o3
            have HO4 := hid o4
            have hB : w.heap.size + 1 ≤ wr.heap.size := by omega
            have HCS2 : Hid (cycL f N' (k + 1) = cycL f N' k ++ [orb f m k]) := hid (by rw [hCS.out]; rfl)
            clear hq hA hb hlenq hS' hSx o2 o3 o4 hco hlc hCS
            generalize it f m k = x at *
            go_wp2_with (at_builtin; refine wpList_app wr _ _ 37 22 (.slice none 0 0) 24 rfl rfl Tryd.underlying37 Tryd.info22 rfl (by decide) (w.heap.size + 1) _ vs rfl o1 rfl rfl hvs hB ?_; intro g c w1 hown1 hg1 hg2 hg3)
            go_roundw
            case rel =>
              have hol2 := OL.snoc o1 HO2.out HO3.out HO4.out HQ.out (by omega) hown1 hg1
              refine ⟨k + 1, S', by omega, by go_num, HA.out.kept hg1 ?_, HSS, by rw [HCS2.out, List.map_append]; exact hol2, ?_⟩
              · intro e
                have := (o1.lt w.heap.size e.symm).1
                omega
              · exact HB.out.grown hg1 HB.out.size (fun b e => by have := (o1.lt b e).1; omega)
            case measure => simp [intOf] <;> omega
    · obtain rfl : N' = k := by omega
      have HX := hid (And.intro ho hb)
      clear hA' ho hb hS
      go_wp2
      go_ret
      exact ⟨⟨_, rfl, HX.out.1.mono (by omega) (Nat.le_refl _)⟩, HX.out.2⟩
end Go.Proofs.YtgfdddknajeknaaDoor
