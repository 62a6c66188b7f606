/-
  As Dag; what is kept of the world is named: J holds of every world on the way, T binds a step's two worlds. Conditions as the law states them.
-/
import Derived.Test.YtnbgnoimanpjnaaDag
namespace Go.Proofs.Ytnbgnoimanpjnaa
set_option linter.unusedVariables false
open Go.RowKit

/-- What a step of the head is to do. -/
def StepJ (P : Program) (ops : Array Oper) (ds : List Nat) (R : Nat → Value → World → Prop) (J : World → Prop) (T : World → World → Prop) (Q : Exit → Act → World → Prop) (a0 : Act) (k : Nat) (o : Oper) : Prop :=
  ∀ (a : Act) (w : World) (K : Act → World → Prop), J w → (∀ t, ds.contains t = false → a.tmps.getD t undef = a0.tmps.getD t undef) →
    (∀ j, j < ds.length → Region.waitsFor .any ops k j = true → R j (a.tmps.getD (ds.getD j 0) undef) w) →
    (∀ v w', R k v w' → J w' → T w w' → K (a.put o.dst v) w') → Oper.wp P o a w K Q
def StepsJ (P : Program) (ops : Array Oper) (ds : List Nat) (R : Nat → Value → World → Prop) (J : World → Prop) (T : World → World → Prop) (Q : Exit → Act → World → Prop) (a0 : Act) : Nat → List Oper → Prop
  | _, [] => True
  | k, o :: os => StepJ P ops ds R J T Q a0 k o ∧ StepsJ P ops ds R J T Q a0 (k + 1) os
theorem StepsJ.get {P : Program} {ops : Array Oper} {ds : List Nat} {R : Nat → Value → World → Prop} {J : World → Prop} {T : World → World → Prop} {Q : Exit → Act → World → Prop} {a0 : Act} : ∀ (os : List Oper) (k i : Nat) (o : Oper), StepsJ P ops ds R J T Q a0 k os → os[i]? = some o → StepJ P ops ds R J T Q a0 (k + i) o := by
  intro os
  induction os with
  | nil => intro k i o h e; simp at e
  | cons x os ih =>
    intro k i o h e
    rw [StepsJ] at h
    cases i with
    | zero =>
      rw [List.getElem?_cons_zero] at e
      cases e
      rw [Nat.add_zero]
      exact h.1
    | succ i =>
      rw [List.getElem?_cons_succ] at e
      have := ih (k + 1) i o h.2 e
      rw [show k + 1 + i = k + (i + 1) by omega] at this
      exact this
theorem region_dagJ {P : Program} {Q : Exit → Act → World → Prop} {id : Nat} {a0 : Act} {w : World} {l : List Oper} (ds : List Nat) (R : Nat → Value → World → Prop) (J : World → Prop) (T : World → World → Prop) (hm : P.follows .mixedOrders = true) (hB : dagB l ds = true)
    (hsz : ∀ d ∈ ds, d < a0.tmps.size)
    (hkeep : ∀ j v w1 w2, R j v w1 → J w1 → J w2 → T w1 w2 → R j v w2) (hJ0 : J w.drew)
    (hstep : StepsJ P l.toArray ds R J T Q a0 0 (l.take ds.length))
    (hend : ∀ vals w', (∀ j, j < ds.length → R j (vals j) w') → J w' → wpList P l.toArray Q (l.drop ds.length) (putAll vals 0 ds a0) w') : (Code.region id l.toArray true).wp P Q a0 w := by
  simp only [dagB, Bool.and_eq_true, decide_eq_true_eq, beq_iff_eq] at hB
  obtain ⟨⟨⟨⟨⟨⟨⟨hn, hs⟩, hc⟩, hseq⟩, hdst⟩, hgd⟩, hnd⟩, hfw⟩ := hB
  have hn' : ds.length < l.toArray.size := by simpa using hn
  refine wp_region_any hm ?_
  have main : ∀ (f : Nat) (listed : Array Bool) (a : Act) (w1 : World), HeadInv .any l.toArray ds.length listed → ((List.range ds.length).filter (fun j => !listed.getD j false)).length = f →
      (∃ vals, a = putL vals (fun j => listed.getD j false) 0 ds a0 ∧ (∀ j, j < ds.length → listed.getD j false = true → R j (vals j) w1) ∧ J w1) → wpAny P .any l.toArray Q (f + (l.length - ds.length)) listed a w1 := by
    intro f
    induction f with
    | zero =>
      rintro listed a w1 inv hf ⟨vals, rfl, hR, hb⟩
      have hall : ∀ j, j < ds.length → listed.getD j false = true := fun j hj => by
        have h0 := List.eq_nil_of_length_eq_zero hf
        rw [List.filter_eq_nil_iff] at h0
        have := h0 j (List.mem_range.2 hj)
        simpa using this
      have hl : listed = firstB l.length ds.length := by
        refine Array.ext (by rw [inv.size]; simp [firstB]) fun j h1 h2 => ?_
        have e2 : (firstB l.length ds.length)[j] = decide (j < ds.length) := by simp [firstB]
        rw [e2]
        by_cases hj : j < ds.length
        · have := hall j hj
          simp only [hj, decide_true]
          simpa [h1] using this
        · have := inv.tail j (by omega) (by rw [← inv.size]; exact h1)
          simp only [hj, decide_false]
          simpa [h1] using this
      rw [Nat.zero_add]
      have h3 := wpAny_of_seq (P := P) (md := .any) (ops := l.toArray) (Q' := Q) (l.drop ds.length) ds.length (firstB l.length ds.length) (putAll vals 0 ds a0) w1 (fun j => by simp [List.getElem?_drop]) (by rw [List.length_drop]; exact hseq) (hend vals w1 (fun j hj => hR j hj (hall j hj)) hb)
      rw [List.length_drop] at h3
      rw [putL_all vals _ ds 0 a0 (fun j _ hj => hall j (by omega)), hl]
      exact h3
    | succ f ih =>
      rintro listed a w1 inv hf ⟨vals, rfl, hR, hb⟩
      obtain ⟨j0, hj0⟩ : ∃ j, j ∈ (List.range ds.length).filter (fun j => !listed.getD j false) := List.exists_mem_of_length_pos (by omega)
      obtain ⟨hj1, hj2⟩ := List.mem_filter.1 hj0
      have hj1 := List.mem_range.1 hj1
      have hj2 : listed.getD j0 false = false := by simpa using hj2
      have hj3 := getD_in (by rw [inv.size]; omega) hj2
      rw [show f + 1 + (l.length - ds.length) = (f + (l.length - ds.length)) + 1 by omega]
      have htail := tail_waits hs hc hn' inv _ j0 rfl hj1 hj3
      refine ⟨fun h0 => ?_, fun i hi => ?_⟩
      · -- something may come up
        exfalso
        have hex : ∃ i, i < ds.length ∧ listed.getD i false = false ∧ ∀ j, j < i → listed.getD j false = true := by
          have : ∀ n, (∃ i, i < n ∧ listed.getD i false = false ∧ ∀ j, j < i → listed.getD j false = true) ∨ ∀ j, j < n → listed.getD j false = true := by
            intro n
            induction n with
            | zero => exact .inr fun j hj => by omega
            | succ n ih =>
              rcases ih with ⟨i, h1, h2⟩ | h
              · exact .inl ⟨i, by omega, h2⟩
              · cases e : listed.getD n false with
                | false => exact .inl ⟨n, by omega, e, h⟩
                | true =>
                  refine .inr fun j hj => ?_
                  by_cases hjn : j = n
                  · rw [hjn]; exact e
                  · exact h j (by omega)
          rcases this ds.length with h | h
          · exact h
          · rw [h j0 hj1] at hj2; cases hj2
        obtain ⟨i, hi1, hi2, hi3⟩ := hex
        have hil : i < l.length := by omega
        have hr : i ∈ Region.ready .any l.toArray listed := by
          refine mem_ready.2 ⟨getD_in (by rw [inv.size]; simpa using hil) hi2, l[i], by simp [hil], fun e he hbd => ?_⟩
          have h1 := List.all_eq_true.1 hfw i (List.mem_range.2 hil)
          rw [List.getElem?_eq_getElem hil] at h1
          have h2 := Array.all_eq_true_iff_forall_mem.1 h1 e he
          rw [hbd] at h2
          exact hi3 _ (by simpa using h2)
        rw [h0] at hr
        cases hr
      · have hin : i < ds.length := by
          rcases Nat.lt_or_ge i ds.length with h | h
          · exact h
          · exact absurd hi (htail i h)
        obtain ⟨hun, o, ho, hall⟩ := mem_ready.1 hi
        have hun' : listed.getD i false = false := getD_both hun
        have ho' : (l.take ds.length)[i]? = some o := by rw [List.getElem?_take_of_lt hin]; simpa using ho
        obtain ⟨d, hd⟩ : ∃ d, ds[i]? = some d := ⟨ds[i], List.getElem?_eq_getElem hin⟩
        have hod : o.dst = some d := by
          have h1 := congrArg (fun x => x[i]?) hdst
          simp only [List.getElem?_map, ho', hd, Option.map_some, Option.some.injEq] at h1
          exact h1
        have hog : o.guard = none := by
          have := List.all_eq_true.1 hgd o (List.mem_of_getElem? ho')
          simpa using this
        have hst := StepsJ.get _ 0 i o hstep ho'
        rw [Nat.zero_add] at hst
        have hst2 := hst (putL vals (fun j => listed.getD j false) 0 ds a0) w1 (wpAny P .any l.toArray Q (f + (l.length - ds.length)) (listed.setIfInBounds i true)) hb (fun t ht => putL_frame ds 0 a0 ht) ?_ ?_
        · unfold wpOp
          simp only [ho]
          rw [if_pos (by simp [Region.wanted, hog])]
          exact .inl hst2
        · intro j hj hw
          obtain ⟨oj, hoj, e, he, hbd, hon⟩ := Region.waitsFor_spec hw
          have : oj = o := Option.some.inj (hoj.symm.trans ho)
          subst this
          have hlj := hall e he hbd
          rw [hon] at hlj
          obtain ⟨dj, hdj⟩ : ∃ d, ds[j]? = some d := ⟨ds[j], List.getElem?_eq_getElem hj⟩
          rw [List.getD_eq_getElem?_getD, hdj, Option.getD_some, putL_get ds 0 j a0 dj hnd hdj (hsz _ (List.mem_of_getElem? hdj)) (by rw [Nat.zero_add]; exact hlj), Nat.zero_add]
          exact hR j hj hlj
        · intro v w2 hv hj2 hb2
          refine ih _ _ _ (inv.set hi hin) ?_ ⟨fun j => if j = i then v else vals j, ?_, ?_, hj2⟩
          · have key : ∀ n, i < n → ((List.range n).filter (fun j => !(listed.setIfInBounds i true).getD j false)).length + 1 = ((List.range n).filter (fun j => !listed.getD j false)).length := by
              intro n
              induction n with
              | zero => intro h; omega
              | succ n ihn =>
                intro h
                rw [List.range_succ, List.filter_append, List.filter_append, List.length_append, List.length_append]
                by_cases hin2 : i = n
                · subst hin2
                  have e1 : (List.range i).filter (fun j => !(listed.setIfInBounds i true).getD j false) = (List.range i).filter (fun j => !listed.getD j false) := List.filter_congr fun j hj => by
                    rw [getD_set_ne false (by have := List.mem_range.1 hj; omega)]
                  have e2 : (listed.setIfInBounds i true).getD i false = true := by
                    have : i < listed.size := by rw [inv.size]; omega
                    simp [this]
                  rw [e1]
                  simp only [List.filter_cons, List.filter_nil, e2, hun']
                  simp
                · have := ihn (by omega)
                  have e2 : (listed.setIfInBounds i true).getD n false = listed.getD n false := getD_set_ne false hin2
                  simp only [List.filter_cons, List.filter_nil, e2]
                  omega
            have := key ds.length hin
            omega
          · have h1 := putL_set (vals := vals) (on := fun j => listed.getD j false) v ds 0 i a0 d hnd hd (by rw [Nat.zero_add]; exact hun')
            rw [Nat.zero_add] at h1
            rw [hod, ← h1]
            refine putL_congr ds 0 a0 fun j _ hj => ⟨?_, fun _ => rfl⟩
            by_cases e : j = i
            · subst e
              have : j < listed.size := by rw [inv.size]; omega
              simp [this]
            · rw [getD_set_ne false (Ne.symm e)]
              simp [e]
          · intro j hj hl
            by_cases e : j = i
            · subst e
              show R j (if j = j then v else vals j) w2
              rw [if_pos rfl]
              exact hv
            · show R j (if j = i then v else vals j) w2
              rw [if_neg e]
              rw [getD_set_ne false (Ne.symm e)] at hl
              exact hkeep j _ w1 w2 (hR j hj hl) hb hj2 hb2
  have inv0 : HeadInv .any l.toArray ds.length (Array.replicate l.toArray.size false) :=
    ⟨by simp, fun j oj _ hl => (by rw [getD_replicate_false] at hl; cases hl), fun t _ ht => getD_in (by simpa using ht) (getD_replicate_false _ _)⟩
  have hcount : ((List.range ds.length).filter (fun j => !(Array.replicate l.toArray.size false).getD j false)).length = ds.length := by
    rw [List.filter_eq_self.2 (fun j _ => by rw [getD_replicate_false]; rfl), List.length_range]
  have h9 := main ds.length _ a0 { w with drawn := w.drawn + 1 } inv0 hcount ⟨fun _ => undef, ?_, fun j _ hl => ?_, ?_⟩
  · rw [show l.toArray.size = ds.length + (l.length - ds.length) by simp; omega]
    rw [show ds.length + (l.length - ds.length) = l.length by omega] at h9 ⊢
    simpa using h9
  · have : ∀ (ds : List Nat) (k : Nat), putL (fun _ => undef) (fun j => (Array.replicate l.toArray.size false).getD j false) k ds a0 = a0 := by
      intro ds
      induction ds with
      | nil => intro k; rfl
      | cons d ds ih =>
        intro k
        unfold putL
        rw [if_neg (by rw [getD_replicate_false]; decide)]
        exact ih (k + 1)
    exact (this ds 0).symm
  · rw [getD_replicate_false] at hl; cases hl
  · exact hJ0
/-- What lasts. -/
def KpJ (J : World → Prop) (T : World → World → Prop) (r : Value → World → Prop) : Prop := ∀ v w1 w2, r v w1 → J w1 → J w2 → T w1 w2 → r v w2
theorem KpJ_eq {J : World → Prop} {T : World → World → Prop} (c : Value) : KpJ J T (fun v _ => v = c) := fun _ _ _ h _ _ _ => h
def KpJL (J : World → Prop) (T : World → World → Prop) : List (Value → World → Prop) → Prop
  | [] => True
  | r :: rs => KpJ J T r ∧ KpJL J T rs
theorem KpJL.get {J : World → Prop} {T : World → World → Prop} : ∀ (Rl : List (Value → World → Prop)) (j : Nat), KpJL J T Rl → KpJ J T (nthD Rl j)
  | [], j, _ => fun _ _ _ _ _ _ _ => by simp [nthD]
  | r :: rs, 0, h => h.1
  | r :: rs, j + 1, h => KpJL.get rs j h.2
theorem region_dagJL {P : Program} {Q : Exit → Act → World → Prop} {id : Nat} {a0 : Act} {w : World} {l : List Oper} (ds : List Nat) (Rl : List (Value → World → Prop)) (J : World → Prop) (T : World → World → Prop) (hm : P.follows .mixedOrders = true) (hB : dagB l ds = true)
    (hl : Rl.length = ds.length) (hsz : ds.all (fun d => decide (d < a0.tmps.size)) = true) (hkeep : KpJL J T Rl) (hJ0 : J w.drew)
    (hstep : StepsJ P l.toArray ds (nthD Rl) J T Q a0 0 (l.take ds.length))
    (hend : ∀ vals w', AllD vals w' 0 Rl → J w' → wpList P l.toArray Q (l.drop ds.length) (putAll vals 0 ds a0) w') : (Code.region id l.toArray true).wp P Q a0 w :=
  region_dagJ ds (nthD Rl) J T hm hB (fun d hd => of_decide_eq_true (List.all_eq_true.1 hsz d hd)) (fun j v w1 w2 h h1 h2 h3 => KpJL.get Rl j hkeep v w1 w2 h h1 h2 h3) hJ0 hstep
    fun vals w' h hb => hend vals w' (AllD.of Rl 0 fun j hj => by rw [Nat.zero_add]; exact h j (by omega)) hb
end Go.Proofs.Ytnbgnoimanpjnaa
