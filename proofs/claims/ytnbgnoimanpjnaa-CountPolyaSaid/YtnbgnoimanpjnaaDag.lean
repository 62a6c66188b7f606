/-
  A region that draws its order: a head whose operations each yield a value that lasts, whatever came before, and a tail that comes in the text's order. Conditions as the law states them.
-/
import Derived.Test.YtnbgnoimanpjnaaBase
import Derived.StillTail
import Derived.Deep.MidRow
namespace Go.Proofs.Ytnbgnoimanpjnaa
set_option linter.unusedVariables false
open Go.RowKit

/-- The slots of a head with the values of those that have come up. -/
def putL (vals : Nat → Value) (on : Nat → Bool) : Nat → List Nat → Act → Act
  | _, [], a => a
  | k, d :: ds, a => if on k then putL vals on (k + 1) ds (a.put (some d) (vals k)) else putL vals on (k + 1) ds a
/-- All. -/
def putAll (vals : Nat → Value) : Nat → List Nat → Act → Act
  | _, [], a => a
  | k, d :: ds, a => putAll vals (k + 1) ds (a.put (some d) (vals k))
theorem putL_all (vals : Nat → Value) (on : Nat → Bool) : ∀ (ds : List Nat) (k : Nat) (a : Act), (∀ j, k ≤ j → j < k + ds.length → on j = true) → putL vals on k ds a = putAll vals k ds a
  | [], k, a, _ => rfl
  | d :: ds, k, a, h => by
    unfold putL putAll
    rw [if_pos (h k (Nat.le_refl _) (by simp)), putL_all vals on ds (k + 1) _ (fun j h1 h2 => h j (by omega) (by simp only [List.length_cons]; omega))]
theorem putL_congr {vals vals' : Nat → Value} {on on' : Nat → Bool} : ∀ (ds : List Nat) (k : Nat) (a : Act), (∀ j, k ≤ j → j < k + ds.length → on j = on' j ∧ (on j = true → vals j = vals' j)) → putL vals on k ds a = putL vals' on' k ds a
  | [], k, a, _ => rfl
  | d :: ds, k, a, h => by
    obtain ⟨h1, h2⟩ := h k (Nat.le_refl _) (by simp)
    have ih := fun a => putL_congr (vals := vals) (vals' := vals') (on := on) (on' := on') ds (k + 1) a (fun j h1 h2 => h j (by omega) (by simp only [List.length_cons]; omega))
    unfold putL
    rw [← h1]
    by_cases e : on k = true
    · rw [if_pos e, if_pos e, ih, h2 e]
    · rw [if_neg e, if_neg e, ih]
theorem putL_put {vals : Nat → Value} {on : Nat → Bool} : ∀ (ds : List Nat) (k : Nat) (a : Act) (d : Nat) (v : Value), (∀ x ∈ ds, x ≠ d) → putL vals on k ds (a.put (some d) v) = (putL vals on k ds a).put (some d) v
  | [], k, a, d, v, _ => rfl
  | e :: ds, k, a, d, v, h => by
    have h1 := h e (by simp)
    unfold putL
    split
    · rw [Act.put_comm a v (vals k) (by rintro x hx hy; cases hx; cases hy; exact h1 rfl), putL_put ds (k + 1) _ d v (fun x hx => h x (by simp [hx]))]
    · rw [putL_put ds (k + 1) _ d v (fun x hx => h x (by simp [hx]))]
theorem putL_on {vals : Nat → Value} {on : Nat → Bool} {k d : Nat} {ds : List Nat} {a : Act} (h : on k = true) : putL vals on k (d :: ds) a = putL vals on (k + 1) ds (a.put (some d) (vals k)) := by
  rw [putL, if_pos h]
theorem putL_off {vals : Nat → Value} {on : Nat → Bool} {k d : Nat} {ds : List Nat} {a : Act} (h : on k = false) : putL vals on k (d :: ds) a = putL vals on (k + 1) ds a := by
  rw [putL, if_neg (by rw [h]; decide)]
/-- One more has come up. -/
theorem putL_set {vals : Nat → Value} {on : Nat → Bool} (v : Value) : ∀ (ds : List Nat) (k i : Nat) (a : Act) (d : Nat), ds.Nodup → ds[i]? = some d → on (k + i) = false →
    putL (fun j => if j = k + i then v else vals j) (fun j => j == k + i || on j) k ds a = (putL vals on k ds a).put (some d) v
  | e :: ds, k, 0, a, d, hn, hd, ho => by
    obtain rfl : e = d := by simpa using hd
    have hn2 := List.nodup_cons.1 hn
    have ho : on k = false := ho
    rw [putL_on (by simp), putL_off ho, ← putL_put ds (k + 1) a e v (fun x hx hxe => hn2.1 (by rw [← hxe]; exact hx))]
    have h0 : (if k = k + 0 then v else vals k) = v := if_pos rfl
    rw [h0]
    refine putL_congr ds (k + 1) _ fun j h1 h2 => ⟨?_, fun _ => if_neg (by omega)⟩
    have : (j == k + 0) = false := by simp; omega
    rw [this, Bool.false_or]
  | e :: ds, k, i + 1, a, d, hn, hd, ho => by
    have hn2 := List.nodup_cons.1 hn
    have he : (k == k + (i + 1)) = false := by simp
    have hk : (if k = k + (i + 1) then v else vals k) = vals k := if_neg (by omega)
    have ih := fun a => putL_set (vals := vals) (on := on) v ds (k + 1) i a d hn2.2 (by simpa using hd) (by rw [show k + 1 + i = k + (i + 1) by omega]; exact ho)
    rw [show k + 1 + i = k + (i + 1) by omega] at ih
    cases h : on k with
    | true => rw [putL_on (by simp [h]), putL_on h, ih, hk]
    | false => rw [putL_off (by simp [h]), putL_off h, ih]
theorem put_getD {a : Act} {d t : Nat} {v : Value} (h : d ≠ t) : (a.put (some d) v).tmps.getD t undef = a.tmps.getD t undef := by
  show (a.tmps.setIfInBounds d v).getD t undef = _
  simp [h]
theorem putL_frame {vals : Nat → Value} {on : Nat → Bool} {t : Nat} : ∀ (ds : List Nat) (k : Nat) (a : Act), ds.contains t = false → (putL vals on k ds a).tmps.getD t undef = a.tmps.getD t undef
  | [], k, a, _ => rfl
  | d :: ds, k, a, h => by
    simp only [List.contains_cons, Bool.or_eq_false_iff] at h
    have hne : d ≠ t := fun e => by rw [e] at h; simp at h
    unfold putL
    split
    · rw [putL_frame ds (k + 1) _ h.2, put_getD hne]
    · rw [putL_frame ds (k + 1) _ h.2]
theorem putL_size {vals : Nat → Value} {on : Nat → Bool} : ∀ (ds : List Nat) (k : Nat) (a : Act), (putL vals on k ds a).tmps.size = a.tmps.size
  | [], k, a => rfl
  | d :: ds, k, a => by
    unfold putL
    split
    · rw [putL_size ds (k + 1)]
      show (a.tmps.setIfInBounds d _).size = _
      simp
    · rw [putL_size ds (k + 1)]
theorem putL_get {vals : Nat → Value} {on : Nat → Bool} : ∀ (ds : List Nat) (k i : Nat) (a : Act) (d : Nat), ds.Nodup → ds[i]? = some d → d < a.tmps.size → on (k + i) = true → (putL vals on k ds a).tmps.getD d undef = vals (k + i)
  | e :: ds, k, 0, a, d, hn, hd, hs, ho => by
    obtain rfl : e = d := by simpa using hd
    have hn2 := List.nodup_cons.1 hn
    unfold putL
    rw [if_pos (by simpa using ho), putL_frame ds (k + 1) _ (by rw [← Bool.not_eq_true, List.contains_iff_mem]; exact hn2.1)]
    show (a.tmps.setIfInBounds e (vals k)).getD e undef = vals k
    simp [hs]
  | e :: ds, k, i + 1, a, d, hn, hd, hs, ho => by
    have hn2 := List.nodup_cons.1 hn
    have ih := fun a hs => putL_get (vals := vals) (on := on) ds (k + 1) i a d hn2.2 (by simpa using hd) hs (by rw [show k + 1 + i = k + (i + 1) by omega]; exact ho)
    rw [show k + 1 + i = k + (i + 1) by omega] at ih
    unfold putL
    split
    · exact ih _ (by show d < (a.tmps.setIfInBounds e _).size; simpa using hs)
    · exact ih _ hs

/-- What a step of the head is to do. -/
def StepD (P : Program) (ops : Array Oper) (ds : List Nat) (R : Nat → Value → World → Prop) (Q : Exit → Act → World → Prop) (a0 : Act) (W : World) (k : Nat) (o : Oper) : Prop :=
  ∀ (a : Act) (w : World) (K : Act → World → Prop), Below W.heap.size W w → (∀ t, ds.contains t = false → a.tmps.getD t undef = a0.tmps.getD t undef) →
    (∀ j, j < ds.length → Region.waitsFor .any ops k j = true → R j (a.tmps.getD (ds.getD j 0) undef) w) →
    (∀ v w', R k v w' → Below w.heap.size w w' → K (a.put o.dst v) w') → Oper.wp P o a w K Q
def StepsD (P : Program) (ops : Array Oper) (ds : List Nat) (R : Nat → Value → World → Prop) (Q : Exit → Act → World → Prop) (a0 : Act) (W : World) : Nat → List Oper → Prop
  | _, [] => True
  | k, o :: os => StepD P ops ds R Q a0 W k o ∧ StepsD P ops ds R Q a0 W (k + 1) os
theorem StepsD.get {P : Program} {ops : Array Oper} {ds : List Nat} {R : Nat → Value → World → Prop} {Q : Exit → Act → World → Prop} {a0 : Act} {W : World} : ∀ (os : List Oper) (k i : Nat) (o : Oper), StepsD P ops ds R Q a0 W k os → os[i]? = some o → StepD P ops ds R Q a0 W (k + i) o := by
  intro os
  induction os with
  | nil => intro k i o h e; simp at e
  | cons x os ih =>
    intro k i o h e
    rw [StepsD] at h
    cases i with
    | zero =>
      rw [List.getElem?_cons_zero] at e
      cases e
      rw [Nat.add_zero]
      exact h.1
    | succ i =>
      rw [List.getElem?_cons_succ] at e
      have := ih (k + 1) i o h.2 e
      rw [show k + 1 + i = k + (i + 1) by omega] at this
      exact this
def firstB (N n : Nat) : Array Bool := ((List.range N).map fun j => decide (j < n)).toArray
def forwardB (l : List Oper) : Bool := (List.range l.length).all fun i => match l[i]? with
  | some o => o.after.all fun e => !Region.binds .any e || decide (e.on < i)
  | none => true
/-- What the kernel looks at. -/
def dagB (l : List Oper) (ds : List Nat) : Bool :=
  decide (ds.length < l.length) && Region.sinkB .any l.toArray ds.length && Region.chainB .any l.toArray ds.length && Region.seqB .any l.toArray (l.length - ds.length) ds.length (firstB l.length ds.length)
    && ((l.take ds.length).map (·.dst) == ds.map some) && (l.take ds.length).all (fun o => o.guard.isNone) && decide ds.Nodup && forwardB l
theorem region_dag {P : Program} {Q : Exit → Act → World → Prop} {id : Nat} {a0 : Act} {w : World} {l : List Oper} (ds : List Nat) (R : Nat → Value → World → Prop) (hm : P.follows .mixedOrders = true) (hB : dagB l ds = true)
    (hsz : ∀ d ∈ ds, d < a0.tmps.size)
    (hkeep : ∀ j v w1 w2, R j v w1 → w.heap.size ≤ w1.heap.size → Below w1.heap.size w1 w2 → R j v w2)
    (hstep : StepsD P l.toArray ds R Q a0 w 0 (l.take ds.length))
    (hend : ∀ vals w', (∀ j, j < ds.length → R j (vals j) w') → Below w.heap.size w w' → wpList P l.toArray Q (l.drop ds.length) (putAll vals 0 ds a0) w') : (Code.region id l.toArray true).wp P Q a0 w := by
  simp only [dagB, Bool.and_eq_true, decide_eq_true_eq, beq_iff_eq] at hB
  obtain ⟨⟨⟨⟨⟨⟨⟨hn, hs⟩, hc⟩, hseq⟩, hdst⟩, hgd⟩, hnd⟩, hfw⟩ := hB
  have hn' : ds.length < l.toArray.size := by simpa using hn
  refine wp_region_any hm ?_
  have main : ∀ (f : Nat) (listed : Array Bool) (a : Act) (w1 : World), HeadInv .any l.toArray ds.length listed → ((List.range ds.length).filter (fun j => !listed.getD j false)).length = f →
      (∃ vals, a = putL vals (fun j => listed.getD j false) 0 ds a0 ∧ (∀ j, j < ds.length → listed.getD j false = true → R j (vals j) w1) ∧ Below w.heap.size w w1) → wpAny P .any l.toArray Q (f + (l.length - ds.length)) listed a w1 := by
    intro f
    induction f with
    | zero =>
      rintro listed a w1 inv hf ⟨vals, rfl, hR, hb⟩
      have hall : ∀ j, j < ds.length → listed.getD j false = true := fun j hj => by
        have h0 := List.eq_nil_of_length_eq_zero hf
        rw [List.filter_eq_nil_iff] at h0
        have := h0 j (List.mem_range.2 hj)
        simpa using this
      have hl : listed = firstB l.length ds.length := by
        refine Array.ext (by rw [inv.size]; simp [firstB]) fun j h1 h2 => ?_
        have e2 : (firstB l.length ds.length)[j] = decide (j < ds.length) := by simp [firstB]
        rw [e2]
        by_cases hj : j < ds.length
        · have := hall j hj
          simp only [hj, decide_true]
          simpa [h1] using this
        · have := inv.tail j (by omega) (by rw [← inv.size]; exact h1)
          simp only [hj, decide_false]
          simpa [h1] using this
      rw [Nat.zero_add]
      have h3 := wpAny_of_seq (P := P) (md := .any) (ops := l.toArray) (Q' := Q) (l.drop ds.length) ds.length (firstB l.length ds.length) (putAll vals 0 ds a0) w1 (fun j => by simp [List.getElem?_drop]) (by rw [List.length_drop]; exact hseq) (hend vals w1 (fun j hj => hR j hj (hall j hj)) hb)
      rw [List.length_drop] at h3
      rw [putL_all vals _ ds 0 a0 (fun j _ hj => hall j (by omega)), hl]
      exact h3
    | succ f ih =>
      rintro listed a w1 inv hf ⟨vals, rfl, hR, hb⟩
      obtain ⟨j0, hj0⟩ : ∃ j, j ∈ (List.range ds.length).filter (fun j => !listed.getD j false) := List.exists_mem_of_length_pos (by omega)
      obtain ⟨hj1, hj2⟩ := List.mem_filter.1 hj0
      have hj1 := List.mem_range.1 hj1
      have hj2 : listed.getD j0 false = false := by simpa using hj2
      have hj3 := getD_in (by rw [inv.size]; omega) hj2
      rw [show f + 1 + (l.length - ds.length) = (f + (l.length - ds.length)) + 1 by omega]
      have htail := tail_waits hs hc hn' inv _ j0 rfl hj1 hj3
      refine ⟨fun h0 => ?_, fun i hi => ?_⟩
      · -- something may come up
        exfalso
        have hex : ∃ i, i < ds.length ∧ listed.getD i false = false ∧ ∀ j, j < i → listed.getD j false = true := by
          have : ∀ n, (∃ i, i < n ∧ listed.getD i false = false ∧ ∀ j, j < i → listed.getD j false = true) ∨ ∀ j, j < n → listed.getD j false = true := by
            intro n
            induction n with
            | zero => exact .inr fun j hj => by omega
            | succ n ih =>
              rcases ih with ⟨i, h1, h2⟩ | h
              · exact .inl ⟨i, by omega, h2⟩
              · cases e : listed.getD n false with
                | false => exact .inl ⟨n, by omega, e, h⟩
                | true =>
                  refine .inr fun j hj => ?_
                  by_cases hjn : j = n
                  · rw [hjn]; exact e
                  · exact h j (by omega)
          rcases this ds.length with h | h
          · exact h
          · rw [h j0 hj1] at hj2; cases hj2
        obtain ⟨i, hi1, hi2, hi3⟩ := hex
        have hil : i < l.length := by omega
        have hr : i ∈ Region.ready .any l.toArray listed := by
          refine mem_ready.2 ⟨getD_in (by rw [inv.size]; simpa using hil) hi2, l[i], by simp [hil], fun e he hbd => ?_⟩
          have h1 := List.all_eq_true.1 hfw i (List.mem_range.2 hil)
          rw [List.getElem?_eq_getElem hil] at h1
          have h2 := Array.all_eq_true_iff_forall_mem.1 h1 e he
          rw [hbd] at h2
          exact hi3 _ (by simpa using h2)
        rw [h0] at hr
        cases hr
      · have hin : i < ds.length := by
          rcases Nat.lt_or_ge i ds.length with h | h
          · exact h
          · exact absurd hi (htail i h)
        obtain ⟨hun, o, ho, hall⟩ := mem_ready.1 hi
        have hun' : listed.getD i false = false := getD_both hun
        have ho' : (l.take ds.length)[i]? = some o := by rw [List.getElem?_take_of_lt hin]; simpa using ho
        obtain ⟨d, hd⟩ : ∃ d, ds[i]? = some d := ⟨ds[i], List.getElem?_eq_getElem hin⟩
        have hod : o.dst = some d := by
          have h1 := congrArg (fun x => x[i]?) hdst
          simp only [List.getElem?_map, ho', hd, Option.map_some, Option.some.injEq] at h1
          exact h1
        have hog : o.guard = none := by
          have := List.all_eq_true.1 hgd o (List.mem_of_getElem? ho')
          simpa using this
        have hst := StepsD.get _ 0 i o hstep ho'
        rw [Nat.zero_add] at hst
        have hst2 := hst (putL vals (fun j => listed.getD j false) 0 ds a0) w1 (wpAny P .any l.toArray Q (f + (l.length - ds.length)) (listed.setIfInBounds i true)) hb (fun t ht => putL_frame ds 0 a0 ht) ?_ ?_
        · unfold wpOp
          simp only [ho]
          rw [if_pos (by simp [Region.wanted, hog])]
          exact .inl hst2
        · intro j hj hw
          obtain ⟨oj, hoj, e, he, hbd, hon⟩ := Region.waitsFor_spec hw
          have : oj = o := Option.some.inj (hoj.symm.trans ho)
          subst this
          have hlj := hall e he hbd
          rw [hon] at hlj
          obtain ⟨dj, hdj⟩ : ∃ d, ds[j]? = some d := ⟨ds[j], List.getElem?_eq_getElem hj⟩
          rw [List.getD_eq_getElem?_getD, hdj, Option.getD_some, putL_get ds 0 j a0 dj hnd hdj (hsz _ (List.mem_of_getElem? hdj)) (by rw [Nat.zero_add]; exact hlj), Nat.zero_add]
          exact hR j hj hlj
        · intro v w2 hv hb2
          refine ih _ _ _ (inv.set hi hin) ?_ ⟨fun j => if j = i then v else vals j, ?_, ?_, hb.trans (hb2.mono hb.size)⟩
          · have key : ∀ n, i < n → ((List.range n).filter (fun j => !(listed.setIfInBounds i true).getD j false)).length + 1 = ((List.range n).filter (fun j => !listed.getD j false)).length := by
              intro n
              induction n with
              | zero => intro h; omega
              | succ n ihn =>
                intro h
                rw [List.range_succ, List.filter_append, List.filter_append, List.length_append, List.length_append]
                by_cases hin2 : i = n
                · subst hin2
                  have e1 : (List.range i).filter (fun j => !(listed.setIfInBounds i true).getD j false) = (List.range i).filter (fun j => !listed.getD j false) := List.filter_congr fun j hj => by
                    rw [getD_set_ne false (by have := List.mem_range.1 hj; omega)]
                  have e2 : (listed.setIfInBounds i true).getD i false = true := by
                    have : i < listed.size := by rw [inv.size]; omega
                    simp [this]
                  rw [e1]
                  simp only [List.filter_cons, List.filter_nil, e2, hun']
                  simp
                · have := ihn (by omega)
                  have e2 : (listed.setIfInBounds i true).getD n false = listed.getD n false := getD_set_ne false hin2
                  simp only [List.filter_cons, List.filter_nil, e2]
                  omega
            have := key ds.length hin
            omega
          · have h1 := putL_set (vals := vals) (on := fun j => listed.getD j false) v ds 0 i a0 d hnd hd (by rw [Nat.zero_add]; exact hun')
            rw [Nat.zero_add] at h1
            rw [hod, ← h1]
            refine putL_congr ds 0 a0 fun j _ hj => ⟨?_, fun _ => rfl⟩
            by_cases e : j = i
            · subst e
              have : j < listed.size := by rw [inv.size]; omega
              simp [this]
            · rw [getD_set_ne false (Ne.symm e)]
              simp [e]
          · intro j hj hl
            by_cases e : j = i
            · subst e
              show R j (if j = j then v else vals j) w2
              rw [if_pos rfl]
              exact hv
            · show R j (if j = i then v else vals j) w2
              rw [if_neg e]
              rw [getD_set_ne false (Ne.symm e)] at hl
              exact hkeep j _ w1 w2 (hR j hj hl) hb.size hb2
  have inv0 : HeadInv .any l.toArray ds.length (Array.replicate l.toArray.size false) :=
    ⟨by simp, fun j oj _ hl => (by rw [getD_replicate_false] at hl; cases hl), fun t _ ht => getD_in (by simpa using ht) (getD_replicate_false _ _)⟩
  have hcount : ((List.range ds.length).filter (fun j => !(Array.replicate l.toArray.size false).getD j false)).length = ds.length := by
    rw [List.filter_eq_self.2 (fun j _ => by rw [getD_replicate_false]; rfl), List.length_range]
  have h9 := main ds.length _ a0 { w with drawn := w.drawn + 1 } inv0 hcount ⟨fun _ => undef, ?_, fun j _ hl => ?_, ?_⟩
  · rw [show l.toArray.size = ds.length + (l.length - ds.length) by simp; omega]
    rw [show ds.length + (l.length - ds.length) = l.length by omega] at h9 ⊢
    simpa using h9
  · have : ∀ (ds : List Nat) (k : Nat), putL (fun _ => undef) (fun j => (Array.replicate l.toArray.size false).getD j false) k ds a0 = a0 := by
      intro ds
      induction ds with
      | nil => intro k; rfl
      | cons d ds ih =>
        intro k
        unfold putL
        rw [if_neg (by rw [getD_replicate_false]; decide)]
        exact ih (k + 1)
    exact (this ds 0).symm
  · rw [getD_replicate_false] at hl; cases hl
  · exact (Below.refl _ _).drew
/-- What lasts. -/
def Kp (B : Nat) (r : Value → World → Prop) : Prop := ∀ v w1 w2, r v w1 → B ≤ w1.heap.size → Below w1.heap.size w1 w2 → r v w2
theorem Kp_eq {B : Nat} (c : Value) : Kp B (fun v _ => v = c) := fun _ _ _ h _ _ => h
def KpL (B : Nat) : List (Value → World → Prop) → Prop
  | [] => True
  | r :: rs => Kp B r ∧ KpL B rs
def AllD (vals : Nat → Value) (w : World) : Nat → List (Value → World → Prop) → Prop
  | _, [] => True
  | k, r :: rs => r (vals k) w ∧ AllD vals w (k + 1) rs
def nthD (Rl : List (Value → World → Prop)) (k : Nat) (v : Value) (w : World) : Prop := Rl.getD k (fun _ _ => True) v w
theorem KpL.get {B : Nat} : ∀ (Rl : List (Value → World → Prop)) (j : Nat), KpL B Rl → Kp B (nthD Rl j)
  | [], j, _ => fun _ _ _ _ _ _ => by simp [nthD]
  | r :: rs, 0, h => h.1
  | r :: rs, j + 1, h => KpL.get rs j h.2
theorem AllD.of {vals : Nat → Value} {w : World} : ∀ (Rl : List (Value → World → Prop)) (k : Nat), (∀ j, j < Rl.length → nthD Rl j (vals (k + j)) w) → AllD vals w k Rl
  | [], k, _ => trivial
  | r :: rs, k, h => ⟨h 0 (by simp), AllD.of rs (k + 1) fun j hj => by
    have := h (j + 1) (by simpa using hj)
    rwa [show k + (j + 1) = k + 1 + j by omega] at this⟩
theorem region_dagL {P : Program} {Q : Exit → Act → World → Prop} {id : Nat} {a0 : Act} {w : World} {l : List Oper} (ds : List Nat) (Rl : List (Value → World → Prop)) (hm : P.follows .mixedOrders = true) (hB : dagB l ds = true)
    (hl : Rl.length = ds.length) (hsz : ds.all (fun d => decide (d < a0.tmps.size)) = true) (hkeep : KpL w.heap.size Rl)
    (hstep : StepsD P l.toArray ds (nthD Rl) Q a0 w 0 (l.take ds.length))
    (hend : ∀ vals w', AllD vals w' 0 Rl → Below w.heap.size w w' → wpList P l.toArray Q (l.drop ds.length) (putAll vals 0 ds a0) w') : (Code.region id l.toArray true).wp P Q a0 w :=
  region_dag ds (nthD Rl) hm hB (fun d hd => of_decide_eq_true (List.all_eq_true.1 hsz d hd)) (fun j v w1 w2 h h1 h2 => KpL.get Rl j hkeep v w1 w2 h h1 h2) hstep
    fun vals w' h hb => hend vals w' (AllD.of Rl 0 fun j hj => by rw [Nat.zero_add]; exact h j (by omega)) hb
section
variable {P : Program} {o : Oper} {a : Act} {w : World} {K : Act → World → Prop} {Q : Exit → Act → World → Prop}
theorem ev_tmp {t : Nat} {v : Value} (h : a.tmps.getD t undef = v) : a.tmps[t]?.getD undef = v := by
  rw [← Array.getD_eq_getD_getElem?]
  exact h
theorem dag_val (v : Value) (hr : (execOp a.eval o).run P w = .ok (.value v) w) (hK : K (a.put o.dst v) w) : Oper.wp P o a w K Q := by
  unfold Oper.wp
  rw [hr]
  exact hK
theorem dag_move (x : Operand) (ho : o.op = .move x) (hK : K (a.put o.dst (a.eval x)) w) : Oper.wp P o a w K Q := dag_val _ (by unfold execOp; rw [ho]; rfl) hK
theorem dag_call (f : Nat) (args : Array Operand) (ty : Array TypeId) (vs : Array Value) (ho : o.op = .call { callee := .value (.func f), args := args, argTypes := ty }) (ha : args.map a.eval = vs) (fn : Func) (hf : P.funcs[f]? = some fn) (h1 : (fn.name == "runtime.NumGoroutine") = false) (h2 : fn.body.isNone = false) (H : Calls P f vs w fun e w' => ∃ v, e = .returned v ∧ K (a.put o.dst v) w') : Oper.wp P o a w K Q := by
  unfold Oper.wp
  have : (execOp a.eval o).run P w = .ok (.enter f vs) w := by
    unfold execOp
    rw [ho]
    have h3 : fn.name ≠ "runtime.NumGoroutine" := by simpa using h1
    have h4 : fn.body ≠ none := by intro e; rw [e] at h2; cases h2
    simp [resolve, Act.eval, ha, go_sem, callFunc, hf, h3, h4]
  rw [this]
  refine H.mono ?_
  rintro e w' ⟨v, rfl, h⟩
  exact h
end
end Go.Proofs.Ytnbgnoimanpjnaa
