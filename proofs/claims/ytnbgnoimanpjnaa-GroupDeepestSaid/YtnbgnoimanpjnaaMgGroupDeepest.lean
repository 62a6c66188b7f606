/-
  The law parterrelaw1.GroupDeepest: for every input it returns true, and what it was handed reads afterwards as before. No condition.
-/
import Derived.Test.YtnbgnoimanpjnaaGel
import Derived.Test.YtnbgnoimanpjnaaGcom
import Derived.Test.YtnbgnoimanpjnaaGidx
import Derived.Deep.LoopGhost
import Derived.Test.YtnbgnoimanpjnaaGfix
import Derived.Test.YtnbgnoimanpjnaaGdeep
import Derived.Test.YtnbgnoimanpjnaaGburn
import Derived.Test.YtnbgnoimanpjnaaGlmade
import Derived.ProofKit
import Derived.OpenShut
import Derived.SizedLaws
/-
  The walk over group.block's closure: two lists of a cut are joined. Conditions: the numbers are places of the cut.
-/
namespace Go.Proofs.Ytnbgnoimanpjnaa
set_option linter.unusedVariables false
open Go.RowKit

/-- All that stand where a stands go where b stands; of the first k places. -/
def joinF (l : Nat → Nat) (a b : Nat) (i : Nat) : Nat := if l i = l a then l b else l i
def joinK (l : Nat → Nat) (a b k : Nat) (i : Nat) : Nat := if i < k then joinF l a b i else l i
theorem elL_congr {n : Nat} {x y : Nat → Nat} (h : ∀ i, i < n → x i = y i) : elL n x = elL n y := by
  unfold elL
  exact List.map_congr_left fun i hi => by rw [h i (List.mem_range.1 hi)]
theorem joinK_zero (n : Nat) (l : Nat → Nat) (a b : Nat) : elL n (joinK l a b 0) = elL n l := elL_congr fun i _ => if_neg (by omega)
theorem joinK_all (n : Nat) (l : Nat → Nat) (a b : Nat) : elL n (joinK l a b n) = elL n (joinF l a b) := elL_congr fun i hi => if_pos hi
theorem joinK_yes {n k : Nat} {l : Nat → Nat} {a b : Nat} (hk : k < n) (h : l k = l a) : elL n (joinK l a b (k + 1)) = (elL n (joinK l a b k)).set k ((l b : Nat) : Int) := by
  refine List.ext_getElem? fun i => ?_
  by_cases hi : i < n
  · by_cases e : k = i
    · subst e
      rw [List.getElem?_set_self (by rw [elL_len]; exact hi)]
      simp [elL, hi, joinK, joinF, h]
    · rw [List.getElem?_set_ne e]
      have : joinK l a b (k + 1) i = joinK l a b k i := by
        unfold joinK
        by_cases h1 : i < k
        · rw [if_pos h1, if_pos (by omega)]
        · rw [if_neg h1, if_neg (by omega)]
      simp [elL, hi, this]
  · rw [List.getElem?_eq_none (by rw [elL_len]; omega), List.getElem?_eq_none (by rw [List.length_set, elL_len]; omega)]
theorem joinK_no {n k : Nat} {l : Nat → Nat} {a b : Nat} (h : l k ≠ l a) : elL n (joinK l a b (k + 1)) = elL n (joinK l a b k) := elL_congr fun i _ => by
  unfold joinK
  by_cases e : i = k
  · subst e
    rw [if_pos (by omega), if_neg (by omega)]
    unfold joinF
    rw [if_neg h]
  · by_cases h1 : i < k
    · rw [if_pos h1, if_pos (by omega)]
    · rw [if_neg h1, if_neg (by omega)]

set_option maxHeartbeats 1000000 in
set_option maxRecDepth 10000 in
theorem join_ok (n a b : Nat) (l : Nat → Nat) (B cb lb : Nat) (w : World) (hn : n ≤ 7) (ha : a < n) (hb : b < n) (hl : ∀ i, i < n → l i < n) (hc : w.cell? ⟨cb, 0, none⟩ = some (.slice (some ⟨lb, 0, none⟩) n n)) (hne : cb ≠ lb) (ho : OI B w (.slice (some ⟨lb, 0, none⟩) n n) (elL n l)) :
    Calls Try.prog 85 #[.int .i64 (a : Nat), .int .i64 (b : Nat), .pointer (some ⟨cb, 0, none⟩)] w fun e w' => e = .returned (.bool (decide (l a ≠ l b))) ∧ OI B w' (.slice (some ⟨lb, 0, none⟩) n n) (elL n (joinF l a b)) ∧ w.grownBy w' (some lb) := by
  have HELL := hid (elL_len n)
  have HCE : Hid (∀ (x : Nat → Nat) (w1 : World) i, OI B w1 (.slice (some ⟨lb, 0, none⟩) n n) (elL n x) → i < n → w1.cell? ⟨lb, i, none⟩ = some (.int .i64 ((x i : Nat) : Int))) := hid (fun x w1 i h hi => by
    rw [h.cell i (by rw [elL_len]; exact hi)]
    simp [elL, hi])
  have hla := hl a ha
  have hlb := hl b hb
  have c1 := HCE.out l w a ho ha
  have c2 := HCE.out l w b ho hb
  have HO := hid ho
  have HK0 := hid (joinK_zero n l a b)
  have HKN := hid (joinK_all n l a b)
  have HKY := hid (fun k (hk : k < n) (h : l k = l a) => joinK_yes (n := n) (b := b) hk h)
  have HKO := hid (fun k (h : l k ≠ l a) => joinK_no (n := n) (b := b) h)
  have HKV : Hid (∀ k, joinK l a b k k = l k) := hid (fun k => if_neg (by omega))
  have hai : (a : Int) < (n : Int) := by omega
  have hbi : (b : Int) < (n : Int) := by omega
  have HDD : Hid (decide (l a ≠ l b) = (((l a : Nat) : Int) != ((l b : Nat) : Int))) := hid (by
    rw [Bool.eq_iff_iff, decide_eq_true_eq, bne_iff_ne]
    omega)
  rw [HDD.out]
  clear ho
  generalize joinF l a b = JF at *
  generalize joinK l a b = JK at *
  obtain ⟨la, hlae⟩ : ∃ x, l a = x := ⟨_, rfl⟩
  obtain ⟨lb', hlbe⟩ : ∃ x, l b = x := ⟨_, rfl⟩
  rw [hlae] at c1 hla HKY HKO ⊢
  rw [hlbe] at c2 hlb HKY ⊢
  clear hlae hlbe HDD
  go_enter Try.func85, Try.ntmps85
  go_wp2_with fail
  go_quiet (fail)
  go_wp2_with fail
  go_loopw [8, 19] (fun _ i wr => ∃ k : Nat, i = .int .i64 k ∧ k ≤ n ∧ OI B wr (.slice (some ⟨lb, 0, none⟩) n n) (elL n (JK k)) ∧ wr.cell? ⟨cb, 0, none⟩ = some (.slice (some ⟨lb, 0, none⟩) n n) ∧ w.grownBy wr (some lb)) (fun _ i _ => n - (intOf i).toNat)
  case atStart => exact ⟨0, rfl, Nat.zero_le _, by rw [HK0.out]; exact HO.out, hc, ⟨rfl, rfl, rfl, Nat.le_refl _, fun _ _ _ => rfl⟩⟩
  case round =>
    clear c1 c2 hc
    obtain ⟨k, rfl, hk, ho, hc, hg⟩ := hrel
    by_cases hlt : k < n
    · have hki : (k : Int) < (n : Int) := by omega
      have hcell := HCE.out (JK k) wr k ho hlt
      rw [HKV.out k] at hcell
      have hlk := hl k hlt
      by_cases he : l k = la
      · have HY := hid (HKY.out k hlt he)
        rw [he] at hcell
        have hfz := ho.frozen k
        obtain ⟨hs, hgs⟩ := ho.stored k ((lb' : Nat) : Int)
        rw [← HY.out] at hs
        have hc2 := hgs.cell hc (fun e => hne (by cases e; rfl))
        have HX := hid (And.intro hs (And.intro hc2 (hg.trans hgs)))
        clear hs hgs hc2 ho hg he
        go_wp2
        go_roundw
        case rel => exact ⟨k + 1, by go_num, by omega, HX.out.1, HX.out.2.1, HX.out.2.2⟩
        case measure => simp [intOf] <;> omega
      · have HY := hid (HKO.out k he)
        have hbe : (((l k : Nat) : Int) == ((la : Nat) : Int)) = false := beq_eq_false_iff_ne.2 (by omega)
        have HX := hid (And.intro ho (And.intro hc hg))
        clear ho hg he
        generalize l k = lk at *
        go_wp2
        go_roundw
        case rel => exact ⟨k + 1, by go_num, by omega, by rw [HY.out]; exact HX.out.1, HX.out.2.1, HX.out.2.2⟩
        case measure => simp [intOf] <;> omega
    · obtain rfl : k = n := by omega
      have hki : ¬ (k : Int) < (k : Int) := by omega
      rw [HKN.out] at ho
      have HX := hid (And.intro ho hg)
      clear ho hg
      go_wp2
      go_ret
      exact ⟨rfl, HX.out.1, HX.out.2⟩
end Go.Proofs.Ytnbgnoimanpjnaa
/-
  The finest cut that has two points together and is kept: what group.block's rounds keep. No program in sight.
-/
namespace Go.Proofs.Ytnbgnoimanpjnaa
set_option linter.unusedVariables false

/-- A cut that the makers keep. -/
def KeptC (n : Nat) (ms : List (Nat → Nat)) (f : Nat → Nat) : Prop := ∀ m ∈ ms, ∀ i j, i < n → j < n → f i = f j → f (m i) = f (m j)
structure BK (n : Nat) (ms : List (Nat → Nat)) (p : Nat) (l : Nat → Nat) : Prop where
  lt : ∀ i, i < n → l i < n
  eq : l 0 = l p
  min : ∀ f, KeptC n ms f → f 0 = f p → ∀ i j, i < n → j < n → l i = l j → f i = f j
section
variable {n p : Nat} {ms : List (Nat → Nat)} {l l0 : Nat → Nat}
theorem joinF_same {x y : Nat} (h : l x = l y) : joinF l x y = l := funext fun i => by
  unfold joinF
  by_cases e : l i = l x
  · rw [if_pos e, e, h]
  · rw [if_neg e]
theorem BK.start (hp : p < n) : BK n ms p (joinF id 0 p) := by
  refine ⟨fun i hi => ?_, ?_, fun f _ h0 i j hi hj h => ?_⟩
  · unfold joinF; split
    · exact hp
    · exact hi
  · unfold joinF
    by_cases e : p = 0
    · subst e; rfl
    · rw [if_pos rfl, if_neg (by simpa using e)]
  · unfold joinF at h
    by_cases e1 : i = 0 <;> by_cases e2 : j = 0
    · rw [e1, e2]
    · rw [if_pos (by simpa using e1), if_neg (by simpa using e2)] at h
      have : p = j := h
      rw [e1, ← this]
      exact h0
    · rw [if_neg (by simpa using e1), if_pos (by simpa using e2)] at h
      have : i = p := h
      rw [e2, this]
      exact h0.symm
    · rw [if_neg (by simpa using e1), if_neg (by simpa using e2)] at h
      have : i = j := h
      rw [this]
theorem BK.join (h : BK n ms p l) {m : Nat → Nat} (hm : m ∈ ms) (hmv : Mv n m) {a b : Nat} (ha : a < n) (hb : b < n) (hab : l a = l b) : BK n ms p (joinF l (m a) (m b)) := by
  have h1 := hmv.pm.lt a ha
  have h2 := hmv.pm.lt b hb
  refine ⟨fun i hi => ?_, ?_, fun f hf h0 i j hi hj he => ?_⟩
  · unfold joinF; split
    · exact h.lt _ h2
    · exact h.lt i hi
  · unfold joinF; rw [h.eq]
  · have hxy : f (m a) = f (m b) := hf m hm a b ha hb (h.min f hf h0 a b ha hb hab)
    have hx : ∀ i, i < n → l i = l (m a) → f i = f (m a) := fun i hi e => h.min f hf h0 i _ hi h1 e
    have hy : ∀ i, i < n → l i = l (m b) → f i = f (m b) := fun i hi e => h.min f hf h0 i _ hi h2 e
    unfold joinF at he
    by_cases e1 : l i = l (m a) <;> by_cases e2 : l j = l (m a)
    · rw [hx i hi e1, hx j hj e2]
    · rw [if_pos e1, if_neg e2] at he
      rw [hx i hi e1, hy j hj he.symm, hxy]
    · rw [if_neg e1, if_pos e2] at he
      rw [hx j hj e2, hy i hi he, hxy]
    · rw [if_neg e1, if_neg e2] at he
      exact h.min f hf h0 i j hi hj he
/-- How many parts. -/
def clsN (n : Nat) (l : Nat → Nat) : Nat := ((List.range n).filter fun v => (List.range n).any fun i => l i == v).length
theorem clsN_le (n : Nat) (l : Nat → Nat) : clsN n l ≤ n := Nat.le_trans (List.length_filter_le _ _) (by simp)
theorem cls_less {x y : Nat} (hlt : ∀ i, i < n → l i < n) (hx : x < n) (hy : y < n) (h : l x ≠ l y) : clsN n (joinF l x y) + 1 ≤ clsN n l := by
  unfold clsN
  have h1 : (((List.range n).filter fun v => (List.range n).any fun i => joinF l x y i == v) ++ [l x]).Nodup := by
    rw [List.nodup_append]
    refine ⟨(List.nodup_range).filter _, by simp, fun a ha b hb e => ?_⟩
    rw [List.mem_singleton.1 hb] at e
    subst e
    obtain ⟨_, h2⟩ := List.mem_filter.1 ha
    obtain ⟨i, hi, e2⟩ := List.any_eq_true.1 h2
    have e2 : joinF l x y i = l x := by simpa using e2
    unfold joinF at e2
    by_cases e3 : l i = l x
    · rw [if_pos e3] at e2; exact h e2.symm
    · rw [if_neg e3] at e2; exact e3 e2
  have h2 := sub_len _ ((List.range n).filter fun v => (List.range n).any fun i => l i == v) h1 (fun v hv => by
    rw [List.mem_filter, List.mem_range, List.any_eq_true]
    rcases List.mem_append.1 hv with hv | hv
    · obtain ⟨h3, h4⟩ := List.mem_filter.1 hv
      obtain ⟨i, hi, e⟩ := List.any_eq_true.1 h4
      have e : joinF l x y i = v := by simpa using e
      refine ⟨List.mem_range.1 h3, ?_⟩
      unfold joinF at e
      by_cases e3 : l i = l x
      · rw [if_pos e3] at e
        exact ⟨y, List.mem_range.2 hy, by simp [e]⟩
      · rw [if_neg e3] at e
        exact ⟨i, hi, by simp [e]⟩
    · rw [List.mem_singleton.1 hv]
      exact ⟨hlt x hx, x, List.mem_range.2 hx, by simp⟩)
  simpa using h2
structure BR (n : Nat) (ms : List (Nat → Nat)) (p : Nat) (l0 l : Nat → Nat) (fl : Bool) (a b t : Nat) : Prop where
  bk : BK n ms p l
  yes : fl = true → clsN n l + 1 ≤ clsN n l0
  no : fl = false → l = l0 ∧ (∀ a', a' < a → ∀ b', b' < a' → ∀ m ∈ ms, l a' = l b' → l (m a') = l (m b')) ∧ (∀ b', b' < b → ∀ m ∈ ms, l a = l b' → l (m a) = l (m b')) ∧ ∀ t', t' < t → l a = l b → l (ms.getD t' id a) = l (ms.getD t' id b)
variable {fl : Bool} {a b t : Nat}
theorem BR.start (h : BK n ms p l) : BR n ms p l l false 0 0 0 := ⟨h, by simp, fun _ => ⟨rfl, fun a' h => by omega, fun b' h => by omega, fun t' h => by omega⟩⟩
/-- Nothing to do at this maker. -/
theorem BR.pass (h : BR n ms p l0 l fl a b t) (hn : l a = l b → l (ms.getD t id a) = l (ms.getD t id b)) : BR n ms p l0 l fl a b (t + 1) := by
  refine ⟨h.bk, h.yes, fun hf => ?_⟩
  obtain ⟨h1, h2, h3, h4⟩ := h.no hf
  refine ⟨h1, h2, h3, fun t' ht => ?_⟩
  by_cases e : t' = t
  · rw [e]; exact hn
  · exact h4 t' (by omega)
theorem BR.join (h : BR n ms p l0 l fl a b t) (hmv : ∀ m ∈ ms, Mv n m) (ht : t < ms.length) (ha : a < n) (hb : b < n) (hab : l a = l b) (hne : l (ms.getD t id a) ≠ l (ms.getD t id b)) : BR n ms p l0 (joinF l (ms.getD t id a) (ms.getD t id b)) true a b (t + 1) := by
  have hm := getD_mem ht id
  have P := hmv _ hm
  have h1 := cls_less h.bk.lt (P.pm.lt a ha) (P.pm.lt b hb) hne
  refine ⟨h.bk.join hm P ha hb hab, fun _ => ?_, by simp⟩
  cases fl with
  | true => have := h.yes rfl; omega
  | false => obtain ⟨e, _⟩ := h.no rfl; rw [← e]; exact h1
theorem BR.nextB (h : BR n ms p l0 l fl a b ms.length) : BR n ms p l0 l fl a (b + 1) 0 := by
  refine ⟨h.bk, h.yes, fun hf => ?_⟩
  obtain ⟨h1, h2, h3, h4⟩ := h.no hf
  refine ⟨h1, h2, fun b' hb' m hm => ?_, fun t' h => by omega⟩
  by_cases e : b' = b
  · obtain ⟨t', ht', rfl⟩ := List.mem_iff_getElem.1 hm
    have := h4 t' ht'
    rw [e]
    rwa [List.getD_eq_getElem?_getD, List.getElem?_eq_getElem ht'] at this
  · exact h3 b' (by omega) m hm
theorem BR.nextA (h : BR n ms p l0 l fl a a 0) : BR n ms p l0 l fl (a + 1) 0 0 := by
  refine ⟨h.bk, h.yes, fun hf => ?_⟩
  obtain ⟨h1, h2, h3, h4⟩ := h.no hf
  refine ⟨h1, fun a' ha' b' hb' m hm => ?_, fun b' h => by omega, fun t' h => by omega⟩
  by_cases e : a' = a
  · subst e; exact h3 b' hb' m hm
  · exact h2 a' (by omega) b' hb' m hm
theorem BR.closed (h : BR n ms p l0 l false n 0 0) : KeptC n ms l := by
  obtain ⟨h1, h2, h3, h4⟩ := h.no rfl
  intro m hm i j hi hj e
  rcases Nat.lt_trichotomy i j with h | h | h
  · exact (h2 j hj i h m hm e.symm).symm
  · rw [h]
  · exact h2 i hi j h m hm e
/-- What block finds. -/
def BlkP (n : Nat) (ms : List (Nat → Nat)) (p c : Nat) : Prop := ∃ l, BK n ms p l ∧ KeptC n ms l ∧ c = ((List.range n).filter fun i => l i == l 0).length
end
end Go.Proofs.Ytnbgnoimanpjnaa
/-
  The walk over group.block. Conditions: the makers can be read, permutations below n, n <= 7; p is below n.
-/
namespace Go.Proofs.Ytnbgnoimanpjnaa
set_option linter.unusedVariables false
open Go.RowKit

def upL (k i : Nat) : Nat := if i < k then i else 0
theorem upL_zero (n : Nat) : elL n (upL 0) = List.replicate n 0 := by
  refine List.ext_getElem (by simp [elL]) fun i h1 h2 => ?_
  simp [elL, upL]
theorem upL_all (n : Nat) : elL n (upL n) = elL n id := elL_congr fun i hi => if_pos hi
theorem upL_set {n k : Nat} (h : k < n) : elL n (upL (k + 1)) = (elL n (upL k)).set k ((k : Nat) : Int) := by
  refine List.ext_getElem? fun i => ?_
  by_cases hi : i < n
  · by_cases e : k = i
    · subst e
      rw [List.getElem?_set_self (by rw [elL_len]; exact hi)]
      simp [elL, hi, upL]
    · rw [List.getElem?_set_ne e]
      have : upL (k + 1) i = upL k i := by
        unfold upL
        by_cases h1 : i < k
        · rw [if_pos h1, if_pos (by omega)]
        · rw [if_neg h1, if_neg (by omega)]
      simp [elL, hi, this]
  · rw [List.getElem?_eq_none (by rw [elL_len]; omega), List.getElem?_eq_none (by rw [List.length_set, elL_len]; omega)]
def eqN (l : Nat → Nat) (k : Nat) : Nat := ((List.range k).filter fun i => l i == l 0).length
theorem eqN_succ (l : Nat → Nat) (k : Nat) : eqN l (k + 1) = eqN l k + if l k = l 0 then 1 else 0 := by
  unfold eqN
  rw [List.range_succ, List.filter_append, List.length_append]
  by_cases h : l k = l 0 <;> simp [h]
theorem eqN_le (l : Nat → Nat) (k : Nat) : eqN l k ≤ k := Nat.le_trans (List.length_filter_le _ _) (by simp)

/-- A region's head that only reads, held so that no look at its form unfolds it. -/
structure WS (P : Program) (ops : Array Oper) (w : World) (Q : Act → Prop) (l : List Oper) (a : Act) : Prop where
  out : wpStill P ops w Q l a
theorem WS.start {P : Program} {ops : Array Oper} {w : World} {Q : Act → Prop} {a : Act} {l : List Oper} (h : ∀ Q' : Act → Prop, (∀ a, Q a → Q' a) → WS P ops w Q' l a) : wpStill P ops w Q l a := (h Q fun _ h => h).out
theorem WS.step {P : Program} {ops : Array Oper} {w : World} {Q : Act → Prop} {a : Act} {o : Oper} {rest : List Oper}
    (h : ∀ K : Act → Prop, (∀ a, WS P ops w Q rest a → K a) → if Region.wanted o (yielded ops a.tmps) then o.still P a w K else K (a.put o.dst undef)) : WS P ops w Q (o :: rest) a :=
  ⟨wpStill_step fun K hK => h K fun a ha => hK a ha.out⟩
theorem WS.nil {P : Program} {ops : Array Oper} {w : World} {Q : Act → Prop} {a : Act} (h : Q a) : WS P ops w Q [] a := ⟨wpStill_nil h⟩

set_option maxHeartbeats 4000000 in
set_option maxRecDepth 100000 in
theorem block_ok (n p : Nat) (v : Value) (ms : List (Nat → Nat)) (w : World) (hn : n ≤ 7) (hp : p < n) (hv : RM w v ms) (hm : ∀ m ∈ ms, Mv n m) (hlen : ms.length ≤ 4) :
    Calls Try.prog 62 #[.int .i64 n, v, .int .i64 p] w fun e w' => (∃ c, e = .returned (.int .i64 (c : Nat)) ∧ BlkP n ms p c) ∧ Below w.heap.size w w' := by
  have HBS := hid (BK.start (n := n) (ms := ms) hp)
  have HMV := hid hm
  have HML := hid (fun j (hj : j < ms.length) => hm _ (getD_mem hj id))
  have HU0 := hid (upL_zero n)
  have HUA := hid (upL_all n)
  have HUS := hid (fun k (h : k < n) => upL_set h)
  have HELL := hid (elL_len n)
  have HJ := hid (fun (a b : Nat) (l : Nat → Nat) (B cb lb : Nat) (w : World) ha hb hl hc hne ho => join_ok n a b l B cb lb w hn ha hb hl hc hne ho)
  have HCE : Hid (∀ (x : Nat → Nat) (B g : Nat) (w1 : World) i, OI B w1 (.slice (some ⟨g, 0, none⟩) n n) (elL n x) → i < n → w1.cell? ⟨g, i, none⟩ = some (.int .i64 ((x i : Nat) : Int))) := hid (fun x B g w1 i h hi => by
    rw [h.cell i (by rw [elL_len]; exact hi)]
    simp [elL, hi])
  obtain ⟨va, vc, rfl, hv2⟩ := hv
  have HV := hid hv2
  clear hv2 hm
  obtain ⟨K, hK⟩ : ∃ K, ms.length = K := ⟨_, rfl⟩
  have HK := hid hK
  rw [hK] at HML HV hlen ⊢
  clear hK
  have hpi : (p : Int) < (n : Int) := by omega
  go_enter Try.func62, Try.ntmps62
  go_wp2_with (at_make; refine wpList_mk (w := w) _ _ 23 3 (.int .i64 0) 8 rfl rfl Try.underlying23 Try.info3 rfl (by decide) w.heap.size _ n rfl rfl rfl (by omega) (Nat.le_refl _) ?_; intro w6 hs6 hgr6 hz6)
  have hcb0 : (w6.alloc (.cells #[.slice (some ⟨w.heap.size, 0, none⟩) n n] 23)).cell? ⟨w6.heap.size, 0, none⟩ = some (.slice (some ⟨w.heap.size, 0, none⟩) n n) := by simp
  have hoi0 : OI w.heap.size w6 (.slice (some ⟨w.heap.size, 0, none⟩) n n) (elL n (upL 0)) := by
    rw [HU0.out]
    unfold OI
    rw [List.map_replicate]
    exact hs6
  have hb6 : Below w.heap.size w w6 := (Below.refl _ _).grown hgr6 (Nat.le_refl _) (fun k h => by cases h)
  have hb7 : Below w6.heap.size w6 (w6.alloc (.cells #[.slice (some ⟨w.heap.size, 0, none⟩) n n] 23)) := (Below.refl _ _).alloc (Nat.le_refl _) _
  have H7 := hid (And.intro (hoi0.below hb7) (And.intro hcb0 (hb6.trans (hb7.mono (by omega)))))
  clear hs6 hgr6 hcb0 hoi0 hb6 hb7
  obtain ⟨CB, hCB⟩ : ∃ CB, w6.heap.size = CB := ⟨_, rfl⟩
  rw [hCB] at H7 hz6 ⊢
  clear hCB
  have hne : CB ≠ w.heap.size := by omega
  go_loopw [8, 22] (fun _ i wr => ∃ k : Nat, i = .int .i64 k ∧ k ≤ n ∧ OI w.heap.size wr (.slice (some ⟨w.heap.size, 0, none⟩) n n) (elL n (upL k)) ∧ wr.cell? ⟨CB, 0, none⟩ = some (.slice (some ⟨w.heap.size, 0, none⟩) n n) ∧ Below w.heap.size w wr) (fun _ i _ => n - (intOf i).toNat)
  case atStart => exact ⟨0, rfl, Nat.zero_le _, H7.out.1, H7.out.2.1, H7.out.2.2⟩
  case round =>
    clear H7
    obtain ⟨k, rfl, hk, ho, hc, hb⟩ := hrel
    by_cases hlt : k < n
    · have hki : (k : Int) < (n : Int) := by omega
      have hcell := HCE.out _ _ _ wr k ho hlt
      have hfz := ho.frozen k
      obtain ⟨hs, hg⟩ := ho.stored k ((k : Nat) : Int)
      rw [← HUS.out k hlt] at hs
      have hc2 := hg.cell hc (fun e => hne (by cases e; rfl))
      have HX := hid (And.intro hs (And.intro hc2 (hb.grown hg hb.size (fun b e => by cases e; exact Nat.le_refl _))))
      clear hs hg hc2 ho hb
      go_wp2
      go_roundw
      case rel => exact ⟨k + 1, by go_num, by omega, HX.out.1, HX.out.2.1, HX.out.2.2⟩
      case measure => simp [intOf] <;> omega
    · obtain rfl : k = n := by omega
      have hki : ¬ (k : Int) < (k : Int) := by omega
      rw [HUA.out] at ho
      have HJ0 := hid (HJ.out 0 p id w.heap.size CB w.heap.size wr (by omega) hp (fun i hi => hi) hc hne ho)
      have HI := hid (And.intro hc hb)
      clear hc hb ho
      go_wp2_with fail
      refine HJ0.out.mono ?_
      rintro e w2 ⟨rfl, ho2, hg2⟩
      have hc2 := hg2.cell HI.out.1 (fun e => hne (by cases e; rfl))
      have H2 := hid (And.intro ho2 (And.intro hc2 (HI.out.2.grown hg2 HI.out.2.size (fun b e => by cases e; exact Nat.le_refl _))))
      clear ho2 hg2 hc2 HI HJ0
      have hcl := clsN_le k (joinF id 0 p)
      go_wp2_with fail
      go_loopg [10] (2 * k + 1) (fun g v10 wr => ∃ (l : Nat → Nat) (fl : Bool), v10 = .bool fl ∧ Hid (BK k ms p l) ∧ OI w.heap.size wr (.slice (some ⟨w.heap.size, 0, none⟩) k k) (elL k l) ∧ wr.cell? ⟨CB, 0, none⟩ = some (.slice (some ⟨w.heap.size, 0, none⟩) k k) ∧ Below w.heap.size w wr ∧ Hid (fl = false → KeptC k ms l) ∧ Hid (2 * clsN k l + (if fl = true then 1 else 0) ≤ g))
      case atStart => exact ⟨joinF id 0 p, true, rfl, HBS.out, H2.out.1, H2.out.2.1, H2.out.2.2, hid (by simp), hid (by simp; omega)⟩
      case round =>
        clear H2 HBS hcl
        obtain ⟨l0, fl, rfl, HBK, ho, hc, hb, HKE, HG⟩ := hrel
        generalize hgi : gk = gi at *
        cases fl with
        | false =>
          have HKC := hid (HKE.out rfl)
          have HI := hid (And.intro ho (And.intro hc hb))
          have HES := hid (eqN_succ l0)
          have HEL := hid (eqN_le l0)
          have HE0 : Hid (eqN l0 0 = 0) := hid rfl
          have HFIN : Hid (BlkP k ms p (eqN l0 k)) := hid ⟨l0, HBK.out, HKC.out, rfl⟩
          clear ho hc hb HKE HG
          generalize eqN l0 = EN at *
          have hc0 := HI.out.2.1
          go_wp2_with fail
          go_loopw [15, 17, 73] (fun v15 _ i wr => ∃ q : Nat, i = .int .i64 q ∧ q ≤ k ∧ v15 = .int .i64 (EN q : Nat) ∧ OI w.heap.size wr (.slice (some ⟨w.heap.size, 0, none⟩) k k) (elL k l0) ∧ wr.cell? ⟨CB, 0, none⟩ = some (.slice (some ⟨w.heap.size, 0, none⟩) k k) ∧ Below w.heap.size w wr) (fun _ _ i _ => k - (intOf i).toNat)
          case atStart => exact ⟨0, rfl, Nat.zero_le _, by rw [HE0.out]; rfl, HI.out.1, HI.out.2.1, HI.out.2.2⟩
          case round =>
            clear HI
            obtain ⟨q, rfl, hq, rfl, ho, hc, hb⟩ := hrel
            have hel := HEL.out q
            by_cases hqk : q < k
            · have hqi : (q : Int) < (k : Int) := by omega
              have hk0 : (0 : Int) < (k : Int) := by omega
              have hcq := HCE.out _ _ _ wr q ho hqk
              have hc0 := HCE.out _ _ _ wr 0 ho (by omega)
              have hes := HES.out q
              have HI := hid (And.intro ho (And.intro hc hb))
              clear ho hb
              by_cases he : l0 q = l0 0
              · rw [he] at hcq
                have HEk : Hid (EN (q + 1) = EN q + 1) := hid (by rw [hes, if_pos he])
                clear he hes
                generalize l0 0 = z0 at *
                go_wp2
                go_roundw
                case rel => exact ⟨q + 1, by go_num, by omega, by rw [HEk.out]; go_num, HI.out.1, HI.out.2.1, HI.out.2.2⟩
                case measure => simp [intOf] <;> omega
              · have HEk : Hid (EN (q + 1) = EN q) := hid (by rw [hes, if_neg he, Nat.add_zero])
                have hbe : (((l0 q : Nat) : Int) == ((l0 0 : Nat) : Int)) = false := beq_eq_false_iff_ne.2 (by omega)
                clear he hes
                go_wp2
                go_roundw
                case rel => exact ⟨q + 1, by go_num, by omega, by rw [HEk.out], HI.out.1, HI.out.2.1, HI.out.2.2⟩
                case measure => simp [intOf] <;> omega
            · obtain rfl : q = k := by omega
              have hqi : ¬ (q : Int) < (q : Int) := by omega
              have HB := hid hb
              clear ho hc hb
              go_wp2
              go_ret
              exact ⟨⟨_, rfl, HFIN.out⟩, HB.out⟩
        | true =>
          have hg1 : 2 * clsN k l0 + 1 ≤ gi := by have := HG.out; simpa using this
          have HG1 := hid hg1
          have HBR := hid (BR.start (ms := ms) HBK.out)
          have HI := hid (And.intro ho (And.intro hc hb))
          clear ho hc hb HKE HG hg1
          go_wp2_with fail
          go_loopw [10, 11, 36] (fun v10 _ i wr => ∃ (l : Nat → Nat) (fl : Bool) (a : Nat), i = .int .i64 a ∧ a ≤ k ∧ v10 = .bool fl ∧ Hid (BR k ms p l0 l fl a 0 0) ∧ OI w.heap.size wr (.slice (some ⟨w.heap.size, 0, none⟩) k k) (elL k l) ∧ wr.cell? ⟨CB, 0, none⟩ = some (.slice (some ⟨w.heap.size, 0, none⟩) k k) ∧ Below w.heap.size w wr) (fun _ _ i _ => k - (intOf i).toNat)
          case atStart => exact ⟨l0, false, 0, rfl, Nat.zero_le _, rfl, HBR.out, HI.out.1, HI.out.2.1, HI.out.2.2⟩
          case round =>
            clear HI HBR
            obtain ⟨l, fl, a, rfl, ha, rfl, HBR, ho, hc, hb⟩ := hrel
            by_cases hak : a < k
            · have hai : (a : Int) < (k : Int) := by omega
              have HAK := hid hak
              have HI := hid (And.intro ho (And.intro hc hb))
              clear ho hc hb
              go_wp2_with fail
              go_loopw [10, 12, 40] (fun v10 _ i wr => ∃ (l : Nat → Nat) (fl : Bool) (b : Nat), i = .int .i64 b ∧ b ≤ a ∧ v10 = .bool fl ∧ Hid (BR k ms p l0 l fl a b 0) ∧ OI w.heap.size wr (.slice (some ⟨w.heap.size, 0, none⟩) k k) (elL k l) ∧ wr.cell? ⟨CB, 0, none⟩ = some (.slice (some ⟨w.heap.size, 0, none⟩) k k) ∧ Below w.heap.size w wr) (fun _ _ i _ => a - (intOf i).toNat)
              case atStart => exact ⟨l, fl, 0, rfl, Nat.zero_le _, rfl, HBR.out, HI.out.1, HI.out.2.1, HI.out.2.2⟩
              case round =>
                clear HI HBR
                obtain ⟨l, fl, b, rfl, hba, rfl, HBR, ho, hc, hb⟩ := hrel
                by_cases hbl : b < a
                · have hbi : (b : Int) < (a : Int) := by omega
                  have HBA := hid hbl
                  have HI := hid (And.intro ho (And.intro hc hb))
                  clear ho hc hb
                  go_wp2_with fail
                  go_loopw [10, 14, 45] (fun v10 _ i wr => ∃ (l : Nat → Nat) (fl : Bool) (t : Nat), i = .int .i64 t ∧ t ≤ K ∧ v10 = .bool fl ∧ Hid (BR k ms p l0 l fl a b t) ∧ OI w.heap.size wr (.slice (some ⟨w.heap.size, 0, none⟩) k k) (elL k l) ∧ wr.cell? ⟨CB, 0, none⟩ = some (.slice (some ⟨w.heap.size, 0, none⟩) k k) ∧ Below w.heap.size w wr) (fun _ _ i _ => K - (intOf i).toNat)
                  case atStart => exact ⟨l, fl, 0, rfl, Nat.zero_le _, rfl, HBR.out, HI.out.1, HI.out.2.1, HI.out.2.2⟩
                  case round =>
                    clear HI HBR
                    obtain ⟨l, fl, t, rfl, ht, rfl, HBR, ho, hc, hb⟩ := hrel
                    by_cases htl : t < K
                    · have hti : (t : Int) < (K : Int) := by omega
                      obtain ⟨sg, rfl, hsg, hrr⟩ := HV.out (by omega)
                      obtain ⟨m, hm⟩ : ∃ m, ms.getD t id = m := ⟨_, rfl⟩
                      have hPm := HML.out t htl
                      have hrm0 := hrr t htl
                      rw [hm] at hPm hrm0
                      have hrm : wr.rangeAt sg (t * 7) (mvC m) := fun q u hq => (hb.cell (p := ⟨sg, t * 7 + q, none⟩) hsg).trans (hrm0 q u hq)
                      have im : (Try.prog.info? 68).map (·.size) = some (mvC m).length := by rw [mvC_len]; exact mv_info
                      have HAZ := hid (Arr.new wr 68 (mvC fun _ => 0))
                      have hma := hPm.pm.lt a HAK.out
                      have hmb := hPm.pm.lt b (by have := HAK.out; have := HBA.out; omega)
                      have HPASS := hid (fun h => HBR.out.pass (t := t) h)
                      have HJOIN := hid (fun h1 h2 => HBR.out.join HMV.out (by rw [HK.out]; exact htl) HAK.out (by have := HAK.out; have := HBA.out; omega) h1 h2)
                      rw [hm] at HPASS HJOIN
                      have HI := hid (And.intro ho (And.intro hc hb))
                      have HLT := hid HBR.out.bk.lt
                      have hCBw : CB < wr.heap.size := World.block_lt_of_cell? wr ⟨CB, 0, none⟩ hc
                      clear ho hc hb hm hrr hrm0
                      go_wp2_with (first
                        | (refine wpList_load_mid rfl 68 _ rfl sg (t * 7) rfl (mvC m) _ hrm Try.underlying68 rfl im ?_; clear hrm)
                        | (refine wpList_store_arr rfl 68 _ _ rfl wr.heap.size (mvC m) rfl rfl HAZ.out (by rw [mvC_len, mvC_len]) im (mvC_one _) ?_
                           intro w7 hA7 hg7
                           have hB7 : Below wr.heap.size wr w7 := ((Below.refl _ _).alloc (Nat.le_refl _) _).grown hg7 (by simp) (fun b e => by cases e; exact Nat.le_refl _)
                           have H7 := hid (And.intro hA7 hB7)
                           clear hA7 hg7 hB7)
                        | fail)
                      have ho7 := HI.out.1.below H7.out.2
                      have hc7 := (H7.out.2.cell (p := ⟨CB, 0, none⟩) hCBw).trans HI.out.2.1
                      have hb7 := HI.out.2.2.trans (H7.out.2.mono HI.out.2.2.size)
                      have hak2 := HAK.out
                      have hba2 := HBA.out
                      have hai : (a : Int) < (k : Int) := by omega
                      have hbi : (b : Int) < (k : Int) := by omega
                      have ca := HCE.out _ _ _ w7 a ho7 hak2
                      have cb := HCE.out _ _ _ w7 b ho7 (by omega)
                      have ma := H7.out.1.cell a
                      have mb := H7.out.1.cell b
                      rw [mvC_get (by omega)] at ma mb
                      have ha7 : (a : Int) < 7 := by omega
                      have hb7i : (b : Int) < 7 := by omega
                      by_cases hab : l a = l b
                      · have hJ := HJ.out (m a) (m b) l w.heap.size CB w.heap.size w7.drew hma hmb HLT.out hc7 hne ho7
                        have HJ1 := hid hJ
                        have H8 := hid (And.intro hc7 hb7)
                        rw [hab] at ca
                        have HAB := hid hab
                        clear hJ ho7 hb7 hab
                        obtain ⟨vb, hvb⟩ : ∃ x, l b = x := ⟨_, rfl⟩
                        rw [hvb] at ca cb
                        clear hvb
                        go_wp2_with fail
                        go_still_tail 17, (by kernel_rfl)
                        go_wp2_with fail
                        refine HJ1.out.mono ?_
                        rintro e w8 ⟨rfl, ho8, hg8⟩
                        have hc8 := hg8.cell H8.out.1 (fun e => hne (by cases e; rfl))
                        have hb8 := H8.out.2.drew.grown hg8 H8.out.2.drew.size (fun b e => by cases e; exact Nat.le_refl _)
                        have HX := hid (And.intro ho8 (And.intro hc8 hb8))
                        clear ho8 hg8 hc8 hb8 HJ1 H8 hc7
                        by_cases hd : l (m a) = l (m b)
                        · have HNX := hid (HPASS.out (fun _ => hd))
                          have HSM := hid (joinF_same hd)
                          rw [HSM.out] at HX
                          have hdd : decide (l (m a) ≠ l (m b)) = false := by simp [hd]
                          rw [hdd]
                          clear hd hdd HSM
                          go_wp2_with fail
                          go_roundw
                          case rel => exact ⟨l, fl, t + 1, by go_num, by omega, rfl, HNX.out, HX.out.1, HX.out.2.1, HX.out.2.2⟩
                          case measure => simp [intOf] <;> omega
                        · have HNX := hid (HJOIN.out HAB.out hd)
                          have hdd : decide (l (m a) ≠ l (m b)) = true := by simp [hd]
                          rw [hdd]
                          clear hd hdd
                          go_wp2_with fail
                          go_roundw
                          case rel => exact ⟨joinF l (m a) (m b), true, t + 1, by go_num, by omega, rfl, HNX.out, HX.out.1, HX.out.2.1, HX.out.2.2⟩
                          case measure => simp [intOf] <;> omega
                      · have HNX := hid (HPASS.out (fun h => absurd h hab))
                        have hbe : (((l a : Nat) : Int) == ((l b : Nat) : Int)) = false := beq_eq_false_iff_ne.2 (by omega)
                        have HX := hid (And.intro ho7 (And.intro hc7 hb7))
                        clear hab ho7 hb7
                        clear HBR HPASS HJOIN HLT HMV HG1 HML HJ
                        obtain ⟨la, hla⟩ : ∃ x, l a = x := ⟨_, rfl⟩
                        obtain ⟨lb, hlb⟩ : ∃ x, l b = x := ⟨_, rfl⟩
                        rw [hla] at ca hbe
                        rw [hlb] at cb hbe
                        clear hla hlb
                        go_wp2_with fail
                        refine wp_region_still_tail 17 (by kernel_rfl) (by kernel_rfl) ?_
                        simp only [List.take_succ_cons, List.take_zero, List.drop_succ_cons, List.drop_zero]
                        refine WS.start fun Q' hQ' => ?_
                        iterate 17 (refine WS.step (fun K hK => ?_); go_simp; refine hK _ ?_; clear hK K)
                        refine WS.nil (hQ' _ ?_)
                        go_wp2_with fail
                        go_roundw
                        case rel => exact ⟨l, fl, t + 1, by go_num, by omega, rfl, HNX.out, HX.out.1.drew, HX.out.2.1, HX.out.2.2.drew⟩
                        case measure => simp [intOf] <;> omega
                    · obtain rfl : t = K := by omega
                      have hti : ¬ (t : Int) < (t : Int) := by omega
                      have HNX : Hid (BR k ms p l0 l fl a (b + 1) 0) := hid (by have h := HBR.out; rw [← HK.out] at h; exact h.nextB)
                      have HX := hid (And.intro ho (And.intro hc hb))
                      clear ho hc hb HBR
                      go_wp2_with fail
                      go_roundw
                      case rel => exact ⟨l, fl, b + 1, by go_num, by have := HBA.out; omega, rfl, HNX.out, HX.out.1, HX.out.2.1, HX.out.2.2⟩
                      case measure => have := HBA.out; simp [intOf] <;> omega
                · obtain rfl : b = a := by omega
                  have hbi : ¬ (b : Int) < (b : Int) := by omega
                  have HNX := hid HBR.out.nextA
                  have HX := hid (And.intro ho (And.intro hc hb))
                  clear ho hc hb HBR
                  go_wp2_with fail
                  go_roundw
                  case rel => exact ⟨l, fl, b + 1, by go_num, by have := HAK.out; omega, rfl, HNX.out, HX.out.1, HX.out.2.1, HX.out.2.2⟩
                  case measure => have := HAK.out; simp [intOf] <;> omega
            · obtain rfl : a = k := by omega
              have hai : ¬ (a : Int) < (a : Int) := by omega
              have HX := hid (And.intro ho (And.intro hc hb))
              have hme : 2 * clsN a l + (if fl = true then 1 else 0) < gi := by
                have h1 := HG1.out
                cases fl with
                | true => have := HBR.out.yes rfl; simp; omega
                | false => rw [(HBR.out.no rfl).1]; simp; omega
              have HKE : Hid (fl = false → KeptC a ms l) := hid (fun h => by have h2 := HBR.out; rw [h] at h2; exact h2.closed)
              have HBK := hid HBR.out.bk
              clear ho hc hb HBR
              go_wp2_with fail
              go_roundg (2 * clsN a l + (if fl = true then 1 else 0))
              case rel => exact ⟨l, fl, rfl, HBK.out, HX.out.1, HX.out.2.1, HX.out.2.2, HKE.out, Nat.le_refl _⟩
              case measure => omega
end Go.Proofs.Ytnbgnoimanpjnaa
/-
  The walk over group.Primitive. Conditions: the slices can be read; numbers of 64 bits.
-/
namespace Go.Proofs.Ytnbgnoimanpjnaa
set_option linter.unusedVariables false
open Go.RowKit

/-- No cut is kept, as far as the program finds. -/
structure PrimP (n : Nat) (ms : List (Nat → Nat)) (O : Nat) (b : Bool) : Prop where
  yes : b = true → 2 ≤ n ∧ O ≤ 1 ∧ ∀ p, 1 ≤ p → p < n → ∃ c, BlkP n ms p c ∧ n ≤ c
  no : b = false → n < 2 ∨ 1 < O ∨ ∃ p c, 1 ≤ p ∧ p < n ∧ BlkP n ms p c ∧ c < n

theorem prim_bad (n : Int) (v : Value) (ll : List (List Int)) (w : World) (hl : RL w v ll) (hE : grpE n ll ≠ 0) :
    Calls Try.prog 35 #[.int .i64 n, v] w fun e w' => e = .returned (.tuple #[.bool false, .int .i64 (grpE n ll)]) ∧ Below w.heap.size w w' := by
  have HO := hid (gopen_bad n v ll w hl hE)
  obtain ⟨a, c, N, rfl, hN, hc1, hc2⟩ := hl.open
  have hb : (grpE n ll != 0) = true := bne_iff_ne.2 hE
  clear hE hl hc2
  generalize grpE n ll = E at *
  go_enter Try.func35, Try.ntmps35
  go_wp2_with fail
  refine HO.out.mono ?_
  rintro e w1 ⟨rfl, hb1⟩
  have HB := hid hb1
  clear hb1
  go_wp2
  go_ret2
  exact ⟨rfl, HB.out⟩

theorem BlkP_n {n : Nat} {ms : List (Nat → Nat)} {p c : Nat} (h : BlkP n ms p c) : c ≤ n := by
  obtain ⟨l, _, _, rfl⟩ := h
  exact Nat.le_trans (List.length_filter_le _ _) (by simp)

set_option maxHeartbeats 4000000 in
set_option maxRecDepth 100000 in
theorem prim_ok (n : Nat) (v : Value) (ll : List (List Int)) (w : World) (hl : RL w v ll) (hE : grpE (n : Int) ll = 0) :
    Calls Try.prog 35 #[.int .i64 n, v] w fun e w' => (∃ b : Bool, e = .returned (.tuple #[.bool b, .int .i64 0]) ∧ PrimP n (msL n ll) (orsL n (GL n (msL n ll)) n).length b) ∧ Below w.heap.size w w' := by
  have HO := hid (gopen_ok n v ll w hl hE)
  obtain ⟨n', hn', hG⟩ := gok_of hE
  obtain rfl : n = n' := by omega
  have hn7 := hG.n7
  have hlen := GL_len9 hG
  have hfb := fac7 n hG.n7
  have hml : (msL n ll).length ≤ 4 := by rw [msL_len]; exact hG.l4
  have HOR := hid (fun (B0 : Nat) (v : Value) (w : World) hv => orbits_ok n B0 v (GL n (msL n ll)) w hv hG.n7 hlen.1 (by omega) (GL_mv hG))
  have HBL := hid (fun (p : Nat) (v : Value) (w : World) hp hv => block_ok n p v (msL n ll) w hn7 hp hv hG.mv hml)
  have HOL : Hid (((orsL n (GL n (msL n ll)) n).map intsL).length = (orsL n (GL n (msL n ll)) n).length) := hid (by simp)
  have hol := orsL_len n (GL n (msL n ll)) n
  have HBN := hid (fun (p c : Nat) (h : BlkP n (msL n ll) p c) => BlkP_n h)
  obtain ⟨a, c, N, rfl, hN, hc1, hc2⟩ := hl.open
  clear hE hl hc2 hlen hG hn' hml hfb
  have HP1 := hid (fun (h : n < 2) => (⟨by simp, fun _ => Or.inl h⟩ : PrimP n (msL n ll) (orsL n (GL n (msL n ll)) n).length false))
  have HP2 := hid (fun (h : 1 < (orsL n (GL n (msL n ll)) n).length) => (⟨by simp, fun _ => Or.inr (Or.inl h)⟩ : PrimP n (msL n ll) (orsL n (GL n (msL n ll)) n).length false))
  have HP3 := hid (fun p c (h1 : 1 ≤ p) (h2 : p < n) (h3 : BlkP n (msL n ll) p c) (h4 : c < n) => (⟨by simp, fun _ => Or.inr (Or.inr ⟨p, c, h1, h2, h3, h4⟩)⟩ : PrimP n (msL n ll) (orsL n (GL n (msL n ll)) n).length false))
  have HP4 := hid (fun (h1 : 2 ≤ n) (h2 : (orsL n (GL n (msL n ll)) n).length ≤ 1) (h3 : ∀ p, 1 ≤ p → p < n → ∃ c, BlkP n (msL n ll) p c ∧ n ≤ c) => (⟨fun _ => ⟨h1, h2, h3⟩, by simp⟩ : PrimP n (msL n ll) (orsL n (GL n (msL n ll)) n).length true))
  generalize PrimP n (msL n ll) (orsL n (GL n (msL n ll)) n).length = PP at *
  generalize (orsL n (GL n (msL n ll)) n).map intsL = OO at *
  generalize (orsL n (GL n (msL n ll)) n).length = O at *
  generalize BlkP n (msL n ll) = BP at *
  generalize GL n (msL n ll) = L at *
  generalize msL n ll = ms at *
  go_enter Try.func35, Try.ntmps35
  go_wp2_with fail
  refine HO.out.mono ?_
  rintro e w1 ⟨⟨s, r, rfl, hs, hr⟩, hb1⟩
  have H1 := hid (And.intro hr (And.intro hs hb1))
  clear hb1 hs hr HO
  by_cases hn2 : n < 2
  · have hni : (n : Int) < 2 := by omega
    obtain ⟨a3, c3, e3⟩ := H1.out.2.1.len
    subst e3
    obtain ⟨a4, c4, e4⟩ := H1.out.1.len
    subst e4
    go_wp2
    go_ret2
    exact ⟨⟨_, rfl, HP1.out hn2⟩, H1.out.2.2⟩
  · have hni : ¬ (n : Int) < 2 := by omega
    obtain ⟨a3, c3, e3⟩ := H1.out.2.1.len
    subst e3
    obtain ⟨a4, c4, e4⟩ := H1.out.1.len
    subst e4
    have HC := HOR.out _ _ _ H1.out.1
    have HCC := hid HC
    clear HC
    go_wp2_with fail
    refine HCC.out.mono ?_
    rintro e w2 ⟨⟨q, rfl, hq⟩, hb2⟩
    obtain ⟨a5, c5, e5⟩ := hq.len
    rw [HOL.out] at e5
    subst e5
    have H2 := hid (And.intro (H1.out.2.1.below hb2) (H1.out.2.2.trans (hb2.mono H1.out.2.2.size)))
    clear hb2 hq H1 HCC HOR
    by_cases ho : 1 < O
    · have hoi : (O : Int) > 1 := by omega
      have HPX := hid (HP2.out ho)
      go_wp2
      go_ret2
      exact ⟨⟨_, rfl, HPX.out⟩, H2.out.2⟩
    · have hoi : ¬ (O : Int) > 1 := by omega
      have HP4' := hid (HP4.out (by omega) (by omega))
      clear HP1 HP2 HP4
      go_wp2_with fail
      go_loopw [9] (fun i wr => ∃ p : Nat, i = .int .i64 p ∧ 1 ≤ p ∧ p ≤ n ∧ Hid (∀ q, 1 ≤ q → q < p → ∃ c, BP q c ∧ n ≤ c) ∧ OM w.heap.size wr (.slice a3 ms.length c3) ms ∧ Below w.heap.size w wr) (fun i _ => n - (intOf i).toNat)
      case atStart => exact ⟨1, rfl, Nat.le_refl _, by omega, hid (fun q h1 h2 => by omega), H2.out.1, H2.out.2⟩
      case round =>
        clear H2
        obtain ⟨p, rfl, hp1, hp, HQ, hs, hb⟩ := hrel
        by_cases hpn : p < n
        · have hpi : (p : Int) < (n : Int) := by omega
          have HB := hid (HBL.out p _ wr hpn hs.rm)
          have HI := hid (And.intro hs hb)
          clear hs hb
          go_wp2_with fail
          refine HB.out.mono ?_
          rintro e w3 ⟨⟨c, rfl, hc⟩, hb3⟩
          have H3 := hid (And.intro (HI.out.1.below hb3) (HI.out.2.trans (hb3.mono HI.out.2.size)))
          have hcn := HBN.out _ _ hc
          have HC := hid hc
          clear hb3 hc
          by_cases hlt : c < n
          · have hci : (c : Int) < (n : Int) := by omega
            have HPX := hid (HP3.out p c hp1 hpn HC.out hlt)
            go_wp2
            go_ret2
            exact ⟨⟨_, rfl, HPX.out⟩, H3.out.2⟩
          · have hci : ¬ (c : Int) < (n : Int) := by omega
            go_wp2
            go_roundw
            case rel => exact ⟨p + 1, by go_num, by omega, by omega, hid (fun q h1 h2 => by
              by_cases e : q = p
              · subst e; exact ⟨c, HC.out, by omega⟩
              · exact HQ.out q h1 (by omega)), H3.out.1, H3.out.2⟩
            case measure => simp [intOf] <;> omega
        · obtain rfl : p = n := by omega
          have hpi : ¬ (p : Int) < (p : Int) := by omega
          have HPX := hid (HP4'.out HQ.out)
          have HB := hid hb
          clear hs hb
          go_wp2
          go_ret2
          exact ⟨.inr ⟨rfl, HPX.out⟩, HB.out⟩
end Go.Proofs.Ytnbgnoimanpjnaa
/-
  What moves t points everywhere: the order is a multiple of n (n - 1) ..; two points: nothing but everything is kept. No program in sight.
-/
namespace Go.Proofs.Ytnbgnoimanpjnaa
set_option linter.unusedVariables false

theorem split_keys (κ : (Nat → Nat) → List Int) (f : Nat) (M : List (Nat → Nat)) (hf : ∀ x ∈ M, (M.filter fun y => decide (κ y = κ x)).length = f) :
    ∀ D : List (List Int), D.Nodup → (∀ d ∈ D, ∃ x ∈ M, κ x = d) → (M.filter fun y => decide (κ y ∈ D)).length = D.length * f
  | [], _, _ => by simp
  | d :: D, hD, hd => by
    obtain ⟨h1, h2⟩ := List.nodup_cons.1 hD
    have ih := split_keys κ f M hf D h2 (fun e he => hd e (by simp [he]))
    obtain ⟨x, hx, rfl⟩ := hd d (by simp)
    have h3 := filt_add (fun y => decide (κ y = κ x)) (M.filter fun y => decide (κ y ∈ κ x :: D))
    rw [List.filter_filter, List.filter_filter] at h3
    have e1 : (M.filter fun y => decide (κ y = κ x) && decide (κ y ∈ κ x :: D)) = M.filter fun y => decide (κ y = κ x) := List.filter_congr fun y _ => by
      by_cases e : κ y = κ x
      · simp [e]
      · simp [e]
    have e2 : (M.filter fun y => (!(decide (κ y = κ x))) && decide (κ y ∈ κ x :: D)) = M.filter fun y => decide (κ y ∈ D) := List.filter_congr fun y _ => by
      by_cases e : κ y = κ x
      · simp [e, h1]
      · simp [e]
    rw [e1, e2, ih, hf x hx] at h3
    rw [h3, List.length_cons, Nat.succ_mul, Nat.add_comm]

section
variable {n : Nat} {ms : List (Nat → Nat)}
/-- Those that leave the first s points. -/
def stL (L : List (Nat → Nat)) (s : Nat) : List (Nat → Nat) := L.filter fun x => (List.range s).all fun i => x i == i
theorem mem_stL {L : List (Nat → Nat)} {s : Nat} {x : Nat → Nat} : x ∈ stL L s ↔ x ∈ L ∧ ∀ i, i < s → x i = i := by
  unfold stL
  rw [List.mem_filter, List.all_eq_true]
  constructor
  · rintro ⟨h1, h2⟩
    exact ⟨h1, fun i hi => by simpa using h2 i (List.mem_range.2 hi)⟩
  · rintro ⟨h1, h2⟩
    exact ⟨h1, fun i hi => by simpa using h2 i (List.mem_range.1 hi)⟩
theorem stL_zero (L : List (Nat → Nat)) : stL L 0 = L := by
  unfold stL
  rw [List.filter_eq_self]
  intro a _
  rfl
theorem imgS_nodup (L : List (Nat → Nat)) (t : Nat) : ∀ k, (imgS L t k).Nodup
  | 0 => List.nodup_nil
  | k + 1 => ins_nodup (imgS_nodup L t k)
theorem mem_imgS (L : List (Nat → Nat)) (t : Nat) (z : List Int) : ∀ k, z ∈ imgS L t k ↔ ∃ j, j < k ∧ z = mvI (trF t (L.getD j id))
  | 0 => by simp [imgS]
  | k + 1 => by
    rw [imgS, mem_ins, mem_imgS L t z k]
    constructor
    · rintro (h | ⟨j, hj, h⟩)
      · exact ⟨k, by omega, h⟩
      · exact ⟨j, by omega, h⟩
    · rintro ⟨j, hj, h⟩
      by_cases e : j = k
      · exact .inl (by rw [← e]; exact h)
      · exact .inr ⟨j, by omega, h⟩
theorem tr_eq {t : Nat} (ht : t ≤ 7) {x y : Nat → Nat} : mvI (trF t x) = mvI (trF t y) ↔ ∀ i, i < t → x i = y i := by
  constructor
  · intro h i hi
    have h1 := congrArg (fun l => l[i]?) h
    simp only [mvI, List.getElem?_map, List.getElem?_range (show i < 7 by omega), Option.map_some, Option.some.injEq, trF, if_pos hi] at h1
    omega
  · intro h
    unfold mvI
    refine List.map_congr_left fun i _ => ?_
    unfold trF
    split
    · rw [h i (by assumption)]
    · rfl
variable (hm : ∀ m ∈ ms, Mv n m)
include hm
/-- Elements that agree with a given one on the first t points: as many as leave them. -/
theorem agree_len {t : Nat} {x : Nat → Nat} (hx : GenF ms x) : ((GL n ms).filter fun y => (List.range t).all fun i => y i == x i).length = (stL (GL n ms) t).length := by
  have P := hx.mv hm
  have e : ((stL (GL n ms) t).map fun z => compF z x).length = (stL (GL n ms) t).length := by simp
  rw [← e]
  have hinj : ∀ a b, compF a x = compF b x → a = b := fun a b e => funext fun i => mv_inj P _ _ (congrFun e i)
  refine same_len ((GL_nodup n ms).filter _) ?_ fun y => ?_
  · unfold List.Nodup
    rw [List.pairwise_map]
    exact ((GL_nodup n ms).filter _).imp fun h e => h (hinj _ _ e)
  · rw [List.mem_filter, List.mem_map, List.all_eq_true]
    constructor
    · rintro ⟨h1, h2⟩
      have hy := (mem_GL hm y).1 h1
      refine ⟨compF y (bkF n x), mem_stL.2 ⟨(mem_GL hm _).2 (hy.mul (hx.bk hm)), fun i hi => ?_⟩, ?_⟩
      · have h3 : y i = x i := by simpa using h2 i (List.mem_range.2 hi)
        show bkF n x (y i) = i
        rw [h3]
        exact congrFun (comp_bk P) i
      · rw [comp_assoc, bk_comp P, comp_id]
    · rintro ⟨z, hz, rfl⟩
      obtain ⟨h1, h2⟩ := mem_stL.1 hz
      refine ⟨(mem_GL hm _).2 (((mem_GL hm z).1 h1).mul hx), fun i hi => ?_⟩
      have := h2 i (List.mem_range.1 hi)
      simp [compF, this]
theorem img_len (hn : n ≤ 7) {t : Nat} (ht : t ≤ n) : (GL n ms).length = imgN (GL n ms) t * (stL (GL n ms) t).length := by
  have h := split_keys (fun x => mvI (trF t x)) (stL (GL n ms) t).length (GL n ms) (fun x hx => by
    rw [← agree_len hm ((mem_GL hm x).1 hx)]
    congr 1
    refine List.filter_congr fun y _ => ?_
    rw [Bool.eq_iff_iff, decide_eq_true_eq, tr_eq (by omega), List.all_eq_true]
    constructor
    · intro h i hi
      rw [beq_iff_eq]
      exact h i (List.mem_range.1 hi)
    · intro h i hi
      simpa using h i (List.mem_range.2 hi)) (imgS (GL n ms) t (GL n ms).length) (imgS_nodup _ _ _) (fun d hd => by
    obtain ⟨j, hj, rfl⟩ := (mem_imgS _ _ _ _).1 hd
    exact ⟨_, getD_mem hj id, rfl⟩)
  unfold imgN
  rw [← h]
  congr 1
  symm
  rw [List.filter_eq_self]
  intro y hy
  rw [decide_eq_true_eq, mem_imgS]
  obtain ⟨j, hj, rfl⟩ := List.mem_iff_getElem.1 hy
  exact ⟨j, hj, by rw [List.getD_eq_getElem?_getD, List.getElem?_eq_getElem hj]; rfl⟩
theorem st_pos (s : Nat) : 1 ≤ (stL (GL n ms) s).length := List.length_pos_of_mem (mem_stL.2 ⟨(mem_GL hm id).2 GenF.one, fun _ _ => rfl⟩)
/-- Of those that leave the first s points, those that move s to q: none, or as many as leave one point more. -/
theorem st_to (s q : Nat) : ((stL (GL n ms) s).filter fun x => x s == q).length = 0 ∨ ((stL (GL n ms) s).filter fun x => x s == q).length = (stL (GL n ms) (s + 1)).length ∧ ∃ x, GenF ms x ∧ (∀ i, i < s → x i = i) ∧ x s = q := by
  by_cases h : ∃ x, x ∈ stL (GL n ms) s ∧ x s = q
  · obtain ⟨x, hx, rfl⟩ := h
    obtain ⟨h1, h2⟩ := mem_stL.1 hx
    have hg := (mem_GL hm x).1 h1
    refine .inr ⟨?_, x, hg, h2, rfl⟩
    rw [← agree_len (t := s + 1) hm hg]
    congr 1
    unfold stL
    rw [List.filter_filter]
    refine List.filter_congr fun y _ => ?_
    rw [Bool.eq_iff_iff, Bool.and_eq_true, beq_iff_eq, List.all_eq_true, List.all_eq_true]
    constructor
    · rintro ⟨h3, h4⟩ i hi
      have hi := List.mem_range.1 hi
      by_cases e : i = s
      · rw [e, h3, beq_self_eq_true]
      · rw [h2 i (by omega)]
        exact h4 i (List.mem_range.2 (by omega))
    · intro h3
      refine ⟨by simpa using h3 s (List.mem_range.2 (by omega)), fun i hi => ?_⟩
      have hi := List.mem_range.1 hi
      have := h3 i (List.mem_range.2 (by omega))
      rwa [h2 i hi] at this
  · refine .inl ?_
    rw [List.length_eq_zero_iff, List.filter_eq_nil_iff]
    intro x hx e
    exact h ⟨x, hx, by simpa using e⟩
omit hm in
theorem sum_le {g : Nat → Nat} {c : Nat} (h : ∀ q, g q ≤ c) : ∀ k, sumN g k ≤ k * c
  | 0 => by simp [sumN]
  | k + 1 => by
    have := sum_le h k
    have := h k
    simp only [sumN]
    rw [Nat.succ_mul]
    omega
omit hm in
theorem sum_low {g : Nat → Nat} {c s : Nat} (h : ∀ q, g q ≤ c) (h0 : ∀ q, q < s → g q = 0) : ∀ k, sumN g k ≤ (k - s) * c
  | 0 => by simp [sumN]
  | k + 1 => by
    have ih := sum_low h h0 k
    simp only [sumN]
    by_cases e : k < s
    · rw [h0 k e, show k + 1 - s = k - s by omega]
      exact ih
    · have := h k
      rw [show k + 1 - s = (k - s) + 1 by omega, Nat.succ_mul]
      omega
omit hm in
/-- One less than all: then one term is not full. -/
theorem sum_lost {g : Nat → Nat} {c s q0 : Nat} (h : ∀ q, g q ≤ c) (h0 : ∀ q, q < s → g q = 0) (hq : g q0 = 0) (hs : s ≤ q0) : ∀ k, q0 < k → sumN g k + c ≤ (k - s) * c
  | 0, hk => by omega
  | k + 1, hk => by
    simp only [sumN]
    rw [show k + 1 - s = (k - s) + 1 by omega, Nat.succ_mul]
    by_cases e : q0 = k
    · subst e
      have := sum_low h h0 q0
      omega
    · have ih := sum_lost h h0 hq hs k (by omega)
      have := h k
      omega
omit hm in
theorem st_low {s q : Nat} {L : List (Nat → Nat)} (hL : ∀ x ∈ L, Mv n x) (h : q < s) : ((stL L s).filter fun x => x s == q).length = 0 := by
  rw [List.length_eq_zero_iff, List.filter_eq_nil_iff]
  intro x hx e
  obtain ⟨h1, h2⟩ := mem_stL.1 hx
  have e : x s = q := by simpa using e
  have := mv_inj (hL x h1) s q (by rw [e, h2 q h])
  omega
theorem GL_all : ∀ x ∈ GL n ms, Mv n x := fun x hx => ((mem_GL hm x).1 hx).mv hm
theorem st_sum {s : Nat} (hs : s < n) : sumN (fun q => ((stL (GL n ms) s).filter fun x => x s == q).length) n = (stL (GL n ms) s).length :=
  count_split n (fun x => x s) _ fun x hx => (GL_all hm x (mem_stL.1 hx).1).pm.lt s hs
theorem st_each (s q : Nat) : ((stL (GL n ms) s).filter fun x => x s == q).length ≤ (stL (GL n ms) (s + 1)).length := by
  rcases st_to hm s q with h | ⟨h, _⟩ <;> omega
theorem st_le {s : Nat} (hs : s < n) : (stL (GL n ms) s).length ≤ (n - s) * (stL (GL n ms) (s + 1)).length := by
  rw [← st_sum hm hs]
  exact sum_low (st_each hm s) (fun q hq => st_low (GL_all hm) hq) n
theorem fall_le : ∀ s, s ≤ n → (GL n ms).length ≤ fallN n s * (stL (GL n ms) s).length
  | 0, _ => by rw [stL_zero, fallN, Nat.one_mul]; exact Nat.le_refl _
  | s + 1, h => by
    refine Nat.le_trans (fall_le s (by omega)) ?_
    rw [fallN, Nat.mul_assoc]
    exact Nat.mul_le_mul (Nat.le_refl _) (st_le hm (by omega))
theorem fall_eq (hn : n ≤ 7) {s : Nat} (hs : s ≤ n) (h : fallN n s ≤ imgN (GL n ms) s) : (GL n ms).length = fallN n s * (stL (GL n ms) s).length := by
  have h1 := img_len hm hn hs
  have h2 := fall_le hm s hs
  have h3 : fallN n s * (stL (GL n ms) s).length ≤ imgN (GL n ms) s * (stL (GL n ms) s).length := Nat.mul_le_mul h (Nat.le_refl _)
  omega
theorem deep_eq (hn : n ≤ 7) {r : Nat} (h : DeepP n (GL n ms) r) : ∀ s, s ≤ r → (GL n ms).length = fallN n s * (stL (GL n ms) s).length
  | 0, _ => by rw [stL_zero, fallN, Nat.one_mul]
  | s + 1, hs => fall_eq hm hn (by have := h.le; omega) (h.yes (s + 1) (by omega) hs)
/-- Each point from s on is reached from s by what leaves those ahead of it. -/
theorem deep_reach (hn : n ≤ 7) {r : Nat} (h : DeepP n (GL n ms) r) {s q : Nat} (hs : s < r) (hq : s ≤ q) (hqn : q < n) : ∃ x, GenF ms x ∧ (∀ i, i < s → x i = i) ∧ x s = q := by
  have hr := h.le
  have h1 := deep_eq hm hn h s (by omega)
  have h2 := deep_eq hm hn h (s + 1) (by omega)
  have hp : 0 < fallN n s := (fall_bd n hn s (by omega)).1
  rw [h1, fallN, Nat.mul_assoc] at h2
  have h3 : (stL (GL n ms) s).length = (n - s) * (stL (GL n ms) (s + 1)).length := Nat.eq_of_mul_eq_mul_left hp h2
  rcases st_to hm s q with h4 | ⟨_, h4⟩
  · exfalso
    have h5 := sum_lost (q0 := q) (st_each hm s) (fun q hq => st_low (GL_all hm) hq) h4 hq n hqn
    rw [st_sum hm (by omega)] at h5
    have := st_pos hm (s + 1)
    omega
  · exact h4
theorem deep_dvd (hn : n ≤ 7) {r : Nat} (h : DeepP n (GL n ms) r) : fallN n r ∣ (GL n ms).length := ⟨_, deep_eq hm hn h r (Nat.le_refl _)⟩
omit hm in
theorem KeptC.gen (hm : ∀ m ∈ ms, Mv n m) {l : Nat → Nat} (h : KeptC n ms l) {x : Nat → Nat} (hx : GenF ms x) : ∀ i j, i < n → j < n → l i = l j → l (x i) = l (x j) := by
  induction hx with
  | one => exact fun i j _ _ h => h
  | @step x m hx hmm ih =>
    intro i j hi hj e
    have P := hx.mv hm
    exact h m hmm _ _ (P.pm.lt i hi) (P.pm.lt j hj) (ih i j hi hj e)
theorem deep_orbits (hn : n ≤ 7) {r : Nat} (h : DeepP n (GL n ms) r) (hr : 2 ≤ r) : (orsL n (GL n ms) n).length ≤ 1 := by
  have hrn := h.le
  have hall : ∀ q, q < n → q ∈ orbL n (GL n ms) 0 := fun q hq => by
    obtain ⟨x, hx, _, e⟩ := deep_reach hm hn h (s := 0) (q := q) (by omega) (by omega) hq
    exact (mem_orb 0 q).2 ⟨hq, x, (mem_GL hm x).2 hx, e⟩
  have : ∀ p, p + 1 ≤ n → orsL n (GL n ms) (p + 1) = [orbL n (GL n ms) 0] := by
    intro p
    induction p with
    | zero => intro _; rfl
    | succ p ih =>
      intro hp
      rw [orsL, ih (by omega), if_pos]
      simp only [List.any_cons, List.any_nil, Bool.or_false, List.contains_iff_mem]
      exact hall _ (by omega)
  obtain ⟨k, rfl⟩ : ∃ k, n = k + 1 := ⟨n - 1, by omega⟩
  rw [this k (Nat.le_refl _)]
  simp
theorem deep_block (hn : n ≤ 7) {r : Nat} (h : DeepP n (GL n ms) r) (hr : 2 ≤ r) {p c : Nat} (hp1 : 1 ≤ p) (hp : p < n) (hb : BlkP n ms p c) : c = n := by
  obtain ⟨l, hk, hc, rfl⟩ := hb
  have h0 : ∀ q, q < n → l 0 = l q := fun q hq => by
    by_cases e : q = 0
    · rw [e]
    · obtain ⟨x, hx, hx0, hx1⟩ := deep_reach hm hn h (s := 1) (q := p) (by omega) hp1 hp
      obtain ⟨y, hy, hy0, hy1⟩ := deep_reach hm hn h (s := 1) (q := q) (by omega) (by omega) hq
      have P := hx.mv hm
      have k := hc.gen hm ((hx.bk hm).mul hy) 0 p (by omega) hp hk.eq
      have e0 : bkF n x 0 = 0 := by
        have := congrFun (comp_bk P) 0
        simp only [compF, hx0 0 (by omega)] at this
        exact this
      have e1 : bkF n x p = 1 := by
        have := congrFun (comp_bk P) 1
        simp only [compF, hx1] at this
        exact this
      simp only [compF, e0, e1, hy0 0 (by omega), hy1] at k
      exact k
  rw [show (List.range n).filter (fun i => l i == l 0) = List.range n by
    rw [List.filter_eq_self]
    intro q hq
    rw [beq_iff_eq]
    exact (h0 q (List.mem_range.1 hq)).symm]
  simp
theorem deep_prim (hn : n ≤ 7) {r : Nat} (h : DeepP n (GL n ms) r) (hr : 2 ≤ r) {b : Bool} (hb : PrimP n ms (orsL n (GL n ms) n).length b) : b = true := by
  cases b with
  | true => rfl
  | false =>
    have hrn := h.le
    rcases hb.no rfl with e | e | ⟨p, c, h1, h2, h3, h4⟩
    · omega
    · have := deep_orbits hm hn h hr
      omega
    · have := deep_block hm hn h hr h1 h2 h3
      omega
end
end Go.Proofs.Ytnbgnoimanpjnaa
/-
  The walk over parterrelaw1.GroupDeepest. Conditions: the slices can be read; numbers of 64 bits.
-/
namespace Go.Proofs.Ytnbgnoimanpjnaa
set_option linter.unusedVariables false
open Go.RowKit

set_option maxHeartbeats 1000000 in
theorem gdeep_bad (w : World) (n : Int) (v : Value) (ll : List (List Int)) (hl : RL w v ll) (hE : grpE n ll ≠ 0) :
    Calls Try.prog 8 #[.int .i64 n, v] w fun e w' => e = .returned (.bool true) ∧ Below w.heap.size w w' := by
  have HM := hid (fun w1 => lmade_ok w1)
  have HO := hid (fun w1 (hb : Below w.heap.size w w1) => deep_bad n v ll w1 (hl.below hb) hE)
  obtain ⟨a, c, N, rfl, hN, hc1, hc2⟩ := hl.open
  have hb : (grpE n ll != 0) = true := bne_iff_ne.2 hE
  clear hE hl hc2
  generalize grpE n ll = E at *
  go_enter Try.func8, Try.ntmps8
  go_wp2_with fail
  refine (HM.out _).mono ?_
  rintro e w1 ⟨rfl, hb1⟩
  have H1 := hid hb1
  clear hb1
  go_wp2_with fail
  refine (HO.out _ H1.out).mono ?_
  rintro e w2 ⟨rfl, hb2⟩
  have H2 := hid (H1.out.trans (hb2.mono H1.out.size))
  clear hb2
  go_wp2
  go_ret
  exact ⟨rfl, H2.out⟩

set_option maxHeartbeats 4000000 in
set_option maxRecDepth 100000 in
theorem gdeep_ok (w : World) (n : Nat) (v : Value) (ll : List (List Int)) (hl : RL w v ll) (hE : grpE (n : Int) ll = 0) :
    Calls Try.prog 8 #[.int .i64 n, v] w fun e w' => e = .returned (.bool true) ∧ Below w.heap.size w w' := by
  obtain ⟨n', hn', hG⟩ := gok_of hE
  obtain rfl : n = n' := by omega
  have hn7 := hG.n7
  have hlen := GL_len9 hG
  have hfb := fac7 n hn7
  have HM := hid (fun w1 => lmade_ok w1)
  have HD := hid (fun w1 (hb : Below w.heap.size w w1) => deep_ok n v ll w1 (hl.below hb) hE)
  have HO := hid (fun w1 (hb : Below w.heap.size w w1) => order_ok n v ll w1 (hl.below hb) hE)
  have HP := hid (fun w1 (hb : Below w.heap.size w w1) => prim_ok n v ll w1 (hl.below hb) hE)
  have HDP := hid (fun r (h : DeepP n (GL n (msL n ll)) r) => (⟨h.le, deep_dvd hG.mv hn7 h, fun (h2 : 2 ≤ r) b hb => deep_prim hG.mv hn7 h h2 (b := b) hb⟩ : r ≤ n ∧ fallN n r ∣ (GL n (msL n ll)).length ∧ (2 ≤ r → ∀ b, PrimP n (msL n ll) (orsL n (GL n (msL n ll)) n).length b → b = true)))
  have HF0 : Hid (fallN n 0 = 1) := hid rfl
  have HFS : Hid (∀ t, fallN n (t + 1) = fallN n t * (n - t)) := hid (fun t => rfl)
  have HFB := hid (fall_bd n hn7)
  obtain ⟨a, c, N, rfl, hN, hc1, hc2⟩ := hl.open
  clear hE hl hc2 hG hn'
  generalize PrimP n (msL n ll) (orsL n (GL n (msL n ll)) n).length = PP at *
  generalize DeepP n (GL n (msL n ll)) = DP at *
  generalize (GL n (msL n ll)).length = O at *
  generalize fallN n = FN at *
  go_enter Try.func8, Try.ntmps8
  go_wp2_with fail
  refine (HM.out _).mono ?_
  rintro e w1 ⟨rfl, hb1⟩
  have H1 := hid hb1
  clear hb1
  go_wp2_with fail
  refine (HD.out _ H1.out).mono ?_
  rintro e w2 ⟨⟨r, rfl, hr⟩, hb2⟩
  have H2 := hid (H1.out.trans (hb2.mono H1.out.size))
  clear hb2
  obtain ⟨hrn, hdv, hp2⟩ := HDP.out r hr
  have HR := hid (And.intro hdv hp2)
  clear hr hdv hp2 HDP
  go_wp2_with fail
  refine (HO.out _ H2.out).mono ?_
  rintro e w3 ⟨rfl, hb3⟩
  have H3 := hid (H2.out.trans (hb3.mono H2.out.size))
  clear hb3
  go_wp2_with fail
  refine (HP.out _ H3.out).mono ?_
  rintro e w4 ⟨⟨b, rfl, hb⟩, hb4⟩
  have H4 := hid (H3.out.trans (hb4.mono H3.out.size))
  have HB := hid (fun h2 => HR.out.2 h2 b hb)
  clear hb4 hb
  go_wp2_with fail
  go_loopw [12, 13] (fun v12 v13 wr => ∃ k : Nat, v13 = .int .i64 k ∧ k ≤ r ∧ v12 = .int .i64 (FN k : Nat) ∧ wr = w4) (fun _ v13 _ => r - (intOf v13).toNat)
  case atStart => exact ⟨0, rfl, Nat.zero_le _, by rw [HF0.out]; rfl, rfl⟩
  case round =>
    obtain ⟨k, rfl, hk, rfl, hw⟩ := hrel
    subst hw
    have hfb := HFB.out k (by omega)
    by_cases hkr : k < r
    · have hki : (k : Int) < (r : Int) := by omega
      have hfb1 := HFB.out (k + 1) (by omega)
      have hfs := HFS.out k
      have hmul : ((FN k : Nat) : Int) * ((n : Int) - (k : Int)) = ((FN (k + 1) : Nat) : Int) := by
        rw [hfs, Int.natCast_mul]
        congr 1
        omega
      clear hfs
      go_wp2
      go_roundw
      case rel => exact ⟨k + 1, by go_num, by omega, rfl, trivial⟩
      case measure => simp [intOf] <;> omega
    · obtain rfl : k = r := by omega
      have hki : ¬ (k : Int) < (k : Int) := by omega
      have hO1 : ¬ ((O : Nat) : Int) < 1 := by omega
      have hrem : ((O : Nat) : Int).tmod ((FN k : Nat) : Int) = 0 := by
        obtain ⟨z, hz⟩ := HR.out.1
        rw [hz, Int.natCast_mul]
        exact Int.mul_tmod_right _ _
      have hF0 : ((FN k : Nat) : Int) ≠ 0 := by omega
      by_cases hk2 : k < 2
      · have hk2i : (k : Int) < 2 := by omega
        go_wp2
        go_ret
        exact ⟨rfl, H4.out⟩
      · have hk2i : ¬ (k : Int) < 2 := by omega
        obtain rfl := HB.out (by omega)
        go_wp2
        go_ret
        exact ⟨rfl, H4.out⟩

theorem gdeep_walk (w : World) (n : Int) (_hn : I64 n) (v : Value) (ll : List (List Int)) (hl : RL w v ll) (_hll : ∀ l ∈ ll, ∀ x ∈ l, I64 x) :
    Calls Try.prog 8 #[.int .i64 n, v] w fun e w' => e = .returned (.bool true) ∧ Below w.heap.size w w' := by
  by_cases hE : grpE n ll = 0
  · obtain ⟨n', rfl, hG⟩ := gok_of hE
    exact gdeep_ok w n' v ll hl hE
  · exact gdeep_bad w n v ll hl hE
end Go.Proofs.Ytnbgnoimanpjnaa
namespace Go.Proofs.Ytnbgnoimanpjnaa.groupDeepest
open Go.ChangeShapes Go.WideShapes Go.ChangeAt Go.RowKit
set_option linter.unusedVariables false

theorem own : ownKnob Try.prog.godebug = none := by kernel_rfl
theorem laidOut : laidOutB Try.prog = true := by kernel_rfl
set_option maxRecDepth 100000 in
theorem lifted (os : Os) (started : os.Started) (H : Type) (enc : TypeId × Value → H) :
    ReturnsInHanded {} Try.checked os 8 .any (Rows.groupDeepestSpec.pre6 enc Try.prog Try.f8 Rows.groupDeepestRow.domain false) (Rows.groupDeepestSpec.post enc Try.prog Try.f8 false true false false) := by
  refine returnsInHanded_of_change_sized (C := Try.checked) own started (by kernel_rfl) Try.func8
    (ChangeSpec.witness6 (enc := enc) (C := Try.checked) false ⟨#[], #[.int .i64 0, .slice none 0 0], []⟩ 8 (by kernel_rfl) (by kernel_rfl) (by kernel_rfl) (by kernel_rfl)) ?_
  intro W base args ds gs before hval0 hW hcnd hsz0 _
  have hval : ∀ (j : Nat) t v, Try.f8.params[j]? = some t → args[j]? = some v → Value.okWide Try.prog W .any base t v := hval0
  have hsz : (DataW.weightsEach Try.prog (Try.f8.params.toList ++ Rows.groupDeepestSpec.plain.varTypes Try.prog) (ds ++ gs)).all (· ≤ reachBytes) = true := hsz0
  have hW' := hW
  obtain ⟨p, q, hA0, hV, rfl, hfz, hnd⟩ := hW
  have hA : DataW.TrodAll enc Try.prog W 0 (fun _ => true) true Try.f8.params.toList args.toList ds p := hA0
  rw [Try.params8] at hA hval hsz
  obtain ⟨v0, vs0, d0, ds0, p0, q0, hargs, rfl, rfl, h0, r0⟩ := trodAll_cons hA
  obtain ⟨v1, vs1, d1, ds1, p1, q1, rfl, rfl, rfl, h1, r1⟩ := trodAll_cons r0
  obtain ⟨rfl, rfl, rfl⟩ := trodAll_nil r1
  obtain rfl : args = #[v0, v1] := by cases args; simp_all
  obtain ⟨rfl, rfl⟩ := trodVars_none hV
  obtain ⟨a0, rfl, rfl, rfl, w0⟩ := open_int Try.underlying3 (hval 0 3 v0 rfl rfl) h0
  obtain ⟨a1, len1, cap1, rfl⟩ := okWide_slice Try.underlying22 (hval 1 22 v1 rfl rfl)
  have k1 := h1
  have lt1 : ∀ x ∈ p1, x.block < W.heap.size := by obtain ⟨m, hm⟩ := k1; exact DataW.trod_lt m _ _ _ hm
  obtain ⟨z1, s1, b1⟩ : ∃ l, RL W (.slice a1 len1 cap1) l ∧ ∀ m ∈ l, ∀ x ∈ m, I64 x := by
    obtain ⟨fuel, hf⟩ := h1
    exact rl_of_open Try.underlying22 Try.underlying23 Try.underlying3 (by kernel_rfl) (by kernel_rfl) (by kernel_rfl) (by kernel_rfl) hf (fun elems spare hd => by subst hd; exact sized_rows hsz (j := 1) (t := 22) (e := 23) (q := 3) rfl rfl Try.underlying22 Try.underlying23)
  clear hA0 hval0 hsz hsz0
  refine (gdeep_walk W a0 (I64.of_wf w0) _ z1 s1 b1).mono fun e W' ⟨he, bel⟩ => ?_
  subst he
  exact ⟨_, rfl, _, _, _, [], _, [], hW', trodAll_mk1 (shut_bool Try.underlying4 _), (trodAll_cons_mk (shut_int Try.underlying3 w0) (trodAll_cons_mk (Below.trod laidOut (by kernel_rfl) (of_decide_eq_true (by kernel_rfl)) k1 bel lt1) trodAll_mk0)), rfl, bel.frame _, fun h => by cases h⟩

theorem over : Rows.groupDeepestRow.holds Try.pinned (OpenSpec.ofChange Rows.groupDeepestSpec) :=
  OpenClaim.holds_of_wide 8 Try.f8 rfl rfl rfl rfl rfl rfl rfl ⟨rfl, rfl, rfl, rfl, rfl⟩ rfl rfl rfl rfl rfl (by kernel_rfl) Try.func8 (by kernel_rfl)
    (of_decide_eq_true (by kernel_rfl)) (by unfold Func.isWrapper; first | (rw [if_pos (by decide +kernel)]; kernel_rfl) | (rw [if_neg (by decide +kernel)]; exact ⟨rfl, rfl⟩))
    (fun os started H enc _ => lifted os started H enc)

/-- The statement. -/
theorem proved : Rows.GroupDeepestSaid := over
#print axioms proved
end Go.Proofs.Ytnbgnoimanpjnaa.groupDeepest
