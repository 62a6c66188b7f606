/-
  A map of the call's own, by its keys alone: how many there are. Conditions as each law states.
-/
import Derived.Test.YtnbgnoimanpjnaaBase
import Derived.Maps.OwnSet
import Derived.Maps.OwnOps
namespace Go.Proofs.Ytnbgnoimanpjnaa
set_option linter.unusedVariables false
open Go.RowKit Go.Maps

/-- With one key more. -/
def ins {κ : Type} [DecidableEq κ] (x : κ) (S : List κ) : List κ := if x ∈ S then S else x :: S
theorem ins_nodup {κ : Type} [DecidableEq κ] {x : κ} {S : List κ} (h : S.Nodup) : (ins x S).Nodup := by
  unfold ins
  split
  · exact h
  · exact List.nodup_cons.2 ⟨by assumption, h⟩
theorem mem_ins {κ : Type} [DecidableEq κ] {x y : κ} {S : List κ} : y ∈ ins x S ↔ y = x ∨ y ∈ S := by
  unfold ins
  split
  · rename_i h
    constructor
    · exact .inr
    · rintro (rfl | h2)
      · exact h
      · exact h2
  · simp

/-- Block b is a map from K's to int's whose keys are those of S. -/
def KM {κ : Type} (K : TypeId) (f : κ → Value) (w : World) (b n : Nat) (S : List κ) : Prop :=
  ∃ D : DataW Unit, w.ownsMap Try.prog K (plainElem Try.prog 3) b n D ∧ S.Nodup ∧ size D = S.length ∧ ∀ x kl, keyOf Try.prog K (f x) = some kl → (has D kl = true ↔ x ∈ S)
section
variable {κ : Type} {K : TypeId} {f : κ → Value} {w w' : World} {b n : Nat} {S : List κ}
theorem KM.new (K : TypeId) (f : κ → Value) (w : World) : KM K f (w.alloc (.map #[] 0)) w.heap.size 0 [] :=
  ⟨_, World.ownsMap_made w _ _ _, List.nodup_nil, rfl, fun x kl _ => by simp [has]⟩
theorem KM.lt (h : KM K f w b n S) : b < w.heap.size := h.choose_spec.1.lt
theorem KM.kept {row : Option Nat} (h : KM K f w b n S) (hg : w.grownBy w' row) (hne : some b ≠ row) : KM K f w' b n S := by
  obtain ⟨D, h1, h2⟩ := h
  exact ⟨D, h1.kept hg hne, h2⟩
theorem KM.below (h : KM K f w b n S) (hb : Below w.heap.size w w') : KM K f w' b n S := by
  obtain ⟨D, h1, h2⟩ := h
  obtain ⟨es, clock, hm, r⟩ := h1
  have hlt : b < w.heap.size := (Array.getElem?_eq_some_iff.1 hm).1
  exact ⟨D, ⟨es, clock, (hb.block b hlt).trans hm, r⟩, h2⟩
theorem KM.mono (h : KM K f w b n S) {n' : Nat} (hn : n ≤ n') : KM K f w b n' S := by
  obtain ⟨D, h1, h2⟩ := h
  exact ⟨D, h1.mono hn, h2⟩
theorem KM.alloc (h : KM K f w b n S) (o : Obj) : KM K f (w.alloc o) b n S := h.kept (World.grownBy_alloc w o none) (by simp)
theorem KM.drew (h : KM K f w b n S) : KM K f w.drew b n S := h
theorem KM.put [DecidableEq κ] (L : Keyed Try.prog K) (hf : ∀ x y, f x = f y → x = y) {D : DataW Unit} {x : κ} {kl : Lit} {d : DataW Unit} (h0 : w.ownsMap Try.prog K (plainElem Try.prog 3) b n D) (h1 : S.Nodup) (h2 : size D = S.length)
    (h3 : ∀ x kl, keyOf Try.prog K (f x) = some kl → (has D kl = true ↔ x ∈ S)) (hk : keyOf Try.prog K (f x) = some kl) {m : Nat} (h4 : w'.ownsMap Try.prog K (plainElem Try.prog 3) b m (D.put kl d)) : KM K f w' b m (ins x S) := by
  refine ⟨_, h4, ins_nodup h1, ?_, fun y kl' hy => ?_⟩
  · rw [size_put (h0.tidy L)]
    unfold ins
    by_cases hx : x ∈ S
    · rw [if_pos ((h3 x kl hk).2 hx), if_pos hx, h2]
    · rw [if_neg (fun e => hx ((h3 x kl hk).1 e)), if_neg hx, h2, List.length_cons]
  · rw [mem_ins]
    by_cases e : kl' = kl
    · subst e
      have : y = x := hf _ _ (L.inj hy hk)
      rw [has_put_same h0.isMap (L.key hk)]
      simp [this]
    · rw [has_put_other e, h3 y kl' hy]
      constructor
      · exact .inr
      · rintro (rfl | h5)
        · rw [hk] at hy
          cases hy
          exact absurd rfl e
        · exact h5
/-- 'm[k] = v' at the operation. -/
theorem wpList_km [DecidableEq κ] {ops : Array Oper} {rest : List Oper} {o : Oper} {a : Act} {Q : Exit → Act → World → Prop}
    (hg : o.guard = none) (m x v : Operand) (t : TypeId) (hop : o.op = Op.mapUpdate t m x v) (K : TypeId) (f : κ → Value) (L : Keyed Try.prog K) (hf : ∀ x y, f x = f y → x = y) (ht : Try.prog.underlying t = some (.map K 3))
    (b n : Nat) (S : List κ) (hm : a.eval m = .map (some b)) (hown : KM K f w b n S) (hn : n < maxLen) (y : κ) (c : Int) (hx : a.eval x = f y) (hv : a.eval v = .int .i64 c) (hkey : ∃ kl, keyOf Try.prog K (f y) = some kl) (hc : (Lit.int .i64 c).wf = true)
    (hK : ∀ w', KM K f w' b (n + 1) (ins y S) → w.grownBy w' (some b) → wpList Try.prog ops Q rest (a.put o.dst undef) w') : wpList Try.prog ops Q (o :: rest) a w := by
  obtain ⟨D, h1, h2, h3, h4⟩ := hown
  obtain ⟨kl, hkl⟩ := hkey
  exact wpList_mapUpdate_own w hg m x v t hop K 3 L ht _ b n D hm h1 hn _ _ kl hx hv hkl _ [] (plainElem_int Try.underlying3 hc) fun w' h5 h6 => hK w' (KM.put L hf h1 h2 h3 h4 hkl h5) h6
/-- 'len(m)' at the operation. -/
theorem wpList_kmlen {ops : Array Oper} {rest : List Oper} {o : Oper} {a : Act} {Q : Exit → Act → World → Prop}
    (hg : o.guard = none) (m : Operand) (t : TypeId) (hop : o.op = Op.call { callee := Callee.builtin Builtin.len, args := #[m], argTypes := #[t] }) (K : TypeId) (f : κ → Value) (ht : Try.prog.underlying t = some (.map K 3))
    (b n : Nat) (S : List κ) (hm : a.eval m = .map (some b)) (hown : KM K f w b n S) (hK : wpList Try.prog ops Q rest (a.put o.dst (.int .i64 (S.length : Nat))) w) : wpList Try.prog ops Q (o :: rest) a w := by
  obtain ⟨D, h1, h2, h3, h4⟩ := hown
  refine wpList_len_own w hg m t hop K 3 ht _ b n D hm h1 ?_
  rw [h3]
  exact hK
/-- The answer of 'len(m)', ahead of a walk. -/
theorem KM.len {t : TypeId} (ht : Try.prog.underlying t = some (.map K 3)) (h : KM K f w b n S) (ty : TypeId) : (Builtin.len_ #[t] ty #[.map (some b)]).run Try.prog w = .ok (.int .i64 (S.length : Nat)) w := by
  obtain ⟨D, h1, h2, h3, h4⟩ := h
  rw [h1.len ht ty, h3]
end
end Go.Proofs.Ytnbgnoimanpjnaa
