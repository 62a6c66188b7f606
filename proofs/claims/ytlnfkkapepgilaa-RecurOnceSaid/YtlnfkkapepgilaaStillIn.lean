/-
  A law of our own: a region that draws its order, of reads and then a fixed tail, inside a round of a range over a function: by the kit's law for such a region outside. Conditions: no operation defers; the end that is asked for lets nothing out.
-/
import Derived.Test.YtlnfkkapepgilaaBase
import Derived.OrdersIn
import Derived.StillTailTactics
namespace Go.Proofs.Ytlnfkkapepgilaa
set_option linter.unusedVariables false
open Go.RowKit

theorem uponIn_of_upon {P : Program} {o : Oper} {a : Act} {K : Act → World → Prop} {Q : Exit → Act → World → Prop} {n l : Nat} {r : Result Next} (h : o.upon P a K Q r) : o.uponIn (Fence.wide.inRound l) n P a K Q r := by
  cases r with
  | ok x w' =>
    cases x <;> simp only [Oper.upon, Oper.uponIn] at h ⊢ <;>
      first
        | exact h
        | exact ⟨fun e => by simp [Fence.wide] at e, (callsIn_wide (n := n - 1)).2 h⟩
        | exact ⟨fun e => by simp [Fence.wide] at e, fun c cs _ => (h c cs).imp fun v hv => hv.imp fun w'' hw => ⟨hw.1, stepsIn_wide.2 hw.2⟩⟩
        | exact h.elim
  | halt x w' => cases x <;> simp only [Oper.upon, Oper.uponIn] at h ⊢ <;> exact h
def noDefer (ops : Array Oper) : Bool := ops.all fun o => match o.op with | .defer _ => false | _ => true
theorem noDefer_spec {ops : Array Oper} (h : noDefer ops = true) {j : Nat} {o : Oper} (hj : ops[j]? = some o) : ∀ c, o.op ≠ .defer c := by
  intro c e
  have := Array.all_eq_true_iff_forall_mem.1 h o (Array.mem_of_getElem? hj)
  rw [e] at this
  cases this
theorem wpAnyIn_of_wpAny {P : Program} {md : Region.Mode} {ops : Array Oper} {Q : Exit → Act → World → Prop} {n l : Nat} (hd : noDefer ops = true) (hQ : ¬ LetsOut Q) :
    ∀ (f : Nat) (listed : Array Bool) (a : Act) (w : World), wpAny P md ops Q f listed a w → wpAnyIn (Fence.wide.inRound l) n P md ops Q f listed a w
  | 0, _, _, _, h => h
  | f + 1, listed, a, w, h => by
    refine ⟨h.1, fun i hi => ?_⟩
    have h2 := h.2 i hi
    unfold wpOp at h2
    unfold wpOpIn
    cases ho : ops[i]? with
    | none =>
      simp only [ho] at h2 ⊢
      exact wpAnyIn_of_wpAny hd hQ f _ _ _ h2
    | some o =>
      simp only [ho] at h2 ⊢
      split
      · rename_i hw
      
        rw [if_pos hw] at h2
        rcases h2 with h2 | h2
        · refine Oper.wpIn_mono (fun a w => wpAnyIn_of_wpAny hd hQ f _ a w) ⟨fun _ _ => trivial, ?_⟩
          show o.uponIn (Fence.wide.inRound l) n P a _ Q ((o.semAt (some l) a.eval).run P w)
          rw [Oper.semAt_some l _ _ (noDefer_spec hd ho)]
          exact uponIn_of_upon h2
        · exact absurd h2.2 hQ
      · rename_i hw
        rw [if_neg hw] at h2
        exact ⟨fun _ _ => trivial, wpAnyIn_of_wpAny hd hQ f _ _ _ h2⟩

theorem wpIn_region_still_tail {P : Program} {id m l0 : Nat} {Q : Exit → Act → World → Prop} {a : Act} {w : World} {l : List Oper} (n : Nat) (hm : P.follows .mixedOrders = true) (hB : Region.lexTailB .any l.toArray n = true) (hd : noDefer l.toArray = true) (hQ : ¬ LetsOut Q)
    (h : wpStill P l.toArray { w with drawn := w.drawn + 1 } (fun a' => wpList P l.toArray Q (l.drop n) a' { w with drawn := w.drawn + 1 }) (l.take n) a) : (Code.region id l.toArray true).wpIn (Fence.wide.inRound l0) m P Q a w := by
  simp only [Region.lexTailB, Bool.and_eq_true, decide_eq_true_eq] at hB
  obtain ⟨⟨⟨⟨hsel, hn⟩, hs⟩, hc⟩, hlex⟩ := hB
  have hn' : n < l.length := by simpa using hn
  have htl : (l.take n).length = n := by simp; omega
  have hdl : (l.drop n).length = l.toArray.size - n := by simp
  have hfree : ∀ j, (Array.replicate l.toArray.size false).getD j false = false := getD_replicate_false _
  have inv : HeadInv .any l.toArray n (Array.replicate l.toArray.size false) :=
    ⟨by simp, fun j _ _ hj => (by rw [hfree] at hj; cases hj), fun t _ ht => getD_in (by simpa using ht) (hfree _)⟩
  have hH := wpAnyL_lex (md := .any) (g := l.toArray.size - n) hsel hs hc hn (l.take n) 0 _ a (fun j hj => by rw [htl] at hj; simp [hj]) (by simpa using htl) inv (by rw [htl]; exact hlex) h
  have hA := wpAny_of_head (Q' := Q) (g := l.toArray.size - n) (fun listed a' hL => by
    have := wpAny_of_seq (md := .any) (Q' := Q) (l.drop n) n listed a' { w with drawn := w.drawn + 1 } (fun j => by simp [List.getElem?_drop]) (by rw [hdl]; exact hL.1) hL.2
    rwa [hdl] at this) _ _ _ hH
  rw [htl, show n + (l.toArray.size - n) = l.toArray.size by omega] at hA
  exact wpIn_region_any hm (wpAnyIn_of_wpAny hd hQ _ _ _ _ hA)
end Go.Proofs.Ytlnfkkapepgilaa
