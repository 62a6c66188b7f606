/-
  The law parterrelaw1.PermTexts: for every input of bulk at most 1048576 it returns true, and what it was handed reads afterwards as before. Condition: the listed variables hold what the program's text lays; of what is read, at most 1048576 values and letters.
-/
import Derived.Test.YtgfdddknajeknaaDoorTltxt
import Derived.Test.YtgfdddknajeknaaDoorTshap
import Derived.Test.YtgfdddknajeknaaDoorCards
import Derived.Test.YtgfdddknajeknaaDoorTie
import Derived.SevenTiedAt
import Derived.ProofKit
import Derived.OpenShut
import Derived.SizedLaws
import Derived.ChangeMaps5
namespace Go.Proofs.YtgfdddknajeknaaDoor.permTextsUpto
open Go.ChangeShapes Go.WideShapes Go.ChangeAt Go.RowKit Go.ChangeMaps
set_option linter.unusedVariables false

theorem own : ownKnob Tryd.prog.godebug = none := by kernel_rfl
theorem laidOut : laidOutB Tryd.prog = true := by kernel_rfl
theorem bulk_le {H : Type} {d : DataW H} {l : List (DataW H)} (h : d ∈ l) : Rows.uptoBulk d ≤ Rows.uptoBulkAll l := by
  induction l with
  | nil => cases h
  | cons x r ih =>
    simp only [Rows.uptoBulkAll]
    cases List.mem_cons.1 h with
    | inl e => subst e; omega
    | inr e => have := ih e; omega
theorem bulk_string {H : Type} {bytes : List UInt8} {l : List (DataW H)} (h : DataW.lit (.string bytes) ∈ l) (hk : Rows.uptoSmall H l = true) : bytes.length ≤ 1000000000 := by
  have h1 := bulk_le h
  have h2 : Rows.uptoBulkAll l ≤ 1048576 := of_decide_eq_true hk
  have h3 : Rows.uptoBulk (DataW.lit (H := H) (.string bytes)) = bytes.length + 1 := by simp [Rows.uptoBulk]
  omega
theorem reads (os : Os) {H : Type} (enc : TypeId × Value → H) : ∃ places, DataW.whole enc Tryd.prog ((World.laidAll Tryd.prog os Rows.permTextsRow.laid).forCall (fun _ _ => 0) ⟨#[], #[.slice none 0 0, .string ByteArray.empty, .int .i64 0], []⟩).memory Tryd.f3.params.toList Rows.permTextsSpec.vars false (#[.slice none 0 0, .string ByteArray.empty, .int .i64 0] : Array Value).toList 8 = some ([.nil, .lit (.string []), .lit (.int .i64 0)], [], places) :=
  ⟨[], by kernel_rfl⟩
set_option maxRecDepth 100000 in
theorem lifted (os : Os) (started : os.Started) (H : Type) (enc : TypeId × Value → H) (F : Stop.Interp) :
    ReturnsInHanded {} Tryd.checked os 3 .any ((Rows.OpenSpec.upto Rows.permTextsSpec).preRow enc Tryd.prog Tryd.f3 Rows.permTextsUptoRow.domain false Rows.permTextsUptoRow.laid) (((Rows.OpenSpec.upto Rows.permTextsSpec).at F).post enc Tryd.prog Tryd.f3 false true false false) := by
  obtain ⟨places, hx⟩ := reads os enc
  refine returnsInHanded_of_row (C := Tryd.checked) (s := Rows.OpenSpec.upto Rows.permTextsSpec) own started (by kernel_rfl) Tryd.func3
    (witness_row_sh (enc := enc) (C := Tryd.checked) false (World.laidAll Tryd.prog os Rows.permTextsRow.laid) #[.slice none 0 0, .string ByteArray.empty, .int .i64 0] (World.laidAll_os _ _ _) (laid_shaped os _) (by kernel_rfl)
      (OpenSpec.preRow_of_cond 8 hx (by kernel_rfl) (fun k hk => by cases hk; kernel_rfl) (by kernel_rfl) (laid_met_all os _))) ?_
  intro W base args ds gs before hval0 hW hcnd hcond hsz0 hL hS _
  have hlib := lib_of hL hS
  have hval : ∀ (j : Nat) t v, Tryd.f3.params[j]? = some t → args[j]? = some v → Value.okWide Tryd.prog W .any base t v := hval0
  have hsz : (DataW.weightsEach Tryd.prog (Tryd.f3.params.toList ++ Rows.permTextsSpec.plain.varTypes Tryd.prog) (ds ++ gs)).all (· ≤ reachBytes) = true := hsz0
  have hW' := hW
  obtain ⟨p, q, hA0, hV, rfl, hfz, hnd⟩ := hW
  have hA : DataW.TrodAll enc Tryd.prog W 0 (fun _ => true) true Tryd.f3.params.toList args.toList ds p := hA0
  rw [Tryd.params3] at hA hval hsz
  obtain ⟨v0, vs0, d0, ds0, p0, q0, hargs, rfl, rfl, h0, r0⟩ := trodAll_cons hA
  obtain ⟨v1, vs1, d1, ds1, p1, q1, rfl, rfl, rfl, h1, r1⟩ := trodAll_cons r0
  obtain ⟨v2, vs2, d2, ds2, p2, q2, rfl, rfl, rfl, h2, r2⟩ := trodAll_cons r1
  obtain ⟨rfl, rfl, rfl⟩ := trodAll_nil r2
  obtain rfl : args = #[v0, v1, v2] := by cases args; simp_all
  obtain ⟨rfl, rfl⟩ := trodVars_none hV
  obtain ⟨a0, len0, cap0, rfl⟩ := okWide_slice Tryd.underlying22 (hval 0 22 v0 rfl rfl)
  have k0 := h0
  have lt0 : ∀ x ∈ p0, x.block < W.heap.size := by obtain ⟨m, hm⟩ := k0; exact DataW.trod_lt m _ _ _ hm
  obtain ⟨z0, s0, b0⟩ : ∃ l, Sl W (.slice a0 len0 cap0) l ∧ ∀ x ∈ l, I64 x := by
    obtain ⟨fuel, hf⟩ := h0
    exact sl_of_open Tryd.underlying22 Tryd.underlying3 (by kernel_rfl) (by kernel_rfl) hf (fun elems spare hd => by subst hd; exact sized_slice hsz (j := 0) (t := 22) (e := 3) rfl rfl Tryd.underlying22)
  obtain ⟨a1, rfl, rfl, rfl, w1⟩ := open_string Tryd.underlying9 (hval 1 9 v1 rfl rfl) h1
  have y1 : a1.data.toList.length ≤ 1000000000 := bulk_string (by simp) (hcond _ rfl)
  obtain ⟨a2, rfl, rfl, rfl, w2⟩ := open_int Tryd.underlying3 (hval 2 3 v2 rfl rfl) h2
  clear hA0 hval0 hsz hsz0
  refine (permTexts_walk W hlib _ z0 s0 a1.data.toList y1 a2).mono fun e W' ⟨he, bel⟩ => ?_
  subst he
  exact ⟨_, rfl, _, _, _, [], _, [], hW', trodAll_mk1 (shut_bool Tryd.underlying4 _), (trodAll_cons_mk (Below.trod laidOut (by kernel_rfl) (of_decide_eq_true (by kernel_rfl)) k0 bel lt0) (trodAll_cons_mk (shut_string Tryd.underlying9 w1) (trodAll_cons_mk (shut_int Tryd.underlying3 w2) trodAll_mk0))), rfl, bel.frame _, fun h => by cases h⟩

theorem over : Rows.permTextsUptoRow.holds Tryd.pinned (Rows.OpenSpec.upto Rows.permTextsSpec) :=
  OpenClaim.holds_of_cond 3 Tryd.f3 rfl rfl rfl rfl rfl rfl rfl ⟨rfl, rfl, rfl, rfl, rfl⟩ rfl rfl rfl rfl rfl (by kernel_rfl) Tryd.func3 (by kernel_rfl)
    (of_decide_eq_true (by kernel_rfl)) (by unfold Func.isWrapper; first | (rw [if_pos (by decide +kernel)]; kernel_rfl) | (rw [if_neg (by decide +kernel)]; exact ⟨rfl, rfl⟩))
    (fun os started H enc _ F => by rw [OpenClaim.pre_eq_preRow]; exact lifted os started H enc F)

/-- The card: the row, and what it lists tied to the text of the program. -/
theorem proved : Rows.PermTextsUptoCardSaid :=
  Claim7.holds_tied_plain_at .later [] _ _ _ _
    over (fun _ h => by cases h) (by kernel_rfl) (fun _ h => by cases h) permTextsUpto_row_tie rfl ⟨rfl, rfl⟩ (by kernel_rfl) rfl
    (fun f fn hf hfn => by
      obtain rfl : f = 3 := Option.some.inj ((show Tryd.prog.funcNamed "parterre/parterrelaw1.PermTexts" = some 3 by kernel_rfl).symm.trans hf) |>.symm
      obtain rfl : fn = Tryd.f3 := (Option.some.inj (Tryd.func3.symm.trans hfn)).symm
      exact ⟨by kernel_rfl, fun j t ht => by
        rw [Tryd.params3] at ht
        have hm : t ∈ [22, 9, 3] := by simpa using Array.mem_of_getElem? ht
        have hall : ([22, 9, 3].all fun u => !Tryd.prog.wantsStandIn u) = true := by kernel_rfl
        exact (show Tryd.prog.wantsStandIn t = false by simpa using List.all_eq_true.1 hall t hm)⟩)
    (by kernel_rfl)
#print axioms proved
end Go.Proofs.YtgfdddknajeknaaDoor.permTextsUpto
