/-
  count's map of kinds, by what it answers: made, an entry counted up, ranged over in any order. Conditions as each law states.
-/
import Derived.Test.YtnbgnoimanpjnaaGkeys
import Derived.Maps.RangeWalk
import Derived.WideKeyEntry
namespace Go.Proofs.Ytnbgnoimanpjnaa
set_option linter.unusedVariables false
open Go.RowKit Go.Maps Go.WideElems Go.ChangeMaps

theorem kindLaw0 : Go.WideMaps.KeyLaw Try.prog 85 := deep_law_laid laidOutG (m := 2) (by omega) (of_decide_eq_true (by kernel_rfl)) (by kernel_rfl) (by rw [Try.underlying85])
theorem kindLaw : Keyed Try.prog 85 := Keyed.of_law kindLaw0
/-- The eight numbers of a kind. -/
def kdI (f : Nat → Nat) : List Int := (List.range 8).map fun i => ((f i : Nat) : Int)
theorem kdI_inj {f g : Nat → Nat} : kdI f = kdI g ↔ ∀ i, i < 8 → f i = g i := by
  constructor
  · intro h i hi
    have h1 := congrArg (fun l => l[i]?) h
    simp only [kdI, List.getElem?_map, List.getElem?_range hi, Option.map_some, Option.some.injEq] at h1
    omega
  · intro h
    unfold kdI
    exact List.map_congr_left fun i hi => by rw [h i (List.mem_range.1 hi)]
theorem kind_kt : Try.prog.keyType 85 = true := by kernel_rfl
theorem kind_cells : Try.prog.cellsOf 85 = 8 := by kernel_rfl
theorem kindKey {x : Nat → Nat} (h : ∀ i, i < 8 → x i ≤ 1000) : ∃ kl, keyOf Try.prog 85 (kF (kdI x)) = some kl := by
  have wf : ∀ i, i < 8 → (Lit.int .i64 ((x i : Nat) : Int)).wf = true := fun i hi => WalkArith.wf_i64 (by have := h i hi; omega)
  have w0 := wf 0 (by omega)
  have w1 := wf 1 (by omega)
  have w2 := wf 2 (by omega)
  have w3 := wf 3 (by omega)
  have w4 := wf 4 (by omega)
  have w5 := wf 5 (by omega)
  have w6 := wf 6 (by omega)
  have w7 := wf 7 (by omega)
  obtain ⟨m, hm⟩ := types_succG
  have e : kF (kdI x) = .agg #[.int .i64 (x 0 : Nat), .int .i64 (x 1 : Nat), .int .i64 (x 2 : Nat), .int .i64 (x 3 : Nat), .int .i64 (x 4 : Nat), .int .i64 (x 5 : Nat), .int .i64 (x 6 : Nat), .int .i64 (x 7 : Nat)] := rfl
  rw [e]
  suffices h : keyOf Try.prog 85 (.agg #[.int .i64 (x 0 : Nat), .int .i64 (x 1 : Nat), .int .i64 (x 2 : Nat), .int .i64 (x 3 : Nat), .int .i64 (x 4 : Nat), .int .i64 (x 5 : Nat), .int .i64 (x 6 : Nat), .int .i64 (x 7 : Nat)]) = some (.string (keyBytes [.int .i64 (x 0 : Nat), .int .i64 (x 1 : Nat), .int .i64 (x 2 : Nat), .int .i64 (x 3 : Nat), .int .i64 (x 4 : Nat), .int .i64 (x 5 : Nat), .int .i64 (x 6 : Nat), .int .i64 (x 7 : Nat)])) from ⟨_, h⟩
  unfold keyOf
  simp only [Try.underlying85]
  rw [if_pos (by simp [kind_kt, Value.formed, Try.underlying85, kind_cells]), hm]
  unfold Program.keyLits
  simp only [Try.underlying85, Value.cells]
  rw [if_pos (by rw [kind_cells]; rfl)]
  simp [int_cellsG, Program.keyLits, Try.underlying3, w0, w1, w2, w3, w4, w5, w6, w7, show List.range 8 = [0, 1, 2, 3, 4, 5, 6, 7] from rfl]

/-- What a map of kinds is by what it answers: its keys are those of S; at y stands C y. -/
structure KD (D : DataW Unit) (S : List (List Int)) (C : List Int → Int) : Prop where
  nd : S.Nodup
  key : ∀ y ∈ S, ∃ kl, keyOf Try.prog 85 (kF y) = some kl
  back : ∀ kl, has D kl = true → ∃ y ∈ S, keyOf Try.prog 85 (kF y) = some kl
  at' : ∀ y kl, keyOf Try.prog 85 (kF y) = some kl → (has D kl = true ↔ y ∈ S) ∧ D.atKey kl (.lit (.int .i64 0)) = .lit (.int .i64 (C y))
def KC (w : World) (b n : Nat) (S : List (List Int)) (C : List Int → Int) : Prop :=
  ∃ D : DataW Unit, w.ownsMap Try.prog 85 (plainElem Try.prog 3) b n D ∧ KD D S C
section
variable {w w' : World} {b n : Nat} {S : List (List Int)} {C : List Int → Int}
theorem KC.new (w : World) : KC (w.alloc (.map #[] 0)) w.heap.size 0 [] (fun _ => 0) :=
  ⟨_, World.ownsMap_made w _ _ _, List.nodup_nil, fun y h => by simp at h, fun kl h => by simp [has] at h, fun y kl h => ⟨by simp [has], rfl⟩⟩
theorem KC.lt (h : KC w b n S C) : b < w.heap.size := h.choose_spec.1.lt
theorem KC.kept {row : Option Nat} (h : KC w b n S C) (hg : w.grownBy w' row) (hne : some b ≠ row) : KC w' b n S C := by
  obtain ⟨D, h1, h2⟩ := h
  exact ⟨D, h1.kept hg hne, h2⟩
theorem KC.below (h : KC w b n S C) (hb : Below w.heap.size w w') : KC w' b n S C := by
  obtain ⟨D, h1, h2⟩ := h
  obtain ⟨es, clock, hm, r⟩ := h1
  have hlt : b < w.heap.size := (Array.getElem?_eq_some_iff.1 hm).1
  exact ⟨D, ⟨es, clock, (hb.block b hlt).trans hm, r⟩, h2⟩
theorem KC.mono (h : KC w b n S C) {n' : Nat} (hn : n ≤ n') : KC w b n' S C := by
  obtain ⟨D, h1, h2⟩ := h
  exact ⟨D, h1.mono hn, h2⟩
theorem KC.alloc (h : KC w b n S C) (o : Obj) : KC (w.alloc o) b n S C := h.kept (World.grownBy_alloc w o none) (by simp)
theorem KC.drew (h : KC w b n S C) : KC w.drew b n S C := h
theorem KC.drewN (h : KC w b n S C) (m : Nat) : KC (w.drewN m) b n S C := h
theorem KC.look (h : KC w b n S C) {y : List Int} (hy : ∃ kl, keyOf Try.prog 85 (kF y) = some kl) : (Instr.lookup 81 (.map (some b)) (kF y) false).run Try.prog w = .ok (.int .i64 (C y)) w := by
  obtain ⟨D, h1, h2⟩ := h
  obtain ⟨kl, hkl⟩ := hy
  obtain ⟨c, hrun, hat, _⟩ := h1.lookup_int kindLaw Try.underlying81 Try.underlying3 (Try.zeroValue3 w) hkl
  rw [(h2.at' y kl hkl).2] at hat
  simp only [DataW.lit.injEq, Lit.int.injEq, true_and] at hat
  rw [← hat] at hrun
  exact hrun
def upC (C : List Int → Int) (y : List Int) (c : Int) (z : List Int) : Int := if z = y then c else C z
theorem KD.put {D : DataW Unit} (h0 : w.ownsMap Try.prog 85 (plainElem Try.prog 3) b n D) (h : KD D S C) {y : List Int} {kl : Lit} (hk : keyOf Try.prog 85 (kF y) = some kl) (c : Int) : KD (D.put kl (.lit (.int .i64 c))) (ins y S) (upC C y c) := by
  have hIM : IsMap D := h0.isMap
  have hkey := kindLaw.key hk
  refine ⟨ins_nodup h.nd, fun z hz => ?_, fun kl' hh => ?_, fun z kl' hz => ?_⟩
  · rcases mem_ins.1 hz with rfl | hz
    · exact ⟨kl, hk⟩
    · exact h.key z hz
  · by_cases e : kl' = kl
    · exact ⟨y, mem_ins.2 (.inl rfl), by rw [e]; exact hk⟩
    · rw [has_put_other e] at hh
      obtain ⟨z, hz, hzk⟩ := h.back kl' hh
      exact ⟨z, mem_ins.2 (.inr hz), hzk⟩
  · by_cases e : kl' = kl
    · subst e
      have : z = y := kF_inj _ _ (kindLaw.inj hz hk)
      subst this
      rw [has_put_same hIM hkey, atKey_put_same hIM hkey]
      exact ⟨by simp [mem_ins], by simp [upC]⟩
    · have hne : z ≠ y := fun e2 => e (by
        rw [e2, hk] at hz
        cases hz
        rfl)
      rw [has_put_other e, atKey_put_other e, (h.at' z kl' hz).2, (h.at' z kl' hz).1, mem_ins, upC, if_neg hne]
      exact ⟨⟨.inr, fun h => h.resolve_left hne⟩, rfl⟩
theorem KC.block (h : KC w b n S C) (e : w'.heap[b]? = w.heap[b]?) : KC w' b n S C := by
  obtain ⟨D, h1, h2⟩ := h
  obtain ⟨es, clock, hm, r⟩ := h1
  exact ⟨D, ⟨es, clock, e.trans hm, r⟩, h2⟩
set_option maxRecDepth 100000 in
/-- An entry of the array is a key of what it reads as, and the other way. -/
theorem own_has {es : Array MapEntry} {clock : Nat} (F : Fit Try.prog 85 (plainElem (H := Unit) Try.prog 3) es clock) {y : List Int} {kl : Lit} (hk : keyOf Try.prog 85 (kF y) = some kl) :
    has (H := Unit) (.map ((es.toList.map (rg Try.prog 85 (plainElem Try.prog 3))).foldr DataW.insert [])) kl = true ↔ ∃ e ∈ es.toList, e.key = kF y := by
  constructor
  · intro h
    obtain ⟨p, hp, hpk⟩ := List.any_eq_true.1 h
    obtain ⟨x, hx, rfl⟩ := List.mem_map.1 (mem_sorted.1 hp)
    obtain ⟨z, hz⟩ := F.reads x hx
    have := WideAt.sameKey_eq hpk
    rw [rg_of hz] at this
    refine ⟨x, hx, kindLaw.inj (rd_key hz) ?_⟩
    rw [this]
    exact hk
  · rintro ⟨x, hx, e⟩
    obtain ⟨z, hz⟩ := F.reads x hx
    refine List.any_eq_true.2 ⟨rg Try.prog 85 (plainElem Try.prog 3) x, mem_sorted.2 (List.mem_map.2 ⟨x, hx, rfl⟩), ?_⟩
    have h1 := rd_key hz
    rw [e, hk] at h1
    rw [rg_of hz, ← Option.some.inj h1]
    exact WideAt.sameKey_self (kindLaw.key hk)
/-- 'm[k]' made an entry, then stored to. -/
theorem KC.entry (h : KC w b n S C) (hn : n < 1000000) {y : List Int} (hy : ∃ kl, keyOf Try.prog 85 (kF y) = some kl) :
    ∃ (v0 : Value) (st : Nat) (w1 : World), (Instr.mapEntry 81 (.map (some b)) (kF y)).run Try.prog w = .ok (.tuple #[v0, .int .i64 ((st : Nat) : Int)]) w1 ∧ w.grownBy w1 (some b) ∧
      (y ∈ S → KC w1 b n S C ∧ w1.heap[b]? = w.heap[b]?) ∧ KC w1 b (n + 1) (ins y S) C ∧
      ∀ (w2 : World) (c : Int), w2.heap[b]? = w1.heap[b]? → (Lit.int .i64 c).wf = true → ∃ w3, (Instr.entryStore 81 (.map (some b)) (.int .i64 ((st : Nat) : Int)) (.int .i64 c)).run Try.prog w2 = .ok () w3 ∧ KC w3 b (n + 1) (ins y S) (upC C y c) ∧ w2.grownBy w3 (some b) := by
  obtain ⟨D, h1, h2⟩ := id h
  obtain ⟨kl, hkl⟩ := hy
  obtain ⟨es, clock, hb, F, hs, hD⟩ := id h1
  obtain ⟨v0, st, es1, clock1, hrun, hwhich, hst⟩ := Go.WideElems.entry_then_store kindLaw0 Try.underlying81 (fun u => Try.zeroValue3 u) hb F hkl
  have hiff : y ∈ S ↔ ∃ e ∈ es.toList, e.key = kF y := by
    rw [← (h2.at' y kl hkl).1, hD]
    exact own_has F hkl
  have hold : y ∈ S → (setBlock w b (.map es1 clock1)).heap[b]? = w.heap[b]? := fun hyS => by
    obtain ⟨e, he, hek⟩ := hiff.1 hyS
    rcases kindLaw0.find w hkl es.toList F.keys with ⟨_, g2⟩ | ⟨j, e0, g1, g2, g3⟩
    · exact absurd hek (g2 e he)
    · have hj : es[j]? = some e0 := by simpa using g2
      have hsame : es.modify j (fun e => { e with key := kF y }) = es := by
        apply Array.ext'
        rw [Array.toList_modify, Go.ChangeMaps.modify_eq_set _ _ _ _ g2]
        have : ({ e0 with key := kF y } : MapEntry) = e0 := by rw [← g3]
        rw [this]
        exact Go.WideElems.set_self _ _ _ g2
      have hrun2 : (Instr.mapEntry 81 (.map (some b)) (kF y)).run Try.prog w = .ok (.tuple #[e0.val, goInt e0.born]) (setBlock w b (.map es clock)) := by
        simp [Instr.mapEntry, run_underlying Try.underlying81, MapKept.run_getObj_map hb, kindLaw0.check w false hkl, g1, hj, g3, kindLaw0.stays w hkl, hsame, MapKept.run_setObj_map _ hb, Result.andThen, setBlock]
      rw [hrun] at hrun2
      have e2 := (Result.ok.inj hrun2).2
      rw [e2, heap_setBlock_same hb, hb]
  refine ⟨v0, st, _, hrun, ⟨rfl, rfl, rfl, by simp [Go.ChangeMaps.setBlock], fun i _ hi => heap_setBlock_other hb _ (fun e => hi (by rw [e]))⟩, fun hyS => ⟨h.block (hold hyS), hold hyS⟩, ?_, fun w2 c hw2 hc => ?_⟩
  · by_cases hyS : y ∈ S
    · rw [ins, if_pos hyS]
      exact (h.block (hold hyS)).mono (by omega)
    · have hno : ∀ e ∈ es.toList, e.key ≠ kF y := fun e he hk => hyS (hiff.2 ⟨e, he, hk⟩)
      rcases kindLaw0.find w hkl es.toList F.keys with ⟨g1, _⟩ | ⟨j, e0, _, g2, g3⟩
      · have hrun2 : (Instr.mapEntry 81 (.map (some b)) (kF y)).run Try.prog w = .ok (.tuple #[.int .i64 0, goInt clock]) (setBlock w b (.map (es.push ⟨kF y, .int .i64 0, clock⟩) (clock + 1))) := by
          simp [Instr.mapEntry, run_underlying Try.underlying81, MapKept.run_getObj_map hb, kindLaw0.check w false hkl, g1, Try.zeroValue3, MapKept.run_setObj_map _ hb, Result.andThen, setBlock]
        have hup : (Instr.mapUpdate 81 (.map (some b)) (kF y) (.int .i64 0)).run Try.prog w = .ok () (setBlock w b (.map (es.push ⟨kF y, .int .i64 0, clock⟩) (clock + 1))) := by
          simp [Instr.mapUpdate, run_underlying Try.underlying81, MapKept.run_getObj_map hb, kindLaw0.check w false hkl, g1, MapKept.run_setObj_map _ hb, Result.andThen, setBlock]
        rw [hrun] at hrun2
        have e2 := (Result.ok.inj hrun2).2
        obtain ⟨w', u1, u2, _⟩ := h1.update kindLaw Try.underlying81 (by unfold maxLen; omega) hkl (plainElem_int Try.underlying3 (a := 0) (by decide))
        rw [hup] at u1
        have e3 := (Result.ok.inj u1).2
        rw [e2, e3]
        have hC : upC C y 0 = C := by
          funext z
          unfold upC
          split
          · rename_i hz
            subst hz
            have hf : has D kl = false := by
              rw [Bool.eq_false_iff]
              exact fun hh => hyS ((h2.at' z kl hkl).1.1 hh)
            have h5 := atKey_of_not_has hf (.lit (.int .i64 0))
            rw [(h2.at' z kl hkl).2] at h5
            simp only [DataW.lit.injEq, Lit.int.injEq, true_and] at h5
            exact h5.symm
          · rfl
        rw [← hC]
        exact ⟨_, u2, KD.put h1 h2 hkl 0⟩
      · exact absurd g3 (hno e0 (List.mem_of_getElem? g2))
  · rw [heap_setBlock_same hb] at hw2
    obtain ⟨es', clock', r1, r2⟩ := hst w2 (.int .i64 c) hw2
    obtain ⟨w', u1, u2, _⟩ := h1.update kindLaw Try.underlying81 (by unfold maxLen; omega) hkl (plainElem_int Try.underlying3 hc)
    rw [r2] at u1
    cases u1
    refine ⟨_, r1, ⟨_, ?_, KD.put h1 h2 hkl c⟩, ⟨rfl, rfl, rfl, by simp [Go.ChangeMaps.setBlock], fun i _ hi => heap_setBlock_other hw2 _ (fun e => hi (by rw [e]))⟩⟩
    obtain ⟨es2, clock2, hb2, rest⟩ := u2
    refine ⟨es2, clock2, ?_, rest⟩
    rw [heap_setBlock_same hb] at hb2
    rw [heap_setBlock_same hw2]
    exact hb2
/-- Ranged over: T is what is still to come. -/
def KR (w : World) (b r n : Nat) (T : List (List Int)) (C : List Int → Int) (cnt : Nat) : Prop :=
  ∃ (D : DataW Unit) (left : Lit → Bool) (S : List (List Int)), w.ranges Try.prog 85 (plainElem Try.prog 3) b r n D left cnt ∧ KD D S C ∧ T.Nodup ∧ (∀ y ∈ T, y ∈ S) ∧ (∀ kl, left kl = true → ∃ y ∈ T, keyOf Try.prog 85 (kF y) = some kl) ∧ ∀ y ∈ T, ∀ kl, keyOf Try.prog 85 (kF y) = some kl → left kl = true
theorem KR.left_eq {r cnt : Nat} {T : List (List Int)} (h : KR w b r n T C cnt) : w.rangeLeft b r = cnt := by
  obtain ⟨D, left, S, h1, _⟩ := h
  exact h1.left_eq
theorem KR.kept {r cnt : Nat} {T : List (List Int)} {row : Option Nat} (h : KR w b r n T C cnt) (hg : w.grownBy w' row) (hb : some b ≠ row) (hr : some r ≠ row) : KR w' b r n T C cnt := by
  obtain ⟨D, left, S, h1, h2⟩ := h
  exact ⟨D, left, S, h1.kept hg hb hr, h2⟩
theorem KR.lt {r cnt : Nat} {T : List (List Int)} (h : KR w b r n T C cnt) : b < w.heap.size ∧ r < w.heap.size := by
  obtain ⟨D, left, S, h1, h2⟩ := h
  exact ⟨h1.owns.lt, h1.lt⟩
theorem KR.below {r cnt : Nat} {T : List (List Int)} (h : KR w b r n T C cnt) (hb : Below w.heap.size w w') : KR w' b r n T C cnt := by
  have hl := h.lt
  obtain ⟨D, left, S, h1, h2⟩ := h
  obtain ⟨es, clock, since, seen, c0, k1, F, hs, hD, hr, rest⟩ := h1
  exact ⟨D, left, S, ⟨es, clock, since, seen, c0, (hb.block b hl.1).trans k1, F, hs, hD, (hb.block r hl.2).trans hr, rest⟩, h2⟩
/-- 'range m' at the operation. -/
theorem wpList_krange {ops : Array Oper} {rest : List Oper} {o : Oper} {a : Act} {Q : Exit → Act → World → Prop} (hg : o.guard = none) (m : Operand) (hop : o.op = Op.range 81 m) (hm : a.eval m = .map (some b)) (hown : KC w b n S C)
    (hK : ∀ w' cnt, KR w' b w.heap.size n S C cnt → w.grownBy w' none → w'.heap.size = w.heap.size + 1 → wpList Try.prog ops Q rest (a.put o.dst (.pointer (some ⟨w.heap.size, 0, none⟩))) w') : wpList Try.prog ops Q (o :: rest) a w := by
  obtain ⟨D, h1, h2⟩ := hown
  exact wpList_range_own w hg m _ hop _ _ kindLaw Try.underlying81 _ b n D hm h1 fun w' g1 g2 g3 => hK w' _ ⟨D, _, S, g1, h2, h2.nd, fun y h => h, h2.back, fun y hy kl hkl => ((h2.at' y kl hkl).1).2 hy⟩ g2 g3
/-- A step of it. -/
theorem wpList_knext {ops : Array Oper} {rest : List Oper} {o : Oper} {a : Act} {Q : Exit → Act → World → Prop} {r cnt : Nat} {T : List (List Int)} (hg : o.guard = none) (it : Operand) (hop : o.op = Op.next it false) (hit : a.eval it = .pointer (some ⟨r, 0, none⟩)) (h : KR w b r n T C cnt)
    (hDone : T = [] → wpList Try.prog ops Q rest (a.put o.dst (.tuple #[.bool false])) w)
    (hMore : ∀ (y : List Int) (w' : World) (cnt' : Nat), y ∈ T → KR w' b r n (T.erase y) C cnt' → cnt' < cnt → w.grownBy w' (some r) → w'.heap.size = w.heap.size →
      (Instr.entry (.pointer (some ⟨r, 0, none⟩))).run Try.prog w' = .ok (.tuple #[kF y, .int .i64 (C y)]) w' → wpList Try.prog ops Q rest (a.put o.dst (.tuple #[.bool true, kF y, .int .i64 (C y)])) w') : wpList Try.prog ops Q (o :: rest) a w := by
  obtain ⟨D, left, S, h1, h2, h3, h4, h5, h6⟩ := h
  refine wpList_plain hg fun K' hK' => ?_
  unfold Oper.wp
  rcases h1.next kindLaw o.type with ⟨h0, hl, hrun⟩ | ⟨key, v, kl, y, w', cnt', hkey, hlk, hv, hat, hrun, hrg, hlt, hgr, hsz, hen⟩
  · simp [execOp, hop, hit, hrun, Result.andThen]
    refine hK' _ _ (hDone ?_)
    cases T with
    | nil => rfl
    | cons y T =>
      obtain ⟨kl, hkl⟩ := h2.key y (h4 y (by simp))
      have := h6 y (by simp) kl hkl
      rw [hl] at this
      cases this
  · obtain ⟨z, hz, hzk⟩ := h5 kl hlk
    obtain rfl : key = kF z := kindLaw.inj hkey hzk
    obtain ⟨c, rfl, ey, _⟩ := plainElem_int_inv Try.underlying3 hv
    have hc : c = C z := by
      have e1 := hat (.lit (.int .i64 0))
      rw [(h2.at' z kl hzk).2, ey] at e1
      simp only [DataW.lit.injEq, Lit.int.injEq, true_and] at e1
      exact e1.symm
    subst hc
    simp [execOp, hop, hit, hrun, Result.andThen]
    refine hK' _ _ (hMore z w' cnt' hz ⟨D, _, S, hrg, h2, h3.erase _, fun y hy => h4 y (List.mem_of_mem_erase hy), fun kl' hl' => ?_, fun y hy kl' hkl' => ?_⟩ hlt hgr hsz hen)
    · simp only [Bool.and_eq_true, Bool.not_eq_true'] at hl'
      obtain ⟨y', hy', hk'⟩ := h5 kl' hl'.1
      refine ⟨y', (List.mem_erase_of_ne ?_).2 hy', hk'⟩
      rintro rfl
      rw [hzk] at hk'
      cases hk'
      rw [WideAt.sameKey_self (kindLaw.key hzk)] at hl'
      cases hl'.2
    · have hyT := List.mem_of_mem_erase hy
      have hne : y ≠ z := fun e => by
        subst e
        exact (List.Nodup.not_mem_erase h3) hy
      rw [h6 y hyT kl' hkl', sameKey_ne (fun e => hne (kF_inj _ _ (kindLaw.inj (by rw [← e]; exact hkl') hzk)))]
      rfl
end
end Go.Proofs.Ytnbgnoimanpjnaa
