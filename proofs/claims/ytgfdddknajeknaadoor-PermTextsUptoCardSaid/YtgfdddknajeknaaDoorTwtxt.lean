/-
  The walks over parterreref1.Decimal and PermText. Conditions: a small number; a permutation that can be read.
-/
import Derived.Test.YtgfdddknajeknaaDoorPcyc
import Derived.Test.YtgfdddknajeknaaDoorTxp
import Derived.Deep.LoopGhost
namespace Go.Proofs.YtgfdddknajeknaaDoor
set_option linter.unusedVariables false
open Go.RowKit

theorem Tryd.info4 : (Tryd.prog.info? 4).map (fun i => (i.zero, i.size, i.bytes)) = some (some (.bool false), 1, 1) := by kernel_rfl
theorem dig_cut : ∀ k, k < 10 → (⟨#[48, 49, 50, 51, 52, 53, 54, 55, 56, 57]⟩ : ByteArray).extract k (k + 1) = str [UInt8.ofNat (48 + k)] := by
  intro k hk
  have h : ∀ q : Fin 10, ((⟨#[48, 49, 50, 51, 52, 53, 54, 55, 56, 57]⟩ : ByteArray).extract q.val (q.val + 1)).data.toList = [UInt8.ofNat (48 + q.val)] := by decide
  have := h ⟨k, hk⟩
  have e : str (((⟨#[48, 49, 50, 51, 52, 53, 54, 55, 56, 57]⟩ : ByteArray).extract k (k + 1)).data.toList) = str [UInt8.ofNat (48 + k)] := by rw [this]
  exact e
set_option maxHeartbeats 1000000 in
theorem decimal_ok (n : Nat) (hn : n < 100) (w : World) :
    Calls Tryd.prog 18 #[.int .i64 n] w fun e w' => e = .returned (.string (str (Lib.decDigits n))) ∧ w' = w := by
  have HC := hid dig_cut
  have HP : Hid (Lib.decDigits n = if n < 10 then [UInt8.ofNat (48 + n)] else [UInt8.ofNat (48 + n / 10), UInt8.ofNat (48 + n % 10)]) := hid (by
    by_cases h : n < 10
    · rw [if_pos h, Lib.decDigits_one h]
    · rw [if_neg h, Lib.decDigits_two h hn])
  generalize Lib.decDigits n = D at *
  by_cases h10 : n < 10
  · rw [if_pos h10] at HP
    have h1 : ¬ (10 : Int) ≤ (n : Int) := by omega
    have h2 : (n : Int) < 10 := by omega
    have hx := HC.out n h10
    have hz : (str [UInt8.ofNat (48 + n)]).size = 1 := rfl
    have HE : Hid (str [UInt8.ofNat (48 + n)] ++ ⟨#[]⟩ = str D) := hid (by rw [HP.out]; rfl)
    generalize str [UInt8.ofNat (48 + n)] = s1 at *
    go_enter Tryd.func18, Tryd.ntmps18
    go_wp2
    go_loopw [0, 3] (fun v0 v3 wr => v0 = .int .i64 n ∧ v3 = .string ⟨#[]⟩ ∧ wr = w) (fun _ _ _ => 0)
    case atStart => exact ⟨rfl, rfl, rfl⟩
    case round =>
      obtain ⟨rfl, rfl, rfl⟩ := hrel
      go_wp2
      go_ret
      exact ⟨by rw [← HE.out]; rfl, rfl⟩
  · rw [if_neg h10] at HP
    have hr : (n : Int).tmod 10 = ((n % 10 : Nat) : Int) := (Int.ofNat_tmod _ _).symm
    have hd : (n : Int).tdiv 10 = ((n / 10 : Nat) : Int) := (Int.ofNat_tdiv _ _).symm
    have hr9 : n % 10 < 10 := Nat.mod_lt _ (by omega)
    have hd9 : n / 10 < 10 := by omega
    generalize n % 10 = r at *
    generalize n / 10 = d at *
    have hx := HC.out r hr9
    have hy := HC.out d hd9
    have hz1 : (str [UInt8.ofNat (48 + r)]).size = 1 := rfl
    have hz2 : (str [UInt8.ofNat (48 + d)]).size = 1 := rfl
    have HX : Hid (str [UInt8.ofNat (48 + r)] ++ ⟨#[]⟩ = str [UInt8.ofNat (48 + r)]) := hid rfl
    have HY : Hid (str [UInt8.ofNat (48 + d)] ++ str [UInt8.ofNat (48 + r)] = str D) := hid (by rw [HP.out, str_app]; rfl)
    generalize str [UInt8.ofNat (48 + r)] = s1 at *
    generalize str [UInt8.ofNat (48 + d)] = s2 at *
    clear HP HC
    have h1 : (10 : Int) ≤ (n : Int) := by omega
    have h2 : ¬ (10 : Int) ≤ (d : Int) := by omega
    have h3 : (r : Int) < 10 := by omega
    have h4 : (d : Int) < 10 := by omega
    go_enter Tryd.func18, Tryd.ntmps18
    go_wp2
    go_loopw [0, 3] (fun v0 v3 wr => ((v0 = .int .i64 n ∧ v3 = .string ⟨#[]⟩) ∨ (v0 = .int .i64 d ∧ v3 = .string s1)) ∧ wr = w) (fun v0 _ _ => (intOf v0).toNat)
    case atStart => exact ⟨.inl ⟨rfl, rfl⟩, rfl⟩
    case round =>
      obtain ⟨⟨rfl, rfl⟩ | ⟨rfl, rfl⟩, hw⟩ := hrel
      · subst hw
        go_wp2
        go_roundw
        case rel => exact ⟨.inr ⟨by first | rfl | trivial, by rw [HX.out]⟩, by first | rfl | trivial⟩
        case measure => simp [intOf] <;> omega
      · subst hw
        go_wp2
        go_ret
        exact ⟨by rw [← HY.out]; rfl, rfl⟩

/-- What PermText keeps: the points on longer cycles that were met. -/
def SN (f : Nat → Nat) (N k : Nat) (S : Nat → Bool) : Prop := ∀ x, x < N → (S x = true ↔ (∃ j, j < k ∧ Reach f j x) ∧ f x ≠ x)
def SI (f : Nat → Nat) (N k : Nat) (S : Nat → Bool) (t : Nat) (S' : Nat → Bool) : Prop := ∀ y, y < N → (S' y = true ↔ S y = true ∨ ∃ a, a < t ∧ y = it f a k)
theorem it_fix {f : Nat → Nat} {k : Nat} (h : f k = k) : ∀ a, it f a k = k
  | 0 => rfl
  | a + 1 => by
    show f (it f a k) = k
    rw [it_fix h a, h]
theorem reach_fix {f : Nat → Nat} {k x : Nat} (h : f k = k) (r : Reach f k x) : x = k := by
  obtain ⟨a, ha⟩ := r
  rw [it_fix h a] at ha
  exact ha
theorem reach_fix' {n : Nat} {f : Nat → Nat} (P : Pm n f) {k x : Nat} (hk : k < n) (h : f x = x) (r : Reach f k x) : x = k := (reach_fix h (P.reach_symm hk r)).symm
theorem SN.skip {f : Nat → Nat} {N k : Nat} {S : Nat → Bool} (P : Pm N f) (h : SN f N k S) (hk : k < N) (hs : S k = true ∨ f k = k) : SN f N (k + 1) S ∧ longs f N (k + 1) = longs f N k := by
  constructor
  · intro x hx
    rw [h x hx]
    constructor
    · rintro ⟨⟨j, hj, hr⟩, hf⟩
      exact ⟨⟨j, by omega, hr⟩, hf⟩
    · rintro ⟨⟨j, hj, hr⟩, hf⟩
      refine ⟨?_, hf⟩
      by_cases e : j = k
      · subst e
        rcases hs with hs | hs
        · obtain ⟨⟨j2, hj2, hr2⟩, _⟩ := (h j hk).1 hs
          exact ⟨j2, hj2, hr2.trans hr⟩
        · exact absurd (by rw [reach_fix hs hr]; exact hs) hf
      · exact ⟨j, by omega, hr⟩
  · rw [longs_succ]
    have : ¬ (leadB f N k = true ∧ 2 ≤ per f N k) := by
      rintro ⟨h1, h2⟩
      rcases hs with hs | hs
      · obtain ⟨⟨j, hj, hr⟩, _⟩ := (h k hk).1 hs
        exact (P.lead_iff hk).1 h1 j hj hr
      · have := (P.per_spec hk).2.2.2 1 (Nat.le_refl _) (by omega)
        exact this hs
    rw [if_neg this, List.append_nil]
theorem SN.cyc {f : Nat → Nat} {N k : Nat} {S : Nat → Bool} (P : Pm N f) (h : SN f N k S) (hk : k < N) (h1 : S k = false) (h2 : f k ≠ k) :
    ∃ m, 2 ≤ m ∧ m ≤ N ∧ longs f N (k + 1) = longs f N k ++ [orb f m k] ∧ (∀ t S', SI f N k S t S' → t ≤ m → it f t k < N ∧ (t < m → S' (it f t k) = false ∧ (it f t k = k ↔ t = 0)) ∧ (t = m → S' (it f t k) = true)) ∧ ∀ S', SI f N k S m S' → SN f N (k + 1) S' := by
  have hno : ∀ j, j < k → ¬ Reach f j k := fun j hj hr => by
    have := (h k hk).2 ⟨⟨j, hj, hr⟩, h2⟩
    rw [h1] at this
    cases this
  obtain ⟨p1, p2, p3, p4⟩ := P.per_spec hk
  have hp : 2 ≤ per f N k := by
    apply Classical.byContradiction
    intro hn
    have e : per f N k = 1 := by omega
    rw [e] at p1
    exact h2 p1
  have hl : leadB f N k = true := (P.lead_iff hk).2 hno
  refine ⟨per f N k, hp, p3, by rw [longs_succ, if_pos ⟨hl, hp⟩], fun t S' hS ht => ?_, fun S' hS x hx => ?_⟩
  · have hlt := P.it_lt hk t
    refine ⟨hlt, fun htm => ⟨?_, ?_⟩, ?_⟩
    · cases e : S' (it f t k) with
      | false => rfl
      | true =>
        exfalso
        rcases (hS _ hlt).1 e with e | ⟨a, ha, he⟩
        · obtain ⟨⟨j, hj, hr⟩, _⟩ := (h _ hlt).1 e
          exact hno j hj (hr.trans (P.reach_symm hk ⟨t, rfl⟩))
        · exact P.it_unlike hk htm ha he.symm
    · constructor
      · intro e
        apply Classical.byContradiction
        intro h0
        exact p4 t (by omega) htm e
      · rintro rfl; rfl
    · rintro rfl
      exact (hS _ hlt).2 (.inr ⟨0, by omega, p1⟩)
  · rw [hS x hx, h x hx]
    constructor
    · rintro (⟨⟨j, hj, hr⟩, hf⟩ | ⟨a, ha, rfl⟩)
      · exact ⟨⟨j, by omega, hr⟩, hf⟩
      · refine ⟨⟨k, by omega, a, rfl⟩, fun hf => ?_⟩
        have e := reach_fix' P hk hf ⟨a, rfl⟩
        rw [e] at hf
        exact h2 hf
    · rintro ⟨⟨j, hj, hr⟩, hf⟩
      by_cases e : j = k
      · subst e
        exact .inr (P.reach_small hk hr)
      · exact .inl ⟨⟨j, by omega, hr⟩, hf⟩
theorem SI.step {f : Nat → Nat} {N k t : Nat} {S S' : Nat → Bool} (h : SI f N k S t S') : SI f N k S (t + 1) (fun x => x == it f t k || S' x) := fun y hy => by
  show (y == it f t k || S' y) = true ↔ _
  rw [Bool.or_eq_true, h y hy, beq_iff_eq]
  constructor
  · rintro (h | h | ⟨a, ha, he⟩)
    · exact .inr ⟨t, by omega, h⟩
    · exact .inl h
    · exact .inr ⟨a, by omega, he⟩
  · rintro (h | ⟨a, ha, he⟩)
    · exact .inr (.inl h)
    · by_cases e : a = t
      · subst e; exact .inl he
      · exact .inr (.inr ⟨a, by omega, he⟩)
def bL (N : Nat) (S : Nat → Bool) : List Value := (List.range N).map fun x => .bool (S x)
theorem bL_len (N : Nat) (S : Nat → Bool) : (bL N S).length = N := by simp [bL]
theorem bL_get {N : Nat} {S : Nat → Bool} {c : Nat} (h : c < N) : (bL N S)[c]? = some (.bool (S c)) := by simp [bL, h]
theorem bL_set {N : Nat} {S : Nat → Bool} {c : Nat} (h : c < N) : (bL N S).set c (.bool true) = bL N (fun x => x == c || S x) := by
  refine List.ext_getElem? fun i => ?_
  by_cases e : c = i
  · subst e
    rw [List.getElem?_set_self (by simpa [bL] using h), bL_get h]
    simp
  · rw [List.getElem?_set_ne e]
    by_cases hi : i < N
    · rw [bL_get hi, bL_get hi]
      have : (i == c) = false := by simp; omega
      rw [this]; rfl
    · simp [bL, hi]
theorem bL_zero (N : Nat) : List.replicate N (Value.bool false) = bL N fun _ => false := by
  refine List.ext_getElem (by simp [bL]) fun i h1 h2 => ?_
  simp [bL]
/-- The first t numbers of a cycle, written. -/
def oT (f : Nat → Nat) (k t : Nat) : List UInt8 := 40 :: inT (orb f t k)
theorem oT_len {N : Nat} {f : Nat → Nat} (hN : N ≤ 12) (P : Pm N f) {k t : Nat} (hk : k < N) (ht : t ≤ 12) : (oT f k t).length ≤ 100 := by
  have h := in_len (c := orb f t k) fun x hx => by
    unfold orb at hx
    obtain ⟨i, _, rfl⟩ := List.mem_map.1 hx
    have := P.it_lt hk i
    omega
  rw [orb_len] at h
  unfold oT
  rw [List.length_cons]
  omega
theorem longs_len {N : Nat} {f : Nat → Nat} (hN : N ≤ 12) (P : Pm N f) : ∀ k, k ≤ N → (bodyT (longs f N k)).length ≤ 101 * k
  | 0, _ => by simp [longs, cycL, bodyT]
  | k + 1, hk => by
    have ih := longs_len hN P k (by omega)
    rw [longs_succ]
    by_cases h : leadB f N k = true ∧ 2 ≤ per f N k
    · have h2 := oT_len hN P (t := per f N k) (show k < N by omega) (by have := (P.per_spec (show k < N by omega)).2.2.1; omega)
      rw [if_pos h, bodyT_snoc, List.length_append]
      have e : cycT (orb f (per f N k) k) = oT f k (per f N k) ++ [41] := rfl
      rw [e, List.length_append]
      simp only [List.length_cons, List.length_nil]
      omega
    · rw [if_neg h, List.append_nil]
      omega
theorem oT_zero (f : Nat → Nat) (k : Nat) : oT f k 0 = [40] := by simp [oT, orb, inT, Lib.join_nil]
theorem oT_succ (f : Nat → Nat) (k t : Nat) : oT f k (t + 1) = (oT f k t ++ if t = 0 then [] else [32]) ++ Lib.decDigits (it f t k) := by
  unfold oT inT
  rw [orb_succ, List.map_append]
  by_cases h : t = 0
  · subst h
    rw [if_pos rfl]
    simp [orb, Lib.join_nil, Lib.join_one]
  · rw [if_neg h, List.map_cons, List.map_nil, join_snoc _ _ _ (by
      intro e
      have := congrArg List.length e
      rw [List.length_map, orb_len] at this
      exact h this)]
    simp

set_option maxHeartbeats 2000000 in
theorem permtext_ok (v : Value) (l : List Int) (N : Nat) (f : Nat → Nat) (w : World) (hl : Sl w v l) (P : PmL l N f) :
    Calls Tryd.prog 7 #[v] w fun e w' => e = .returned (.string (str (wrT f N))) ∧ Below w.heap.size w w' := by
  obtain ⟨a, cp, N', rfl, hN, hl1, hl2⟩ := hl.open
  obtain rfl : N' = N := by rw [← hN.out, P.len]
  have h12 := P.n12
  have HAT := hid P.at'
  have HSK := hid (fun (k : Nat) (S : Nat → Bool) (h : SN f N' k S) (hk : k < N') => SN.skip P.pm h hk)
  have HCY := hid (fun (k : Nat) (S : Nat → Bool) (h : SN f N' k S) (hk : k < N') => SN.cyc P.pm h hk)
  have HFN := hid P.pm.lt
  have HW : Hid (wrT f N' = if bodyT (longs f N' N') = [] then [40, 41] else bodyT (longs f N' N')) := hid rfl
  have HD := hid decimal_ok
  have HBZ := hid (bL_zero N')
  have HBL := hid (bL_len N')
  have HBG := hid (fun S c => @bL_get N' S c)
  have HBS := hid (fun S c => @bL_set N' S c)
  have HL0 : Hid (bodyT (longs f N' 0) = []) := hid rfl
  have HLS : Hid (∀ k c, longs f N' (k + 1) = longs f N' k ++ [c] → bodyT (longs f N' (k + 1)) = bodyT (longs f N' k) ++ cycT c) := hid (fun k c h => by rw [h, bodyT_snoc])
  have HOL := hid (fun (k t : Nat) (hk : k < N') (ht : t ≤ 12) => oT_len h12 P.pm hk ht)
  have HLL := hid (longs_len h12 P.pm)
  have HS0 : Hid (SN f N' 0 fun _ => false) := hid (fun x hx => ⟨fun h => (by cases h), fun ⟨⟨j, hj, _⟩, _⟩ => absurd hj (by omega)⟩)
  clear hl P
  generalize bL N' = B at *
  go_enter Tryd.func7, Tryd.ntmps7
  go_wp2_with (at_make; refine wpList_mk (w := w) _ _ 42 4 (.bool false) 1 rfl rfl Tryd.underlying42 Tryd.info4 rfl (by decide) w.heap.size _ N' rfl rfl rfl (by omega) (Nat.le_refl _) ?_; intro w6 hs6 hgr6 hz6)
  have hs0 : Ow 4 w.heap.size w6 (.slice (some ⟨w.heap.size, 0, none⟩) N' N') (B fun _ => false) := by rw [← HBZ.out]; exact hs6
  have hb6 : Below w.heap.size w w6 := (Below.refl _ _).grown hgr6 (Nat.le_refl _) (fun k h => by cases h)
  clear hs6 hgr6
  go_loopw [3, 5, 6, 7, 8] (fun s i _ _ _ wr => ∃ (k : Nat) (S : Nat → Bool), k ≤ N' ∧ i = .int .i64 k ∧ s = .string (str (bodyT (longs f N' k))) ∧ Hid (SN f N' k S) ∧ Ow 4 w.heap.size wr (.slice (some ⟨w.heap.size, 0, none⟩) N' N') (B S) ∧ Below w.heap.size w wr ∧ w.heap.size < wr.heap.size) (fun _ i _ _ _ _ => N' - (intOf i).toNat)
  case atStart => exact ⟨0, fun _ => false, Nat.zero_le _, rfl, by rw [HL0.out]; rfl, HS0, hs0, hb6, hz6⟩
  case round =>
    obtain ⟨k, S, hk, rfl, rfl, hS, how, hb, hsz⟩ := hrel
    clear hs0 hb6 hz6
    by_cases hlt : k < N'
    · have hki : (k : Int) < (N' : Int) := by omega
      have hcell := how.cell k (by rw [HBL.out]; exact hlt)
      rw [HBG.out S k hlt] at hcell
      obtain ⟨b, off, rfl, hblt, hc⟩ := hl2 (by omega)
      have hca := (hb.cell (p := ⟨b, off + k, none⟩) hblt).trans (hc k hlt)
      rw [HAT.out _ hlt] at hca
      have HC := hid hc
      by_cases hskip : S k = true ∨ f k = k
      · obtain ⟨s1, s2⟩ := HSK.out k S hS.out hlt hskip
        have S1 := hid s1
        have S2 : Hid (bodyT (longs f N' (k + 1)) = bodyT (longs f N' k)) := hid (by rw [s2])
        have HX := hid (And.intro how (And.intro hb hsz))
        clear s1 s2 how hb hsz hc hl2
        cases hSk : S k with
        | true =>
          rw [hSk] at hcell
          clear hskip hSk
          go_wp2
          go_roundw
          case rel => exact ⟨k + 1, S, by omega, by go_num, by rw [S2.out], S1, HX.out.1, HX.out.2.1, HX.out.2.2⟩
          case measure => simp [intOf] <;> omega
        | false =>
          rw [hSk] at hcell
          have hfk : f k = k := hskip.resolve_left (by rw [hSk]; exact fun h => by cases h)
          rw [hfk] at hca
          clear hskip hSk hfk
          go_wp2
          go_roundw
          case rel => exact ⟨k + 1, S, by omega, by go_num, by rw [S2.out], S1, HX.out.1, HX.out.2.1, HX.out.2.2⟩
          case measure => simp [intOf] <;> omega
      · have hSk : S k = false := by cases h : S k with | false => rfl | true => exact absurd (.inl h) hskip
        have hfk : f k ≠ k := fun h => hskip (.inr h)
        obtain ⟨m, m2, mN, c1, c2, c3⟩ := HCY.out k S hS.out hlt hSk hfk
        have C1 := hid (HLS.out k _ c1)
        have C2 := hid c2
        have C3 := hid c3
        have HOZ := hid (oT_zero f k)
        have HOS := hid (oT_succ f k)
        have HOTL := hid (fun t => HOL.out k t hlt)
        have HBTL := HLL.out k hk
        have hbz : (str (bodyT (longs f N' k))).size ≤ 2000 := by rw [str_size]; omega
        have HOE : Hid (oT f k m ++ [41] = cycT (orb f m k)) := hid rfl
        have HFNE : ((f k : Int) == (k : Int)) = false := by simp; omega
        have hni : ¬ (f k : Int) = (k : Int) := by omega
        rw [hSk] at hcell
        have HX := hid (And.intro how (And.intro hb hsz))
        have HI0 : Hid (SI f N' k S 0 S) := hid (fun y hy => ⟨.inl, fun h => h.resolve_right fun ⟨a, ha, _⟩ => absurd ha (by omega)⟩)
        have HIS := hid (fun t S' => @SI.step f N' k t S S')
        have HIT0 : Hid (it f 0 k = k) := hid rfl
        have HITS : Hid (∀ t, it f (t + 1) k = f (it f t k)) := hid (fun _ => rfl)
        clear c1 c2 c3 how hb hsz hskip hSk hc hl2 hfk
        generalize oT f k = O at *
        generalize orb f m k = ob at *
        generalize SI f N' k S = SJ at *
        generalize bodyT (longs f N' k) = BT at *
        obtain ⟨W0, hW0⟩ : ∃ W0, W0 = wr := ⟨_, rfl⟩
        subst hW0
        go_wp2
        go_loopg [6, 7, 8] m (fun g s x _ wq => ∃ (t : Nat) (S' : Nat → Bool), t + g = m ∧ x = .int .i64 (it f t k) ∧ s = .string (str (O t)) ∧ Hid (SJ t S') ∧ Ow 4 w.heap.size wq (.slice (some ⟨w.heap.size, 0, none⟩) N' N') (B S') ∧ Below w.heap.size w wq ∧ w.heap.size < wq.heap.size)
        case atStart => exact ⟨0, S, Nat.zero_add _, rfl, by rw [HOZ.out]; rfl, HI0, HX.out.1, HX.out.2.1, HX.out.2.2⟩
        case round =>
          obtain ⟨t, S', ht, rfl, rfl, hS', how, hb, hsz⟩ := hrel
          generalize hgi : gk = gi at *
          obtain ⟨e1, e2, e3⟩ := C2.out t S' hS'.out (by omega)
          have hcl := how.cell (it f t k) (by rw [HBL.out]; exact e1)
          rw [HBG.out _ _ e1] at hcl
          have e1i : ((it f t k : Nat) : Int) < (N' : Int) := by omega
          by_cases htm : t < m
          · obtain ⟨q1, q2⟩ := e2 htm
            rw [q1] at hcl
            have hfz := how.frozen (it f t k)
            obtain ⟨st1, st2⟩ := how.stored (it f t k) (.bool true)
            rw [HBS.out _ _ e1] at st1
            have hb1 := hb.grown st2 hb.size (fun b e => by cases e; exact Nat.le_refl _)
            have hsz1 := Nat.lt_of_lt_of_le hsz st2.size
            have hcx := (hb1.cell (p := ⟨b, off + it f t k, none⟩) hblt).trans (HC.out _ e1)
            rw [HAT.out _ e1] at hcx
            have hgp : gi - 1 < gi := by omega
            have HIT := hid (HITS.out t)
            have hoz : (str (O t)).size ≤ 100 := by have := HOTL.out t (by omega); rw [str_size]; exact this
            have hdz : (str (Lib.decDigits (it f t k))).size ≤ 2 := by rw [str_size]; exact (num_fact (it f t k) (by omega)).2.2
            have HOT := hid (HOS.out t)
            have HS1 := hid (HIS.out t S' hS'.out)
            have HD1 := hid (HD.out (it f t k) (by omega))
            generalize it f t k = x at *
            have HY := hid (And.intro st1 (And.intro hb1 hsz1))
            clear st1 st2 hb1 hsz1 how hb hsz e2 e3 q1 hS'
            by_cases ht0 : t = 0
            · have hxk := q2.2 ht0
              rw [if_pos ht0] at HOT
              subst hxk
              subst ht0
              clear q2
              go_wp2_with fail
              refine (HD1.out _).mono ?_
              rintro e wd ⟨rfl, rfl⟩
              go_wp2
              go_roundg (gi - 1)
              case measure => omega
              case rel => exact ⟨1, _, by omega, by rw [HIT.out], by rw [HOT.out, List.append_nil, ← str_app], HS1, HY.out.1, HY.out.2.1, HY.out.2.2⟩
            · have hxk : ¬ x = k := fun e => ht0 (q2.1 e)
              rw [if_neg ht0] at HOT
              have hxe : ¬ (x : Int) = (k : Int) := by omega
              have hxb : ((x : Int) == (k : Int)) = false := by simp; omega
              clear q2
              go_wp2_with fail
              refine (HD1.out _).mono ?_
              rintro e wd ⟨rfl, rfl⟩
              go_wp2
              go_roundg (gi - 1)
              case measure => omega
              case rel => exact ⟨t + 1, _, by omega, by rw [HIT.out], by rw [HOT.out, ← str_app, ← str_app]; rfl, HS1, HY.out.1, HY.out.2.1, HY.out.2.2⟩
          · obtain rfl : t = m := by omega
            rw [e3 rfl] at hcl
            have HS1 := hid (C3.out S' hS'.out)
            have HY := hid (And.intro how (And.intro hb hsz))
            have hoz : (str (O t)).size ≤ 100 := by have := HOTL.out t (by omega); rw [str_size]; exact this
            have HBT1 : Hid (str BT ++ str (O t) ++ ⟨#[41]⟩ = str (bodyT (longs f N' (k + 1)))) := hid (by
              rw [C1.out, ← HOE.out, ← str_app, ← str_app, ByteArray.append_assoc]; rfl)
            generalize it f t k = x at *
            clear how hb hsz e2 e3 hS'
            go_wp2
            go_roundw
            case rel => exact ⟨k + 1, S', by omega, by go_num, by rw [← HBT1.out], HS1, HY.out.1, HY.out.2.1, HY.out.2.2⟩
            case measure => simp [intOf] <;> omega
    · obtain rfl : N' = k := by omega
      have hki : ¬ (N' : Int) < (N' : Int) := by omega
      have HB := hid hb
      clear how hb hsz hl2 HAT HSK HCY HLS HS0 hS
      generalize bodyT (longs f N' N') = bt at *
      by_cases h0 : bt = []
      · rw [if_pos h0] at HW
        subst h0
        rw [show str [] = (⟨#[]⟩ : ByteArray) from rfl]
        go_wp2
        go_ret
        exact ⟨by rw [HW.out]; rfl, HB.out⟩
      · rw [if_neg h0] at HW
        have hne : (str bt).toList.isEmpty = false := by rw [str_empty]; cases h : bt with | nil => exact absurd h h0 | cons _ _ => rfl
        go_wp2
        go_ret
        exact ⟨by rw [HW.out]; rfl, HB.out⟩
end Go.Proofs.YtgfdddknajeknaaDoor
