/-
  The walks over perm.Compose, Alike and the law PermPairs. Conditions: the slices can be read.
-/
import Derived.Test.YtgfdddknajeknaaDoorDPlen
import Derived.Test.YtgfdddknajeknaaDoorWints
import Derived.Test.YtgfdddknajeknaaDoorDArrEq
namespace Go.Proofs.YtgfdddknajeknaaDoor
set_option linter.unusedVariables false
open Go.RowKit

def kcI (ll : List (List Int)) : List Int := (List.range 13).map fun c : Nat => ((ll.countP (fun l => l.length == c) : Nat) : Int)
theorem kcI_len (ll : List (List Int)) : (kcI ll).length = 13 := by simp [kcI]
theorem kcL_eq (ll : List (List Int)) : kcL ll = (kcI ll).map (Value.int .i64) := by simp [kcL, kcI]
theorem kcI_get {ll : List (List Int)} {c : Nat} (h : c < 13) : (kcI ll).getD c 0 = ((ll.countP (fun l => l.length == c) : Nat) : Int) := by simp [kcI, h]
theorem kc_cyc (f : Nat → Nat) (N c : Nat) : ∀ k, ((cycL f N k).map intsL).countP (fun l => l.length == c) = sumN (fun j => if leadB f N j = true ∧ per f N j = c then 1 else 0) k
  | 0 => rfl
  | k + 1 => by
    rw [cycL_succ, List.map_append, List.countP_append, kc_cyc f N c k]
    simp only [sumN]
    congr 1
    cases h : leadB f N k with
    | false => simp
    | true =>
      by_cases e : per f N k = c
      · simp [intsL_len, orb_len, e]
      · simp [intsL_len, orb_len, e]
/-- As many cycles of each length, or as many points that come back alike: the same. -/
theorem kinds_lens {N : Nat} {f g : Nat → Nat} (P : Pm N f) (Q : Pm N g) (h12 : N ≤ 12) : kcI ((cycL f N N).map intsL) = kcI ((cycL g N N).map intsL) ↔ lenL f N N = lenL g N N := by
  have hz : ∀ (f : Nat → Nat), Pm N f → ∀ c, c = 0 ∨ N < c → sumN (fun j => if leadB f N j = true ∧ per f N j = c then 1 else 0) N = 0 := by
    intro f P c hc
    rw [sumN_congr N (h := fun _ => 0) (fun j hj => if_neg (fun h => by have := P.per_spec hj; omega)), sumN_zero]
  constructor
  · intro h
    have h1 : ∀ c, c < 13 → sumN (fun j => if leadB f N j = true ∧ per f N j = c then 1 else 0) N = sumN (fun j => if leadB g N j = true ∧ per g N j = c then 1 else 0) N := fun c hc => by
      have h2 := congrArg (fun l => l.getD c 0) h
      simp only [kcI_get hc, kc_cyc] at h2
      omega
    refine List.ext_getElem (by simp [lenL]) fun c h2 h3 => ?_
    have hc : c < N + 1 := by simpa [lenL] using h2
    simp only [lenL, List.getElem_map, List.getElem_range]
    rw [P.lens c, Q.lens c, h1 c (by omega)]
  · intro h
    have h1 : ∀ c, c < N + 1 → sumN (fun i => if per f N i = c then 1 else 0) N = sumN (fun i => if per g N i = c then 1 else 0) N := fun c hc => by
      have h2 := congrArg (fun l => l.getD c 0) h
      simp only [lenL_get hc] at h2
      omega
    have h2 : ∀ c, sumN (fun j => if leadB f N j = true ∧ per f N j = c then 1 else 0) N = sumN (fun j => if leadB g N j = true ∧ per g N j = c then 1 else 0) N := fun c => by
      by_cases hc : c = 0 ∨ N < c
      · rw [hz f P c hc, hz g Q c hc]
      · have h3 := h1 c (by omega)
        rw [P.lens c, Q.lens c] at h3
        exact Nat.eq_of_mul_eq_mul_left (by omega) h3
    unfold kcI
    refine List.map_congr_left fun c _ => ?_
    rw [kc_cyc, kc_cyc, h2 c]

theorem both_zero {l m : List Int} (h : bothE l m = 0) : permE l = 0 ∧ permE m = 0 ∧ l.length = m.length := by
  unfold bothE at h
  by_cases h1 : permE l = 0
  · rw [if_neg (by simpa using h1)] at h
    by_cases h2 : permE m = 0
    · rw [if_neg (by simpa using h2)] at h
      by_cases h3 : l.length = m.length
      · exact ⟨h1, h2, h3⟩
      · rw [if_pos h3] at h; simp at h
    · rw [if_pos h2] at h; exact absurd h h2
  · rw [if_pos h1] at h; exact absurd h h1

theorem Compose_bad (v u : Value) (l m : List Int) (w : World) (hl : Sl w v l) (hm : Sl w u m) (h : bothE l m ≠ 0) :
    Calls Tryd.prog 21 #[v, u] w fun e w' => e = .returned (.tuple #[.slice none 0 0, .int .i64 (bothE l m)]) ∧ Below w.heap.size w w' := by
  have H1 := hid (checkboth_any v u l m w hl hm)
  have hq : (bothE l m != 0) = true := by simpa using h
  clear h hl hm
  generalize bothE l m = z at *
  go_enter Tryd.func21, Tryd.ntmps21
  go_wp2_with fail
  refine H1.out.mono ?_
  rintro e w1 ⟨rfl, hb1⟩
  go_wp2
  go_ret2
  exact ⟨rfl, hb1⟩
theorem perm_mem {l : List Int} {N : Nat} {f : Nat → Nat} (P : PmL l N f) : ∀ x ∈ l, 0 ≤ x ∧ x < (N : Int) := by
  intro x hx
  obtain ⟨c, hc, rfl⟩ := List.mem_iff_getElem.1 hx
  have h1 := P.at' c (by rw [← P.len]; exact hc)
  rw [List.getElem?_eq_getElem hc] at h1
  have h2 := P.pm.lt c (by rw [← P.len]; exact hc)
  simp only [Option.getD_some] at h1
  omega
theorem Compose_ok (v u : Value) (l m : List Int) (w : World) (hl : Sl w v l) (hm : Sl w u m) (h : bothE l m = 0) :
    Calls Tryd.prog 21 #[v, u] w fun e w' => (∃ r, e = .returned (.tuple #[r, .int .i64 0]) ∧ OI w.heap.size w' r (thenL l m)) ∧ Below w.heap.size w w' := by
  have H1 := hid (checkboth_any v u l m w hl hm)
  rw [h] at H1
  obtain ⟨h1, h2, h3⟩ := both_zero h
  have P := pm_of h1
  have H2 := hid (fun w1 (hb : Below w.heap.size w w1) => compose_ok v u l m w1 (hl.below hb) (hm.below hb) (by rw [← h3]; exact perm_mem P) (by have := P.n12; omega))
  clear h hl hm P h1 h2 h3
  go_enter Tryd.func21, Tryd.ntmps21
  go_wp2_with fail
  refine H1.out.mono ?_
  rintro e w1 ⟨rfl, hb1⟩
  go_wp2_with fail
  refine (H2.out _ hb1).mono ?_
  rintro e w2 ⟨⟨r, rfl, hr⟩, hb2⟩
  have HB := hid (And.intro hb1.size (hb1.trans (hb2.mono hb1.size)))
  have HR := hid hr
  clear hb2 hr
  go_wp2
  go_ret2
  exact ⟨⟨_, rfl, HR.out.mono HB.out.1⟩, HB.out.2⟩

end Go.Proofs.YtgfdddknajeknaaDoor
