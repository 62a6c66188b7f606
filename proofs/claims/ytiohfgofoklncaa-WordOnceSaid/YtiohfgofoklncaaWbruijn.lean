/-
  The walk over word.Bruijn: the list in which all stands. Conditions: the numbers' ranges, as each theorem states.
-/
import Derived.Test.YtiohfgofoklncaaWnext
import Derived.Test.YtiohfgofoklncaaWpower
import Derived.Deep.LoopGhost
namespace Go.Proofs.Ytiohfgofoklncaa
open Go.RowKit

/-- Letters below k. -/
def SmK (k : Int) (l : List Int) : Prop := ∀ x ∈ l, 0 ≤ x ∧ x ≤ k - 1
theorem SmK.small {k : Int} {l : List Int} (h : SmK k l) (hk : k ≤ 10) : SmallL l := fun x hx => by have := h x hx; omega
theorem SmK.round {k : Int} {l : List Int} (h : SmK k l) (hk : 1 ≤ k) (m : Nat) : SmK k (round' l m) := by
  intro x hx
  simp only [round', List.mem_map] at hx
  obtain ⟨i, _, rfl⟩ := hx
  rw [List.getD_eq_getElem?_getD]
  cases hi : l[i % l.length]? with
  | none => simp; omega
  | some y => simpa using h y (List.mem_of_getElem? hi)
theorem trim_mem {x y : Int} {l : List Int} (h : y ∈ trim x l) : y ∈ l := by
  simp only [trim, List.mem_reverse] at h
  have := (List.dropWhile_sublist (· == x)).subset h
  simpa using this
theorem trim_end {x : Int} {l r : List Int} {y : Int} (h : trim x l = r ++ [y]) : y ≠ x := by
  have h1 : (l.reverse.dropWhile (· == x)) = y :: r.reverse := by
    have := congrArg List.reverse h
    simpa [trim] using this
  intro e
  have h2 := List.head?_dropWhile_not (· == x) l.reverse
  rw [h1] at h2
  simp [e] at h2
theorem SmK.next {k : Int} {l : List Int} (h : SmK k l) (hk : 1 ≤ k) (m : Nat) : SmK k (nextL k l m) := by
  unfold nextL
  have h1 := h.round hk m
  generalize round' l m = R at *
  cases hr : (trim (k - 1) R).reverse with
  | nil =>
    have : bump (trim (k - 1) R) = [] := by unfold bump; rw [hr]
    rw [this]; intro x hx; simp at hx
  | cons y r =>
    have e : trim (k - 1) R = r.reverse ++ [y] := by
      have := congrArg List.reverse hr
      simpa using this
    have hy := trim_end e
    rw [e, bump_snoc]
    intro x hx
    rcases List.mem_append.1 hx with hx | hx
    · exact h1 x (trim_mem (by rw [e]; simp [hx]))
    · have h2 := h1 y (trim_mem (x := k - 1) (by rw [e]; simp))
      simp at hx
      omega
theorem nextL_len (k : Int) (l : List Int) (m : Nat) : (nextL k l m).length ≤ m := by
  unfold nextL bump trim
  have h1 := round_len l m
  generalize round' l m = R at *
  cases hr : ((List.dropWhile (· == k - 1) R.reverse).reverse).reverse with
  | nil => simp
  | cons x r =>
    have h2 := (List.dropWhile_sublist (fun y => y == k - 1) (l := R.reverse)).length_le
    simp at hr
    rw [hr] at h2
    simp at h2 ⊢
    omega
theorem brRun_le {k : Int} {n : Nat} : ∀ {f : Nat} {w out R : List Int}, brRun k n f w out = some R → out.length ≤ R.length
  | 0, _, _, _, h => by cases h
  | f + 1, w, out, R, h => by
    simp only [brRun] at h
    split at h
    · have := Option.some.inj h; rw [this]; exact Nat.le_refl _
    · have := brRun_le h
      split at this
      · rw [List.length_append] at this; omega
      · exact this
theorem greedy_len (k all : Nat) : ∀ (f code seen : Nat) (out : List Int), (greedy k all f code seen out).length ≤ out.length + f
  | 0, _, _, out => by simp [greedy]
  | f + 1, code, seen, out => by
    simp only [greedy]
    split
    · rename_i x _
      have := greedy_len k all f ((code * k + x) % all) (seen ||| 2 ^ ((code * k + x) % all)) ((x : Int) :: out)
      rw [List.length_cons] at this
      omega
    · have := greedy_len k all f code seen out
      omega
theorem greed_len {k n : Nat} (h : k ^ n ≤ 4096) : (greed k n).length ≤ 4096 := by
  unfold greed
  rw [List.length_reverse]
  have := greedy_len k (k ^ n) (k ^ n) (k ^ n - 1) 0 []
  simp at this
  omega

theorem Bruijn_range (k n : Int) (w : World) (h : k < 1 ∨ 10 < k ∨ n < 1) :
    Calls Try.prog 25 #[.int .i64 k, .int .i64 n] w fun e w' => e = .returned (.tuple #[.slice none 0 0, .int .i64 1]) ∧ w = w' := by
  by_cases h1 : k < 1
  · go_enter Try.func25, Try.ntmps25
    go_wp2
    all_goals (go_ret2; exact ⟨rfl, rfl⟩)
  by_cases h2 : 10 < k
  · go_enter Try.func25, Try.ntmps25
    go_wp2
    all_goals (go_ret2; exact ⟨rfl, rfl⟩)
  · have h3 : n < 1 := by omega
    go_enter Try.func25, Try.ntmps25
    go_wp2
    all_goals (go_ret2; exact ⟨rfl, rfl⟩)

theorem Bruijn_long (k n : Int) (w : World) (h1 : 1 ≤ k) (h2 : k ≤ 10) (h : 12 < n) :
    Calls Try.prog 25 #[.int .i64 k, .int .i64 n] w fun e w' => e = .returned (.tuple #[.slice none 0 0, .int .i64 3]) ∧ w = w' := by
  go_enter Try.func25, Try.ntmps25
  go_wp2
  all_goals (go_ret2; exact ⟨rfl, rfl⟩)

theorem Bruijn_full (k n : Nat) (w : World) (h1 : 1 ≤ k) (h2 : k ≤ 10) (h3 : 1 ≤ n) (h4 : n ≤ 12) (h : 4096 < k ^ n) :
    Calls Try.prog 25 #[.int .i64 k, .int .i64 n] w fun e w' => e = .returned (.tuple #[.slice none 0 0, .int .i64 3]) ∧ w = w' := by
  have H := hid h
  clear h
  go_enter Try.func25, Try.ntmps25
  go_wp2_with fail
  refine (power_no k n _ w h1 (by decide) (by decide) (by omega) (by have := H.out; omega)).mono ?_
  rintro e w' ⟨rfl, rfl⟩
  go_wp2
  go_ret2
  exact ⟨rfl, rfl⟩

theorem Bruijn_ok (k n : Nat) (w : World) (h1 : 1 ≤ k) (h2 : k ≤ 10) (h3 : 1 ≤ n) (h4 : n ≤ 12) (h : k ^ n ≤ 4096) :
    Calls Try.prog 25 #[.int .i64 k, .int .i64 n] w fun e w' => (∃ u, e = .returned (.tuple #[u, .int .i64 0]) ∧ OI w.heap.size w' u (greed k n)) ∧ Below w.heap.size w w' := by
  have H := hid h
  have HR := hid (bru_eq h1 h2 h3 h4 h)
  have HL := greed_len h
  generalize greed k n = R at *
  clear h
  go_enter Try.func25, Try.ntmps25
  go_wp2_with fail
  refine (power_ok k n _ w h1 (by decide) (by decide) (by omega) (by have := H.out; omega)).mono ?_
  rintro e w' ⟨rfl, rfl⟩
  go_wp2
  go_loopg [8, 9] 5000 (fun f vo vw wr => ∃ (a : Option Addr) (N c : Nat) (wl out : List Int), vw = .slice a N c ∧ Hid (wl.length = N) ∧ N ≤ 12 ∧ OI w.heap.size wr (.slice a N c) wl ∧ OI w.heap.size wr vo out ∧ Apart vo (.slice a N c) ∧ Hid (brRun k n f wl out = some R) ∧ SmK k wl ∧ Below w.heap.size w wr)
  case atStart =>
    refine ⟨_, 1, 1, [0], [], rfl, hid rfl, by omega, OI.lit1 _ w 0 (Nat.le_refl _), OI.nil _ _, Apart.nil _, HR, fun x hx => ?_, (Below.refl _ _).alloc (Nat.le_refl _) _⟩
    simp at hx; omega
  case round =>
    obtain ⟨a, N, c, wl, out, rfl, hN, hN12, how, hoo, hap, hrun, hsm, hb⟩ := hrel
    have hB := hb.size
    cases gk with
    | zero => exfalso; have := hrun.out; cases this
    | succ f =>
      have hr := hrun.out
      simp only [brRun] at hr
      rw [hN.out] at hr
      by_cases h0 : N = 0
      · subst h0
        rw [if_pos rfl] at hr
        obtain rfl : out = R := Option.some.inj hr
        clear hr hrun
        go_wp2
        go_ret2
        exact ⟨⟨_, rfl, hoo⟩, hb⟩
      have hpn : 0 < N := by omega
      rw [if_neg h0] at hr
      have hsl := how.sl (by rw [hN.out]; omega)
      have hnl := nextL_len k wl n
      have hsn := hsm.next (by omega) n
      by_cases hd : n % N = 0
      · have hb1 : (((n : Int) % (N : Int)) == 0) = true := by simp; exact_mod_cast hd
        rw [if_pos hd] at hr
        have hlo := brRun_le hr
        rw [List.length_append, hN.out] at hlo
        have HRn := hid hr
        clear hr hrun hd
        go_wp2_with (at_builtin; refine wpList_apps (w := wr) _ _ 23 3 (.int .i64 0) 8 rfl rfl Try.underlying23 Try.info3 rfl (by decide) w.heap.size _ _ _ _ rfl hoo rfl hsl (by intro x hx; simp only [List.mem_map] at hx; obtain ⟨y, _, rfl⟩ := hx; rfl) (by simp only [List.length_map]; rw [hN.out]; omega) hB ?_; intro v' w1 ho1 hg1 hg2)
        have ho1' := OI.ofApp ho1
        have how1 := how.keptA hoo hg1 hap
        have hb1 := hoo.grown hb hg1 hB
        have hsl1 := how1.sl (by rw [hN.out]; omega)
        clear ho1 how hoo hap hg2 hg1 hsl
        go_wp2_with fail
        refine (next_any k n _ wl _ hsl1 (by rw [hN.out]; exact hpn) (hsm.small (by omega)) (by omega) (by omega) (by omega)).mono ?_
        rintro e w2 ⟨⟨u, rfl, hou⟩, hbu⟩
        obtain ⟨a2, c2, hu⟩ := hou.len
        subst hu
        go_wp2
        go_roundg f
        case measure => omega
        case rel => exact ⟨a2, _, c2, nextL k wl n, _, rfl, hid rfl, by omega, hou.mono hb1.size, ho1'.below hbu, Apart.fresh ho1' hou, HRn, hsn, hb1.trans (hbu.mono hb1.size)⟩
      · have hb1 : (((n : Int) % (N : Int)) == 0) = false := by simp; exact_mod_cast hd
        rw [if_neg hd] at hr
        have HRn := hid hr
        clear hr hrun hd
        go_wp2_with fail
        refine (next_any k n _ wl _ hsl (by rw [hN.out]; exact hpn) (hsm.small (by omega)) (by omega) (by omega) (by omega)).mono ?_
        rintro e w2 ⟨⟨u, rfl, hou⟩, hbu⟩
        obtain ⟨a2, c2, hu⟩ := hou.len
        subst hu
        go_wp2
        go_roundg f
        case measure => omega
        case rel => exact ⟨a2, _, c2, nextL k wl n, _, rfl, hid rfl, by omega, hou.mono hB, hoo.below hbu, Apart.fresh hoo hou, HRn, hsn, hb.trans (hbu.mono hB)⟩
end Go.Proofs.Ytiohfgofoklncaa
