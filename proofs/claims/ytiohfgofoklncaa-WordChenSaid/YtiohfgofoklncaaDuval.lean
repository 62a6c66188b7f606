/-
  Plain laws of Duval's walk over a word: what holds at each step of word.factors. No program in sight, no condition.
-/
import Derived.Test.YtiohfgofoklncaaLex
namespace Go.Proofs.Ytiohfgofoklncaa.Lex

theorem falls_app : ∀ {F G : List (List Int)}, Falls F → Falls G → (∀ f ∈ F, ∀ g ∈ G, ahead f g = false) → Falls (F ++ G)
  | [], _, _, h, _ => h
  | f :: F, G, h, k, hk => by
    refine ⟨fun g hg => ?_, falls_app h.2 k (fun f' hf' => hk f' (by simp [hf']))⟩
    rcases List.mem_append.1 hg with hg | hg
    · exact h.1 g hg
    · exact hk f (by simp) g hg
theorem falls_rep (u : List Int) : ∀ n, Falls (List.replicate n u)
  | 0 => trivial
  | n + 1 => by
    rw [List.replicate_succ]
    refine ⟨fun g hg => ?_, falls_rep u n⟩
    rw [List.eq_of_mem_replicate hg]
    exact ahead_irrefl u

def lens (F : List (List Int)) : List Int := F.map fun f => (f.length : Int)

/-- What is done, and what stands between. -/
structure Mid (w : List Int) (F : List (List Int)) (u u' : List Int) (b : Int) (z t : List Int) (m : Nat) : Prop where
  word : w = F.flatten ++ (rep u (m + 1) ++ u' ++ t)
  lynF : ∀ f ∈ F, Lyn f
  falls : Falls F
  lyn : Lyn u
  beg : u = u' ++ b :: z
  before : ∀ f ∈ F, ahead (rep u (m + 1) ++ u' ++ t) f = true

/-- Duval's walk: ahead of each pass. -/
def Duv (w : List Int) (fr at' bk : Nat) (out : List Int) : Prop :=
  (fr = w.length ∧ at' = fr + 1 ∧ bk = fr ∧ ∃ F, Made w F ∧ out = lens F) ∨
  ∃ F u u' b z t m, Mid w F u u' b z t m ∧ out = lens F ∧ fr = F.flatten.length ∧ at' = fr + (m + 1) * u.length + u'.length ∧ bk + u.length = at'

/-- A new word begins. -/
theorem duv_new {w : List Int} {F : List (List Int)} {r : List Int} (hw : w = F.flatten ++ r) (h1 : ∀ f ∈ F, Lyn f) (h2 : Falls F) (h3 : r ≠ [] → ∀ f ∈ F, ahead r f = true) :
    Duv w F.flatten.length (F.flatten.length + 1) F.flatten.length (lens F) := by
  cases r with
  | nil =>
    left
    refine ⟨by rw [hw]; simp, rfl, rfl, F, ⟨by simpa using hw, h1, h2⟩, rfl⟩
  | cons x r =>
    right
    refine ⟨F, [x], [], x, [], r, 0, ⟨by simpa [rep] using hw, h1, h2, lyn_one x, rfl, ?_⟩, rfl, rfl, by simp, by simp⟩
    simpa [rep] using h3 (by simp)

theorem duv_start (w : List Int) : Duv w 0 1 0 [] := duv_new (F := []) (r := w) rfl (by simp) trivial (by simp)

theorem duv_done {w : List Int} {at' bk : Nat} {out : List Int} (h : Duv w w.length at' bk out) : ∃ F, Made w F ∧ out = lens F := by
  rcases h with ⟨_, _, _, h⟩ | ⟨F, u, u', b, z, t, m, hm, _, hf, _⟩
  · exact h
  · have h1 := congrArg List.length hm.word
    have h2 := congrArg List.length hm.beg
    simp only [List.length_append, List.length_cons, rep] at h1 h2
    omega

theorem duv_bounds {w : List Int} {fr at' bk : Nat} {out : List Int} (h : Duv w fr at' bk out) (hlt : fr ≠ w.length) : fr < w.length ∧ fr ≤ bk ∧ bk < at' ∧ at' ≤ w.length ∧ fr < at' := by
  rcases h with ⟨h, _⟩ | ⟨F, u, u', b, z, t, m, hm, _, hf, ha, hb⟩
  · exact absurd h hlt
  · have h1 := congrArg List.length hm.word
    have h2 := congrArg List.length hm.beg
    simp only [List.length_append, List.length_cons, rep_len] at h1 h2
    rw [Nat.succ_mul] at h1 ha
    generalize m * u.length = q at *
    omega
theorem duv_le {w : List Int} {fr at' bk : Nat} {out : List Int} (h : Duv w fr at' bk out) : fr ≤ w.length ∧ out.length ≤ fr := by
  have key : ∀ F : List (List Int), (∀ f ∈ F, Lyn f) → (lens F).length ≤ F.flatten.length := by
    intro F
    induction F with
    | nil => simp [lens]
    | cons f F ih =>
      intro h
      have h1 := ih (fun g hg => h g (by simp [hg]))
      have h2 : 0 < f.length := List.length_pos_iff.2 (h f (by simp)).1
      simp [lens] at h1 ⊢
      omega
  rcases h with ⟨h, _, _, F, hF, ho⟩ | ⟨F, u, u', b, z, t, m, hm, ho, hf, _, _⟩
  · have := key F hF.2.1
    rw [ho]
    have e := congrArg List.length hF.1
    omega
  · have := key F hm.lynF
    have h1 := congrArg List.length hm.word
    rw [List.length_append] at h1
    rw [ho]
    omega

theorem getD_mid {p q : List Int} {x : Int} {k : Nat} (h : k = p.length) : (p ++ x :: q)[k]?.getD 0 = x := by subst h; simp

/-- What stands at the two places. -/
theorem duv_read {w : List Int} {F : List (List Int)} {u u' : List Int} {b : Int} {z : List Int} {c : Int} {t : List Int} {m bk at' : Nat} (hm : Mid w F u u' b z (c :: t) m)
    (ha : at' = F.flatten.length + (m + 1) * u.length + u'.length) (hb : bk + u.length = at') : w[bk]?.getD 0 = b ∧ w[at']?.getD 0 = c := by
  rw [Nat.succ_mul] at ha
  constructor
  · have e : w = (F.flatten ++ rep u m ++ u') ++ b :: (z ++ u' ++ c :: t) := by
      rw [hm.word, rep_snoc]
      conv => lhs; rw [hm.beg]
      simp only [List.append_assoc, List.cons_append]
      rw [← hm.beg]
    rw [e]
    refine getD_mid ?_
    simp only [List.length_append, rep_len]
    omega
  · have e : w = (F.flatten ++ rep u (m + 1) ++ u') ++ c :: t := by rw [hm.word]; simp
    rw [e]
    refine getD_mid ?_
    simp only [List.length_append, rep_len, Nat.succ_mul]
    omega

theorem duv_open {w : List Int} {fr at' bk : Nat} {out : List Int} (h : Duv w fr at' bk out) (hlt : at' < w.length) :
    ∃ F u u' b z c t m, Mid w F u u' b z (c :: t) m ∧ out = lens F ∧ fr = F.flatten.length ∧ at' = fr + (m + 1) * u.length + u'.length ∧ bk + u.length = at' ∧ w[bk]?.getD 0 = b ∧ w[at']?.getD 0 = c := by
  rcases h with ⟨h, h2, _⟩ | ⟨F, u, u', b, z, t, m, hm, ho, hf, ha, hb⟩
  · omega
  · cases t with
    | nil =>
      have h1 := congrArg List.length hm.word
      simp only [List.length_append, rep_len, List.length_nil] at h1
      omega
    | cons c t =>
      obtain ⟨r1, r2⟩ := duv_read hm (by rw [ha, hf]) hb
      exact ⟨F, u, u', b, z, c, t, m, hm, ho, hf, ha, hb, r1, r2⟩

theorem duv_more {w : List Int} {fr at' bk : Nat} {out : List Int} (h : Duv w fr at' bk out) (hlt : at' < w.length) (hc : w[bk]?.getD 0 < w[at']?.getD 0) : Duv w fr (at' + 1) fr out := by
  obtain ⟨F, u, u', b, z, c, t, m, hm, ho, hf, ha, hb, r1, r2⟩ := duv_open h hlt
  rw [r1, r2] at hc
  right
  have hl := lyn_grow hm.lyn hm.beg hc m
  cases hv : rep u (m + 1) ++ u' ++ [c] with
  | nil => simp at hv
  | cons x v =>
    refine ⟨F, rep u (m + 1) ++ u' ++ [c], [], x, v, t, 0, ⟨?_, hm.lynF, hm.falls, hl, by rw [hv]; rfl, ?_⟩, ho, hf, ?_, ?_⟩
    · rw [hm.word]; simp [rep]
    · have := hm.before
      simpa [rep] using this
    · simp only [List.length_append, rep_len, List.length_nil, List.length_cons]
      rw [ha]; omega
    · simp only [List.length_append, rep_len, List.length_nil, List.length_cons]
      rw [ha]; omega

theorem duv_same {w : List Int} {fr at' bk : Nat} {out : List Int} (h : Duv w fr at' bk out) (hlt : at' < w.length) (hc : w[bk]?.getD 0 = w[at']?.getD 0) : Duv w fr (at' + 1) (bk + 1) out := by
  obtain ⟨F, u, u', b, z, c, t, m, hm, ho, hf, ha, hb, r1, r2⟩ := duv_open h hlt
  rw [r1, r2] at hc
  subst hc
  right
  cases z with
  | nil =>
    -- one more whole word
    have hu : u = u' ++ [b] := hm.beg
    have e : rep u (m + 1) ++ u' ++ b :: t = rep u (m + 1 + 1) ++ [] ++ t := by
      rw [rep_snoc u (m + 1)]
      conv => rhs; rw [hu]
      simp only [List.append_assoc, List.cons_append, List.nil_append, List.append_nil]
      rw [← hu]
    cases hv : u with
    | nil => rw [hv] at hu; simp at hu
    | cons x v =>
      refine ⟨F, u, [], x, v, t, m + 1, ⟨by rw [hm.word, e], hm.lynF, hm.falls, hm.lyn, by rw [hv]; rfl, by rw [← e]; exact hm.before⟩, ho, hf, ?_, by omega⟩
      have := congrArg List.length hu
      simp only [List.length_append, List.length_cons, List.length_nil] at this
      simp only [List.length_nil]
      rw [Nat.succ_mul (m + 1)]
      omega
  | cons y z =>
    have e : rep u (m + 1) ++ u' ++ b :: t = rep u (m + 1) ++ (u' ++ [b]) ++ t := by simp
    refine ⟨F, u, u' ++ [b], y, z, t, m, ⟨by rw [hm.word, e], hm.lynF, hm.falls, hm.lyn, by rw [hm.beg]; simp, by rw [← e]; exact hm.before⟩, ho, hf, ?_, by omega⟩
    simp only [List.length_append, List.length_cons, List.length_nil]
    omega

/-- The inner loop: j words of length n are told. -/
def Dra (w : List Int) (n bk fr : Nat) (out : List Int) : Prop :=
  ∃ F u u' b z t m j, Mid w F u u' b z t m ∧ (∀ c t', t = c :: t' → c < b) ∧ j ≤ m + 1 ∧ n = u.length ∧ bk = F.flatten.length + m * n + u'.length ∧ fr = F.flatten.length + j * n ∧ out = lens F ++ List.replicate j (n : Int)

theorem dra_start {w : List Int} {fr at' bk : Nat} {out : List Int} (h : Duv w fr at' bk out) (hne : fr ≠ w.length) (hc : ¬ at' < w.length ∨ w[at']?.getD 0 < w[bk]?.getD 0) : Dra w (at' - bk) bk fr out := by
  rcases h with ⟨h, _⟩ | ⟨F, u, u', b, z, t, m, hm, ho, hf, ha, hb⟩
  · exact absurd h hne
  · refine ⟨F, u, u', b, z, t, m, 0, hm, ?_, by omega, by omega, ?_, by simpa using hf, by simpa using ho⟩
    · rintro c t' rfl
      obtain ⟨r1, r2⟩ := duv_read hm (by rw [ha, hf]) hb
      have h1 := congrArg List.length hm.word
      simp only [List.length_append, rep_len, List.length_cons] at h1
      rcases hc with hc | hc
      · omega
      · rw [r1, r2] at hc; exact hc
    · rw [show at' - bk = u.length by omega]
      rw [Nat.succ_mul] at ha
      omega

theorem dra_step {w : List Int} {n bk fr : Nat} {out : List Int} (h : Dra w n bk fr out) (hc : fr ≤ bk) : Dra w n bk (fr + n) (out ++ [(n : Int)]) := by
  obtain ⟨F, u, u', b, z, t, m, j, hm, ht, hj, hn, hb, hf, ho⟩ := h
  have hl := congrArg List.length hm.beg
  simp only [List.length_append, List.length_cons] at hl
  have hjm : j ≤ m := by
    rcases Nat.lt_or_ge m j with h | h
    · exfalso
      have : (m + 1) * n ≤ j * n := Nat.mul_le_mul_right _ h
      rw [Nat.succ_mul] at this
      omega
    · exact h
  refine ⟨F, u, u', b, z, t, m, j + 1, hm, ht, by omega, hn, hb, by rw [hf, Nat.succ_mul]; omega, ?_⟩
  rw [ho, List.append_assoc, List.replicate_succ']

theorem dra_le {w : List Int} {n bk fr : Nat} {out : List Int} (h : Dra w n bk fr out) : 1 ≤ n ∧ fr ≤ w.length ∧ bk < w.length ∧ out.length ≤ fr ∧ n ≤ w.length := by
  obtain ⟨F, u, u', b, z, t, m, j, hm, ht, hj, hn, hb, hf, ho⟩ := h
  have hl := congrArg List.length hm.beg
  have h1 := congrArg List.length hm.word
  simp only [List.length_append, List.length_cons, rep_len] at hl h1
  have hle : j * u.length ≤ (m + 1) * u.length := Nat.mul_le_mul_right _ hj
  have key : (lens F).length ≤ F.flatten.length := by
    have hlf := hm.lynF
    clear hm h1 hb hf ho
    induction F with
    | nil => simp [lens]
    | cons f F ih =>
      have h1 := ih (fun g hg => hlf g (by simp [hg]))
      have h2 : 0 < f.length := List.length_pos_iff.2 (hlf f (by simp)).1
      simp [lens] at h1 ⊢
      omega
  have hjl : j ≤ j * n := Nat.le_mul_of_pos_right _ (by omega)
  subst hn
  rw [ho, List.length_append, List.length_replicate]
  rw [Nat.succ_mul] at h1 hle
  generalize m * u.length = q at *
  generalize j * u.length = r at *
  omega

theorem dra_end {w : List Int} {n bk fr : Nat} {out : List Int} (h : Dra w n bk fr out) (hc : bk < fr) : Duv w fr (fr + 1) fr out := by
  obtain ⟨F, u, u', b, z, t, m, j, hm, ht, hj, hn, hb, hf, ho⟩ := h
  have hjm : j = m + 1 := by
    rcases Nat.lt_or_ge m j with h | h
    · omega
    · exfalso
      have : j * n ≤ m * n := Nat.mul_le_mul_right _ h
      omega
  subst hjm
  -- the rest is ahead of u
  have hru : u' ++ t ≠ [] → ahead (u' ++ t) u = true := by
    intro _
    cases t with
    | nil =>
      rw [hm.beg]; simp only [List.append_nil]
      exact app_ahead u' (b :: z) (by simp)
    | cons c t =>
      rw [hm.beg]
      exact ahead_at _ _ _ (ht c t rfl)
  have hfu : ∀ f ∈ F, ahead u f = true ∨ ahead f u = false := by
    intro f hf
    cases h2 : ahead f u with
    | false => exact .inr rfl
    | true =>
      exfalso
      have h3 := ahead_trans (hm.before f hf) h2
      rw [show rep u (m + 1) ++ u' ++ t = u ++ (rep u m ++ u' ++ t) by simp [rep]] at h3
      rw [ahead_app] at h3
      cases h3
  have hlf : (F ++ List.replicate (m + 1) u).flatten = F.flatten ++ rep u (m + 1) := by
    rw [List.flatten_append, flatten_replicate]
  have hlen : lens (F ++ List.replicate (m + 1) u) = out := by
    rw [ho, hn]
    simp [lens]
  have hfr : (F ++ List.replicate (m + 1) u).flatten.length = fr := by
    rw [hlf, hf, hn, List.length_append, rep_len]
  have := duv_new (w := w) (F := F ++ List.replicate (m + 1) u) (r := u' ++ t) (by rw [hlf, hm.word]; simp) ?_ ?_ ?_
  · rw [hlen, hfr] at this
    exact this
  · intro f hf
    rcases List.mem_append.1 hf with hf | hf
    · exact hm.lynF f hf
    · rw [List.eq_of_mem_replicate hf]; exact hm.lyn
  · refine falls_app hm.falls (falls_rep u _) (fun f hf g hg => ?_)
    rw [List.eq_of_mem_replicate hg]
    cases h2 : ahead f u with
    | false => rfl
    | true =>
      rcases hfu f hf with h3 | h3
      · rw [ahead_asymm h3] at h2; cases h2
      · rw [h3] at h2; cases h2
  · intro hne f hf
    rcases List.mem_append.1 hf with hf | hf
    · -- rest < u ≤ the whole < f
      have h1 := hru hne
      have h2 := hm.before f hf
      have h3 : ahead u (rep u (m + 1) ++ u' ++ t) = true ∨ u = rep u (m + 1) ++ u' ++ t := by
        rw [show rep u (m + 1) ++ u' ++ t = u ++ (rep u m ++ u' ++ t) by simp [rep]]
        by_cases e : rep u m ++ u' ++ t = []
        · right; rw [e]; simp
        · left; exact app_ahead _ _ e
      rcases h3 with h3 | h3
      · exact ahead_trans h1 (ahead_trans h3 h2)
      · rw [← h3] at h2; exact ahead_trans h1 h2
    · rw [List.eq_of_mem_replicate hf]; exact hru hne

end Go.Proofs.Ytiohfgofoklncaa.Lex
