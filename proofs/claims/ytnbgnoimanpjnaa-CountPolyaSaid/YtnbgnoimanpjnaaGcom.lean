/-
  Inverses, conjugates, commutators; the group that all commutators make is made by those of the makers and their conjugates; Lagrange's theorem. No program in sight.
-/
import Derived.Test.YtnbgnoimanpjnaaGbfs
namespace Go.Proofs.Ytnbgnoimanpjnaa
set_option linter.unusedVariables false

theorem sub_len {α : Type} : ∀ (L M : List α), L.Nodup → (∀ x ∈ L, x ∈ M) → L.length ≤ M.length
  | [], M, _, _ => Nat.zero_le _
  | x :: L, M, hn, h => by
    obtain ⟨h1, h2⟩ := List.nodup_cons.1 hn
    obtain ⟨s, t, rfl⟩ := List.append_of_mem (h x (by simp))
    have := sub_len L (s ++ t) h2 (fun y hy => by
      have hy2 := h y (by simp [hy])
      rcases List.mem_append.1 hy2 with h3 | h3
      · exact List.mem_append_left _ h3
      · rcases List.mem_cons.1 h3 with e | h3
        · exact absurd (e ▸ hy) h1
        · exact List.mem_append_right _ h3)
    simp only [List.length_append, List.length_cons] at this ⊢
    omega
theorem same_len {α : Type} {L M : List α} (h1 : L.Nodup) (h2 : M.Nodup) (h : ∀ x, x ∈ L ↔ x ∈ M) : L.length = M.length :=
  Nat.le_antisymm (sub_len L M h1 fun x hx => (h x).1 hx) (sub_len M L h2 fun x hx => (h x).2 hx)
/-- The inverse. -/
def bkF (n : Nat) (x : Nat → Nat) (i : Nat) : Nat := if i < n then ((List.range n).find? fun j => x j == i).getD 0 else i
section
variable {n : Nat} {x y z a b m d : Nat → Nat} {ms : List (Nat → Nat)}
theorem bk_right (P : Mv n x) {i : Nat} (hi : i < n) : x (bkF n x i) = i ∧ bkF n x i < n := by
  obtain ⟨y, hy1, hy2⟩ : ∃ y, y < n ∧ x y = i := by
    obtain ⟨k, hk, he⟩ := pow_back P
    refine ⟨powF x (k - 1) i, (pow_mv P (k - 1)).pm.lt i hi, ?_⟩
    have h1 := pow_add x (k - 1) 1
    rw [show k - 1 + 1 = k by omega, he] at h1
    exact (congrFun h1 i).symm
  unfold bkF
  rw [if_pos hi]
  cases h : (List.range n).find? (fun j => x j == i) with
  | none =>
    have := List.find?_eq_none.1 h y (List.mem_range.2 hy1)
    simp [hy2] at this
  | some j =>
    have h1 := List.find?_some h
    have h2 := List.mem_of_find?_eq_some h
    exact ⟨by simpa using h1, by simpa using h2⟩
theorem bk_mv (P : Mv n x) : Mv n (bkF n x) := ⟨⟨fun i hi => (bk_right P hi).2, fun i j hi hj h => by
  rw [← (bk_right P hi).1, ← (bk_right P hj).1, h]⟩, fun i hi => if_neg (by omega)⟩
theorem bk_comp (P : Mv n x) : compF (bkF n x) x = id := by
  funext i
  by_cases hi : i < n
  · exact (bk_right P hi).1
  · show x (bkF n x i) = i
    rw [(bk_mv P).st i (by omega), P.st i (by omega)]
theorem comp_bk (P : Mv n x) : compF x (bkF n x) = id := by
  funext i
  have := congrFun (bk_comp P) (x i)
  exact mv_inj P _ _ this
theorem bk_uniq (P : Mv n x) (h : compF x y = id) : y = bkF n x := by
  have : compF (bkF n x) (compF x y) = y := by rw [← comp_assoc, bk_comp P]; rfl
  rw [h] at this
  exact this.symm
theorem GenF.bk (hms : ∀ m ∈ ms, Mv n m) (hx : GenF ms x) : GenF ms (bkF n x) := by
  obtain ⟨y, hy, h1, _⟩ := hx.inv hms
  rw [← bk_uniq (hx.mv hms) h1]
  exact hy
theorem bk_bk (P : Mv n x) : bkF n (bkF n x) = x := (bk_uniq (bk_mv P) (bk_comp P)).symm
theorem bk_mul (P : Mv n x) (Q : Mv n y) : bkF n (compF x y) = compF (bkF n y) (bkF n x) := by
  refine (bk_uniq (comp_mv P Q) ?_).symm
  show compF (compF x (compF y (bkF n y))) (bkF n x) = id
  rw [comp_bk Q]
  exact comp_bk P
/-- A commutator; a conjugate. -/
def comF (n : Nat) (a b : Nat → Nat) : Nat → Nat := compF (compF (compF (bkF n a) (bkF n b)) a) b
def cjF (n : Nat) (m x : Nat → Nat) : Nat → Nat := compF (compF (bkF n m) x) m
theorem com_mv (P : Mv n a) (Q : Mv n b) : Mv n (comF n a b) := comp_mv (comp_mv (comp_mv (bk_mv P) (bk_mv Q)) P) Q
theorem cj_mv (P : Mv n m) (Q : Mv n x) : Mv n (cjF n m x) := comp_mv (comp_mv (bk_mv P) Q) P
theorem cj_one (P : Mv n m) : cjF n m id = id := bk_comp P
theorem cj_mul (P : Mv n m) (x y : Nat → Nat) : cjF n m (compF x y) = compF (cjF n m x) (cjF n m y) := by
  have h : compF m (bkF n m) = id := comp_bk P
  show compF (compF (bkF n m) (compF x y)) m = compF (compF (bkF n m) x) (compF (compF m (bkF n m)) (compF y m))
  rw [h]
  rfl
theorem cj_bk (P : Mv n m) (Q : Mv n x) : bkF n (cjF n m x) = cjF n m (bkF n x) := by
  refine (bk_uniq (cj_mv P Q) ?_).symm
  rw [← cj_mul P, comp_bk Q, cj_one P]
theorem cj_com (P : Mv n m) (Q : Mv n x) (R : Mv n y) : cjF n m (comF n x y) = comF n (cjF n m x) (cjF n m y) := by
  unfold comF
  rw [cj_mul P, cj_mul P, cj_mul P, cj_bk P Q, cj_bk P R]
theorem cj_cj (P : Mv n x) (Q : Mv n y) (d : Nat → Nat) : cjF n (compF x y) d = cjF n y (cjF n x d) := by
  unfold cjF
  rw [bk_mul P Q]
  rfl
theorem cj_id (n : Nat) (x : Nat → Nat) : cjF n id x = x := by
  have : bkF n id = id := (bk_uniq (id_mv n) (comp_id _)).symm
  unfold cjF
  rw [this]
  rfl
theorem GenF.com (hms : ∀ m ∈ ms, Mv n m) (hx : GenF ms x) (hy : GenF ms y) : GenF ms (comF n x y) := (((hx.bk hms).mul (hy.bk hms)).mul hx).mul hy
theorem GenF.cj (hms : ∀ m ∈ ms, Mv n m) (hx : GenF ms x) (hm : GenF ms m) : GenF ms (cjF n m x) := ((hm.bk hms).mul hx).mul hm
/-- [xm, y]. -/
theorem com_left (P : Mv n x) (Q : Mv n m) (R : Mv n y) : comF n (compF x m) y = compF (cjF n m (comF n x y)) (comF n m y) := by
  unfold comF cjF
  rw [bk_mul P Q]
  have h1 : compF m (compF (bkF n m) (compF (bkF n y) (compF m y))) = compF (bkF n y) (compF m y) := by
    rw [← comp_assoc m (bkF n m), comp_bk Q]
    rfl
  show compF (compF (bkF n m) (compF (bkF n x) (compF (bkF n y) x))) (compF m y) = compF (compF (bkF n m) (compF (bkF n x) (compF (bkF n y) x))) (compF y (compF m (compF (bkF n m) (compF (bkF n y) (compF m y)))))
  rw [h1]
  have h2 : compF y (compF (bkF n y) (compF m y)) = compF m y := by
    rw [← comp_assoc y (bkF n y), comp_bk R]
    rfl
  rw [h2]
/-- [x, ym]. -/
theorem com_right (P : Mv n x) (Q : Mv n m) (R : Mv n y) : comF n x (compF y m) = compF (comF n x m) (cjF n m (comF n x y)) := by
  unfold comF cjF
  rw [bk_mul R Q]
  have h1 : compF m (compF (bkF n m) (compF (bkF n x) (compF (bkF n y) (compF x (compF y m))))) = compF (bkF n x) (compF (bkF n y) (compF x (compF y m))) := by
    rw [← comp_assoc m (bkF n m), comp_bk Q]
    rfl
  have h2 : compF x (compF (bkF n x) (compF (bkF n y) (compF x (compF y m)))) = compF (bkF n y) (compF x (compF y m)) := by
    rw [← comp_assoc x (bkF n x), comp_bk P]
    rfl
  show compF (bkF n x) (compF (bkF n m) (compF (bkF n y) (compF x (compF y m)))) = compF (bkF n x) (compF (bkF n m) (compF x (compF m (compF (bkF n m) (compF (bkF n x) (compF (bkF n y) (compF x (compF y m))))))))
  rw [h1, h2]
/-- All commutators of what the makers make. -/
noncomputable def cmL (n : Nat) (ms : List (Nat → Nat)) : List (Nat → Nat) := (GL n ms).flatMap fun x => (GL n ms).map fun y => comF n x y
theorem mem_cmL (hms : ∀ m ∈ ms, Mv n m) (z : Nat → Nat) : z ∈ cmL n ms ↔ ∃ x y, GenF ms x ∧ GenF ms y ∧ z = comF n x y := by
  unfold cmL
  simp only [List.mem_flatMap, List.mem_map, mem_GL hms]
  constructor
  · rintro ⟨x, hx, y, hy, rfl⟩
    exact ⟨x, y, hx, hy, rfl⟩
  · rintro ⟨x, y, hx, hy, rfl⟩
    exact ⟨x, hx, y, hy, rfl⟩
theorem cmL_mv (hms : ∀ m ∈ ms, Mv n m) : ∀ z ∈ cmL n ms, Mv n z := by
  intro z hz
  obtain ⟨x, y, hx, hy, rfl⟩ := (mem_cmL hms z).1 hz
  exact com_mv (hx.mv hms) (hy.mv hms)
/-- The commutators' group is kept by conjugation. -/
theorem cm_normal (hms : ∀ m ∈ ms, Mv n m) (hg : GenF ms m) (hx : GenF (cmL n ms) x) : GenF (cmL n ms) (cjF n m x) := by
  have P := hg.mv hms
  refine hx.closed (G := fun x => GenF (cmL n ms) (cjF n m x)) (by rw [cj_one P]; exact GenF.one) fun y hy c hc => ?_
  rw [cj_mul P]
  refine hy.mul (GenF.maker ?_)
  obtain ⟨u, v, hu, hv, rfl⟩ := (mem_cmL hms c).1 hc
  rw [cj_com P (hu.mv hms) (hv.mv hms)]
  exact (mem_cmL hms _).2 ⟨_, _, hu.cj hms hg, hv.cj hms hg, rfl⟩
/-- THE LAW: a list that has the makers' commutators, lies within, and whose group the makers' conjugations keep. -/
theorem der_same {own : List (Nat → Nat)} (hms : ∀ m ∈ ms, Mv n m) (h1 : ∀ a ∈ ms, ∀ b ∈ ms, comF n a b ∈ own) (h2 : ∀ x ∈ own, GenF (cmL n ms) x) (h3 : ∀ x ∈ own, ∀ m ∈ ms, GenF own (cjF n m x)) (z : Nat → Nat) : GenF own z ↔ GenF (cmL n ms) z := by
  have hown : ∀ x ∈ own, Mv n x := fun x hx => (h2 x hx).mv (cmL_mv hms)
  have k1 : ∀ m ∈ ms, ∀ d, GenF own d → GenF own (cjF n m d) := fun m hm d hd => by
    refine hd.closed (G := fun d => GenF own (cjF n m d)) (by rw [cj_one (hms m hm)]; exact GenF.one) fun y hy c hc => ?_
    rw [cj_mul (hms m hm)]
    exact hy.mul (h3 c hc m hm)
  have k2 : ∀ g, GenF ms g → ∀ d, GenF own d → GenF own (cjF n g d) := fun g hg => by
    induction hg with
    | one => intro d hd; rw [cj_id]; exact hd
    | @step x m hx hm ih =>
      intro d hd
      rw [cj_cj (hx.mv hms) (hms m hm)]
      exact k1 m hm _ (ih d hd)
  have k3 : ∀ x, GenF ms x → ∀ m ∈ ms, GenF own (comF n x m) := fun x hx => by
    induction hx with
    | one =>
      intro m hm
      have : comF n id m = id := by
        have e : bkF n id = id := (bk_uniq (id_mv n) (comp_id _)).symm
        unfold comF
        rw [e]
        exact bk_comp (hms m hm)
      rw [this]
      exact GenF.one
    | @step x m' hx hm' ih =>
      intro m hm
      rw [com_left (hx.mv hms) (hms m' hm') (hms m hm)]
      exact (k1 m' hm' _ (ih m hm)).mul (GenF.maker (h1 m' hm' m hm))
  have k4 : ∀ x, GenF ms x → ∀ y, GenF ms y → GenF own (comF n x y) := fun x hx y hy => by
    induction hy with
    | one =>
      have : comF n x id = id := by
        have e : bkF n id = id := (bk_uniq (id_mv n) (comp_id _)).symm
        unfold comF
        rw [e]
        exact bk_comp (hx.mv hms)
      rw [this]
      exact GenF.one
    | @step y m hy hm ih =>
      rw [com_right (hx.mv hms) (hms m hm) (hy.mv hms)]
      exact (k3 x hx m hm).mul (k1 m hm _ ih)
  constructor
  · intro hz
    exact hz.closed (G := GenF (cmL n ms)) GenF.one fun y hy c hc => hy.mul (h2 c hc)
  · intro hz
    refine hz.closed (G := GenF own) GenF.one fun y hy c hc => hy.mul ?_
    obtain ⟨u, v, hu, hv, rfl⟩ := (mem_cmL hms c).1 hc
    exact k4 u hu v hv
theorem GL_nodup (n : Nat) (ms : List (Nat → Nat)) : (GL n ms).Nodup := (GL_rise n ms).imp fun h e => by rw [e] at h; omega
theorem GL_same {ms' : List (Nat → Nat)} (hms : ∀ m ∈ ms, Mv n m) (hms' : ∀ m ∈ ms', Mv n m) (h : ∀ x, GenF ms x ↔ GenF ms' x) : GL n ms = GL n ms' :=
  GL_uniq hms' (fun x => by rw [mem_GL hms, h]) (GL_rise n ms)
/-- A maker that is new makes more. -/
theorem GL_more {own : List (Nat → Nat)} (hown : ∀ m ∈ own, Mv n m) (hy : Mv n y) (h : ¬ GenF own y) : (GL n own).length + 1 ≤ (GL n (own ++ [y])).length := by
  have h2 : ∀ m ∈ own ++ [y], Mv n m := by
    intro m hm
    rcases List.mem_append.1 hm with hm | hm
    · exact hown m hm
    · rw [List.mem_singleton.1 hm]; exact hy
  have h1 : (GL n own ++ [y]).Nodup := by
    rw [List.nodup_append]
    refine ⟨GL_nodup _ _, by simp, fun a ha b hb e => ?_⟩
    rw [List.mem_singleton.1 hb] at e
    rw [e, mem_GL hown] at ha
    exact h ha
  have h3 := sub_len _ (GL n (own ++ [y])) h1 (fun x hx => by
    rw [mem_GL h2]
    rcases List.mem_append.1 hx with hx | hx
    · exact ((mem_GL hown x).1 hx).closed (G := GenF (own ++ [y])) GenF.one fun z hz c hc => hz.step (List.mem_append_left _ hc)
    · rw [List.mem_singleton.1 hx]; exact GenF.maker (by simp))
  simpa using h3
end
theorem filt_add {α : Type} (p : α → Bool) : ∀ L : List α, L.length = (L.filter p).length + (L.filter fun y => !(p y)).length
  | [] => rfl
  | x :: L => by
    have ih := filt_add p L
    cases h : p x <;> simp [h] <;> omega
/-- Classes of one size. -/
theorem div_classes {α : Type} (r : α → α → Bool) (hr : ∀ x, r x x = true) (hs : ∀ x y, r x y = true → r y x = true) (ht : ∀ x y z, r x y = true → r y z = true → r x z = true) (m : Nat) :
    ∀ (k : Nat) (L : List α), L.length ≤ k → (∀ x ∈ L, (L.filter (r x)).length = m) → m ∣ L.length
  | k, [], _, _ => ⟨0, by simp⟩
  | 0, x :: L, h, _ => by simp at h
  | k + 1, x :: L, h, hc => by
    have h1 := hc x (by simp)
    have hpart : (x :: L).length = ((x :: L).filter (r x)).length + ((x :: L).filter fun y => !(r x y)).length := filt_add (r x) _
    have hm1 : 1 ≤ ((x :: L).filter (r x)).length := by
      rw [List.filter_cons, if_pos (hr x)]
      simp
    have ih := div_classes r hr hs ht m k ((x :: L).filter fun y => !(r x y)) (by simp only [List.length_cons] at h hpart; omega) (fun y hy => by
      obtain ⟨hy1, hy2⟩ := List.mem_filter.1 hy
      have hxy : r x y = false := by simpa using hy2
      rw [List.filter_filter]
      rw [← hc y hy1]
      congr 1
      refine List.filter_congr fun z hz => ?_
      cases hyz : r y z with
      | false => rfl
      | true =>
        have : r x z = false := by
          cases hxz : r x z with
          | false => rfl
          | true =>
            have := ht x z y hxz (hs y z hyz)
            rw [hxy] at this
            cases this
        rw [this]
        rfl)
    rw [hpart, h1]
    exact Nat.dvd_add (Nat.dvd_refl m) ih
open Classical in
/-- LAGRANGE: lists of all of a group and of all of a part of it. -/
theorem lagrange {n : Nat} {G H : (Nat → Nat) → Prop} {L M : List (Nat → Nat)} (hL : L.Nodup) (hM : M.Nodup) (hLG : ∀ x, x ∈ L ↔ G x) (hMH : ∀ x, x ∈ M ↔ H x) (hsub : ∀ x, H x → G x) (hmv : ∀ x, G x → Mv n x)
    (hGm : ∀ x y, G x → G y → G (compF x y)) (h1 : H id) (hm : ∀ x y, H x → H y → H (compF x y)) (hb : ∀ x, H x → H (bkF n x)) : M.length ∣ L.length := by
  refine div_classes (fun x y => decide (∃ h, H h ∧ y = compF x h)) (fun x => ?_) (fun x y h => ?_) (fun x y z h k => ?_) M.length _ L (Nat.le_refl _) (fun x hx => ?_)
  · rw [decide_eq_true_eq]
    exact ⟨id, h1, rfl⟩
  · rw [decide_eq_true_eq] at h ⊢
    obtain ⟨h, hh, rfl⟩ := h
    refine ⟨bkF n h, hb h hh, ?_⟩
    rw [comp_assoc, comp_bk (hmv h (hsub h hh))]
    rfl
  · rw [decide_eq_true_eq] at h k ⊢
    obtain ⟨a, ha, rfl⟩ := h
    obtain ⟨b, hb2, rfl⟩ := k
    exact ⟨compF a b, hm a b ha hb2, rfl⟩
  · have hxG := (hLG x).1 hx
    have hP := hmv x hxG
    have hinj : ∀ a b, compF x a = compF x b → a = b := fun a b e => by
      have : compF (bkF n x) (compF x a) = compF (bkF n x) (compF x b) := by rw [e]
      rw [← comp_assoc, ← comp_assoc, bk_comp hP] at this
      exact this
    have h2 : (M.map (compF x)).Nodup := by
      unfold List.Nodup
      rw [List.pairwise_map]
      exact hM.imp fun h e => h (hinj _ _ e)
    rw [show M.length = (M.map (compF x)).length by simp]
    refine same_len (hL.filter _) h2 fun y => ?_
    simp only [List.mem_filter, decide_eq_true_eq, List.mem_map]
    constructor
    · rintro ⟨_, h, hh, rfl⟩
      exact ⟨h, (hMH h).2 hh, rfl⟩
    · rintro ⟨h, hh, rfl⟩
      have hh := (hMH h).1 hh
      exact ⟨(hLG _).2 (hGm x h hxG (hsub h hh)), h, hh, rfl⟩
end Go.Proofs.Ytnbgnoimanpjnaa
