/-
  Redei: in a tournament the lists of all players in which each beats the next are an odd number. No program in sight.
-/
import Derived.Test.YthbpdfkaacgpoaaTglue
namespace Go.Proofs.Ythbpdfkaacgpoaa
set_option linter.unusedVariables false
open Go.RowKit

/-- The parity of a sum over all picks of one. -/
def pk (F : Nat → List Nat → Bool) : List Nat → Bool
  | [] => false
  | x :: R => F x R ^^ pk (fun u r => F u (x :: r)) R
/-- The same over all ways to share out among two. -/
def sp (F : List Nat → List Nat → Bool) : List Nat → Bool
  | [] => F [] []
  | x :: R => sp (fun B C => F (x :: B) C) R ^^ sp (fun B C => F B (x :: C)) R
theorem xor4 (a b c d : Bool) : ((a ^^ b) ^^ (c ^^ d)) = ((a ^^ c) ^^ (b ^^ d)) := by cases a <;> cases b <;> cases c <;> cases d <;> rfl
theorem andxor (c a b : Bool) : (c && (a ^^ b)) = ((c && a) ^^ (c && b)) := by cases a <;> cases b <;> cases c <;> rfl
theorem xorand (c a b : Bool) : ((a ^^ b) && c) = ((a && c) ^^ (b && c)) := by cases a <;> cases b <;> cases c <;> rfl
theorem pk_xor (F G : Nat → List Nat → Bool) (R : List Nat) : pk (fun u r => F u r ^^ G u r) R = (pk F R ^^ pk G R) := by
  induction R generalizing F G with
  | nil => rfl
  | cons x R ih => simp only [pk]; rw [ih (fun u r => F u (x :: r)) (fun u r => G u (x :: r)), xor4]
theorem pk_and (c : Bool) (F : Nat → List Nat → Bool) (R : List Nat) : pk (fun u r => c && F u r) R = (c && pk F R) := by
  induction R generalizing F with
  | nil => cases c <;> rfl
  | cons x R ih => simp only [pk]; rw [ih (fun u r => F u (x :: r)), andxor]
theorem pk_andr (c : Bool) (F : Nat → List Nat → Bool) (R : List Nat) : pk (fun u r => F u r && c) R = (pk F R && c) := by
  rw [Bool.and_comm (pk F R), ← pk_and]
  congr
  funext u r
  exact Bool.and_comm _ _
theorem sp_xor (F G : List Nat → List Nat → Bool) (R : List Nat) : sp (fun u r => F u r ^^ G u r) R = (sp F R ^^ sp G R) := by
  induction R generalizing F G with
  | nil => rfl
  | cons x R ih => simp only [sp]; rw [ih (fun u r => F (x :: u) r) (fun u r => G (x :: u) r), ih (fun u r => F u (x :: r)) (fun u r => G u (x :: r)), xor4]
theorem sp_and (c : Bool) (F : List Nat → List Nat → Bool) (R : List Nat) : sp (fun u r => c && F u r) R = (c && sp F R) := by
  induction R generalizing F with
  | nil => rfl
  | cons x R ih => simp only [sp]; rw [ih (fun u r => F (x :: u) r), ih (fun u r => F u (x :: r)), andxor]
theorem sp_andr (c : Bool) (F : List Nat → List Nat → Bool) (R : List Nat) : sp (fun u r => F u r && c) R = (sp F R && c) := by
  rw [Bool.and_comm (sp F R), ← sp_and]
  congr
  funext u r
  exact Bool.and_comm _ _
theorem pk_congr {F G : Nat → List Nat → Bool} (R : List Nat) (h : ∀ u r, (u :: r).Perm R → F u r = G u r) : pk F R = pk G R := by
  induction R generalizing F G with
  | nil => rfl
  | cons x R ih =>
    simp only [pk]
    rw [h x R (List.Perm.refl _), ih (fun u r hp => h u (x :: r) ((List.Perm.swap x u r).trans (hp.cons x)))]
theorem sp_congr {F G : List Nat → List Nat → Bool} (R : List Nat) (h : ∀ u r, (u ++ r).Perm R → F u r = G u r) : sp F R = sp G R := by
  induction R generalizing F G with
  | nil => exact h [] [] (List.Perm.refl _)
  | cons x R ih =>
    simp only [sp]
    rw [ih (fun u r hp => h (x :: u) r (hp.cons x)), ih (fun u r hp => h u (x :: r) ((List.perm_middle).trans (hp.cons x)))]
theorem pk_sp (F : Nat → List Nat → List Nat → Bool) (R : List Nat) : pk (fun u r => sp (fun B C => F u B C) r) R = sp (fun B C => pk (fun u b => F u b C) B) R := by
  induction R generalizing F with
  | nil => rfl
  | cons x R ih =>
    simp only [pk, sp]
    rw [pk_xor, ih (fun u B C => F u (x :: B) C), ih (fun u B C => F u B (x :: C)), sp_xor, Bool.xor_assoc]
theorem pk_swap (F : Nat → Nat → List Nat → Bool) (R : List Nat) : pk (fun y c => pk (fun z d => F y z d) c) R = pk (fun y c => pk (fun z d => F z y d) c) R := by
  induction R generalizing F with
  | nil => rfl
  | cons x R ih =>
    simp only [pk]
    rw [pk_xor, pk_xor, ih (fun y z d => F y z (x :: d))]
    generalize pk (fun z d => F x z d) R = a
    generalize pk (fun z d => F z x d) R = b
    generalize pk (fun y c => pk (fun z d => F z y (x :: d)) c) R = c
    cases a <;> cases b <;> cases c <;> rfl
theorem sp_empty (F : List Nat → Bool) (R : List Nat) : sp (fun B C => B.isEmpty && F C) R = F R := by
  induction R generalizing F with
  | nil => simp [sp]
  | cons x R ih =>
    simp only [sp]
    rw [ih (fun C => F (x :: C))]
    have : ∀ R : List Nat, sp (fun B C => (x :: B).isEmpty && F C) R = false := fun R => by
      rw [show (fun (B C : List Nat) => (x :: B).isEmpty && F C) = fun B C => false && F C from rfl, sp_and]; rfl
    rw [this]
    simp
/-- Lists that begin with v and go on with all of these. -/
def hF (g : Nat → Nat → Bool) : Nat → Nat → List Nat → Bool
  | 0, _, _ => true
  | n + 1, v, R => pk (fun u r => g v u && hF g n u r) R
def hP (g : Nat → Nat → Bool) (v : Nat) (R : List Nat) : Bool := hF g R.length v R
theorem hP_eq (g : Nat → Nat → Bool) (v : Nat) (R : List Nat) : hP g v R = (R.isEmpty ^^ pk (fun u r => g v u && hP g u r) R) := by
  cases R with
  | nil => rfl
  | cons x R =>
    rw [show (x :: R).isEmpty = false from rfl, Bool.false_xor]
    show pk (fun u r => g v u && hF g R.length u r) (x :: R) = _
    refine pk_congr _ fun u r hp => ?_
    have : R.length = r.length := by have := hp.length_eq; simp at this; omega
    rw [this]
    rfl
def kF (g : Nat → Nat → Bool) (x : Nat) : Nat → Nat → List Nat → Bool
  | 0, w, _ => g w x
  | n + 1, w, B => pk (fun y b => g w y && kF g x n y b) B
/-- Lists that begin with w, go on with all of these, and end with x. -/
def kP (g : Nat → Nat → Bool) (x w : Nat) (B : List Nat) : Bool := kF g x B.length w B
theorem kP_eq (g : Nat → Nat → Bool) (x w : Nat) (B : List Nat) : kP g x w B = ((B.isEmpty && g w x) ^^ pk (fun y b => g w y && kP g x y b) B) := by
  cases B with
  | nil => cases h : g w x <;> simp [kP, kF, pk, h]
  | cons z R =>
    rw [show (z :: R).isEmpty = false from rfl, Bool.false_and, Bool.false_xor]
    show pk (fun u r => g w u && kF g x R.length u r) (z :: R) = _
    refine pk_congr _ fun u r hp => ?_
    have : R.length = r.length := by have := hp.length_eq; simp at this; omega
    rw [this]
    rfl
def hA (g : Nat → Nat → Bool) (C : List Nat) : Bool := C.isEmpty ^^ pk (fun u r => hP g u r) C
def nG (g : Nat → Nat → Bool) (a b : Nat) : Bool := !g a b
theorem not_and_xor (a b : Bool) : (!a && b) = (b ^^ (a && b)) := by cases a <;> cases b <;> rfl
theorem hP_not (g : Nat → Nat → Bool) : ∀ (n : Nat) (v : Nat) (R : List Nat), R.length ≤ n → hP (nG g) v R = sp (fun B C => hP g v B && hA (nG g) C) R
  | n, v, [], _ => rfl
  | 0, v, x :: R, h => by simp at h
  | n + 1, v, x :: R, h => by
    have e1 : hP (nG g) v (x :: R) = (hA (nG g) (x :: R) ^^ pk (fun u r => g v u && hP (nG g) u r) (x :: R)) := by
      rw [hP_eq, show (x :: R).isEmpty = false from rfl, Bool.false_xor]
      rw [show (fun u r => nG g v u && hP (nG g) u r) = fun u r => hP (nG g) u r ^^ (g v u && hP (nG g) u r) from by funext u r; exact not_and_xor _ _]
      rw [pk_xor]
      unfold hA
      rw [show (x :: R).isEmpty = false from rfl, Bool.false_xor]
    rw [e1, pk_congr (G := fun u r => sp (fun B C => (g v u && hP g u B) && hA (nG g) C) r) (x :: R) (fun u r hp => by
      rw [hP_not g n u r (by have := hp.length_eq; simp at this h; omega), ← sp_and]
      congr
      funext B C
      exact (Bool.and_assoc _ _ _).symm), pk_sp, show (fun B C => hP g v B && hA (nG g) C) = fun B C => (B.isEmpty && hA (nG g) C) ^^ (pk (fun u r => g v u && hP g u r) B && hA (nG g) C) from by
        funext B C
        rw [hP_eq, xorand], sp_xor, sp_empty]
    congr
    funext B C
    exact pk_andr _ _ _
theorem hP_at (g : Nat → Nat → Bool) (x : Nat) : ∀ (n : Nat) (w : Nat) (r : List Nat), r.length ≤ n → hP g w (x :: r) = sp (fun B C => kP g x w B && hP g x C) r
  | n, w, r, h => by
    have e1 : hP g w (x :: r) = ((g w x && hP g x r) ^^ pk (fun u s => g w u && hP g u (x :: s)) r) := by
      rw [hP_eq, show (x :: r).isEmpty = false from rfl, Bool.false_xor]
      rfl
    have e2 : pk (fun u s => g w u && hP g u (x :: s)) r = pk (fun u s => sp (fun B C => (g w u && kP g x u B) && hP g x C) s) r := by
      refine pk_congr r fun u s hp => ?_
      cases n with
      | zero => exact absurd hp.length_eq (by simp; omega)
      | succ n =>
        rw [hP_at g x n u s (by have := hp.length_eq; simp at this; omega), ← sp_and]
        congr
        funext B C
        exact (Bool.and_assoc _ _ _).symm
    rw [e1, e2, pk_sp, show (fun B C => kP g x w B && hP g x C) = fun B C => (B.isEmpty && (g w x && hP g x C)) ^^ (pk (fun y b => g w y && kP g x y b) B && hP g x C) from by
      funext B C
      rw [kP_eq, xorand, Bool.and_assoc], sp_xor, sp_empty (fun C => g w x && hP g x C)]
    congr
    funext B C
    exact pk_andr _ _ _
theorem kP_back (g : Nat → Nat → Bool) (x : Nat) : ∀ (n : Nat) (w : Nat) (b : List Nat), b.length ≤ n → kP g x w b = ((b.isEmpty && g w x) ^^ pk (fun y c => kP g y w c && g y x) b)
  | n, w, b, h => by
    rw [kP_eq]
    congr 1
    have e1 : pk (fun y c => g w y && kP g x y c) b = pk (fun y c => (c.isEmpty && (g w y && g y x)) ^^ pk (fun z d => (g w y && kP g z y d) && g z x) c) b := by
      refine pk_congr b fun y c hp => ?_
      cases n with
      | zero => exact absurd hp.length_eq (by simp; omega)
      | succ n =>
        rw [kP_back g x n y c (by have := hp.length_eq; simp at this; omega), andxor, ← pk_and]
        congr 1
        · cases g w y <;> cases c.isEmpty <;> rfl
        · congr
          funext z d
          exact (Bool.and_assoc _ _ _).symm
    have e2 : pk (fun y c => kP g y w c && g y x) b = pk (fun y c => (c.isEmpty && (g w y && g y x)) ^^ pk (fun z d => (g w z && kP g y z d) && g y x) c) b := by
      congr
      funext y c
      rw [kP_eq, xorand, pk_andr, Bool.and_assoc]
    rw [e1, e2, pk_xor, pk_xor, pk_swap (fun y z d => (g w y && kP g z y d) && g z x)]
def tG (g : Nat → Nat → Bool) (a b : Nat) : Bool := g b a
theorem hP_turn (g : Nat → Nat → Bool) : ∀ (n : Nat) (x : Nat) (B : List Nat), B.length ≤ n → hP (tG g) x B = (B.isEmpty ^^ pk (fun w b => kP g x w b) B)
  | n, x, B, h => by
    rw [hP_eq]
    congr 1
    have e1 : pk (fun y b => tG g x y && hP (tG g) y b) B = pk (fun y b => (b.isEmpty && g y x) ^^ pk (fun w c => kP g y w c && g y x) b) B := by
      refine pk_congr B fun y b hp => ?_
      cases n with
      | zero => exact absurd hp.length_eq (by simp; omega)
      | succ n =>
        rw [hP_turn g n y b (by have := hp.length_eq; simp at this; omega), andxor, pk_andr, Bool.and_comm, Bool.and_comm (tG g x y) (pk _ b)]
        rfl
    have e2 : pk (fun w b => kP g x w b) B = pk (fun w b => (b.isEmpty && g w x) ^^ pk (fun y c => kP g y w c && g y x) b) B := by
      congr
      funext w b
      exact kP_back g x b.length w b (Nat.le_refl _)
    rw [e1, e2, pk_xor, pk_xor, pk_swap (fun y w c => kP g y w c && g y x)]
theorem hA_at (g : Nat → Nat → Bool) (x : Nat) (R : List Nat) : hA g (x :: R) = sp (fun B C => hP (tG g) x B && hP g x C) R := by
  have e1 : hA g (x :: R) = (hP g x R ^^ pk (fun u s => hP g u (x :: s)) R) := by
    unfold hA
    rw [show (x :: R).isEmpty = false from rfl, Bool.false_xor]
    rfl
  have e2 : pk (fun u s => hP g u (x :: s)) R = pk (fun u s => sp (fun B C => kP g x u B && hP g x C) s) R := by
    congr
    funext u s
    exact hP_at g x s.length u s (Nat.le_refl _)
  rw [e1, e2, pk_sp, show (fun B C => hP (tG g) x B && hP g x C) = fun B C => (B.isEmpty && hP g x C) ^^ (pk (fun w b => kP g x w b) B && hP g x C) from by
    funext B C
    rw [hP_turn g B.length x B (Nat.le_refl _), xorand], sp_xor, sp_empty]
  congr
  funext B C
  exact pk_andr _ _ _
/-- Shared out among three. -/
def tri (G : List Nat → List Nat → Bool) (R : List Nat) : Bool := sp (fun B C => sp (fun D _ => G D C) B) R
theorem tri_cons (G : List Nat → List Nat → Bool) (x : Nat) (R : List Nat) : tri G (x :: R) = ((tri (fun D C => G (x :: D) C) R ^^ tri G R) ^^ tri (fun D C => G D (x :: C)) R) := by
  unfold tri
  simp only [sp]
  rw [sp_xor]
theorem tri_swap (G : List Nat → List Nat → Bool) (R : List Nat) : tri G R = tri (fun a b => G b a) R := by
  induction R generalizing G with
  | nil => rfl
  | cons x R ih =>
    rw [tri_cons, tri_cons, ih (fun D C => G (x :: D) C), ih G, ih (fun D C => G D (x :: C))]
    generalize tri (fun a b => G (x :: b) a) R = a
    generalize tri (fun a b => G b a) R = b
    generalize tri (fun a b => G b (x :: a)) R = c
    cases a <;> cases b <;> cases c <;> rfl
theorem tri_same (f : List Nat → Bool) (R : List Nat) : tri (fun a b => f a && f b) R = f [] := by
  induction R with
  | nil => show (f [] && f []) = f []; simp
  | cons x R ih =>
    rw [tri_cons, ih, tri_swap (fun D C => f D && f (x :: C))]
    have : (fun (D C : List Nat) => f (x :: D) && f C) = fun a b => f b && f (x :: a) := by
      funext a b
      exact Bool.and_comm _ _
    rw [this]
    generalize tri (fun a b => f b && f (x :: a)) R = a
    cases a <;> cases f [] <;> rfl
theorem hP_congr {g g' : Nat → Nat → Bool} : ∀ (n : Nat) (x : Nat) (B : List Nat), B.length ≤ n → (x :: B).Nodup → (∀ a ∈ x :: B, ∀ b ∈ x :: B, a ≠ b → g a b = g' a b) → hP g x B = hP g' x B
  | n, x, B, h, hn, hg => by
    rw [hP_eq g, hP_eq g']
    congr 1
    refine pk_congr B fun y b hp => ?_
    cases n with
    | zero => exact absurd hp.length_eq (by simp; omega)
    | succ n =>
      rw [List.nodup_cons] at hn
      have hm : ∀ z, z ∈ y :: b → z ∈ B := fun z hz => hp.mem_iff.1 hz
      rw [hP_congr n y b (by have := hp.length_eq; simp at this; omega) (hp.nodup_iff.2 hn.2) (fun a ha c hc => hg a (by simp [hm a ha]) c (by simp [hm c hc])), hg x (by simp) y (by simp [hm y (by simp)]) (fun e => hn.1 (by rw [e]; exact hm y (by simp)))]
/-- Redei. -/
theorem redei : ∀ (n : Nat) (g : Nat → Nat → Bool) (A : List Nat), A.length ≤ n → A.Nodup → (∀ a ∈ A, ∀ b ∈ A, a ≠ b → g b a = !g a b) → hA g A = true
  | _, g, [], _, _, _ => rfl
  | 0, g, x :: R, h, _, _ => by simp at h
  | n + 1, g, x :: R, h, hn, hg => by
    rw [hA_at, sp_congr (G := fun B C => sp (fun D _ => hP g x D && hP g x C) B) R (fun B C hp => ?_)]
    · exact tri_same (fun D => hP g x D) R
    · rw [List.nodup_cons] at hn
      have hmB : ∀ z ∈ B, z ∈ R := fun z hz => hp.mem_iff.1 (by simp [hz])
      have hnB : B.Nodup := (List.nodup_append.1 (hp.nodup_iff.2 hn.2)).1
      have hlB : B.length ≤ n := by have := hp.length_eq; simp at this h; omega
      have e1 : hP (tG g) x B = hP (nG g) x B := hP_congr B.length x B (Nat.le_refl _) (List.nodup_cons.2 ⟨fun hm => hn.1 (hmB x hm), hnB⟩) (fun a ha b hb hab => hg a (by
        rcases List.mem_cons.1 ha with e | e
        · simp [e]
        · simp [hmB a e]) b (by
        rcases List.mem_cons.1 hb with e | e
        · simp [e]
        · simp [hmB b e]) hab)
      rw [e1, hP_not g B.length x B (Nat.le_refl _), ← sp_andr]
      refine sp_congr B fun D F hq => ?_
      have hmF : ∀ z ∈ F, z ∈ B := fun z hz => hq.mem_iff.1 (by simp [hz])
      rw [redei n (nG g) F (by have := hq.length_eq; simp at this; omega) (List.nodup_append.1 (hq.nodup_iff.2 hnB)).2.1 (fun a ha b hb hab => by
        unfold nG
        rw [hg a (by simp [hmB _ (hmF a ha)]) b (by simp [hmB _ (hmF b hb)]) hab]), Bool.and_true]
/-- Sums' parities. -/
def xsm (f : Nat → Bool) : List Nat → Bool
  | [] => false
  | x :: l => f x ^^ xsm f l
def par (n : Nat) : Bool := n % 2 == 1
theorem par_add (a b : Nat) : par (a + b) = (par a ^^ par b) := by
  unfold par
  rcases Nat.mod_two_eq_zero_or_one a with h | h <;> rcases Nat.mod_two_eq_zero_or_one b with h2 | h2
  · rw [h, h2, show (a + b) % 2 = 0 by omega]; rfl
  · rw [h, h2, show (a + b) % 2 = 1 by omega]; rfl
  · rw [h, h2, show (a + b) % 2 = 1 by omega]; rfl
  · rw [h, h2, show (a + b) % 2 = 0 by omega]; rfl
theorem par_flat (F : Nat → List (List Int)) (X : List Nat) : par (X.flatMap F).length = xsm (fun p => par (F p).length) X := by
  induction X with
  | nil => rfl
  | cons x X ih => rw [List.flatMap_cons, List.length_append, par_add, ih]; rfl
theorem xsm_filter (c f : Nat → Bool) (X : List Nat) : xsm (fun p => c p && f p) X = xsm f (X.filter c) := by
  induction X with
  | nil => rfl
  | cons x X ih =>
    rw [xsm, ih, List.filter_cons]
    cases h : c x with
    | true => simp [xsm]
    | false => simp
theorem xsm_congr {f g : Nat → Bool} (X : List Nat) (h : ∀ x ∈ X, f x = g x) : xsm f X = xsm g X := by
  induction X with
  | nil => rfl
  | cons x X ih => rw [xsm, xsm, h x (by simp), ih (fun y hy => h y (by simp [hy]))]
theorem pk_xsm (F : Nat → List Nat → Bool) : ∀ (R : List Nat), R.Nodup → pk F R = xsm (fun u => F u (R.filter fun z => !decide (z = u))) R
  | [], _ => rfl
  | x :: R, hn => by
    rw [List.nodup_cons] at hn
    rw [pk, xsm, pk_xsm (fun u r => F u (x :: r)) R hn.2]
    have e1 : (x :: R).filter (fun z => !decide (z = x)) = R := by
      rw [List.filter_cons, if_neg (by simp), List.filter_eq_self]
      intro a ha
      have : a ≠ x := fun e => hn.1 (e ▸ ha)
      simpa using this
    rw [e1]
    congr 1
    refine xsm_congr R fun u hu => ?_
    have : x ≠ u := fun e => hn.1 (e ▸ hu)
    rw [List.filter_cons, if_pos (by simpa using this)]
/-- Who is left. -/
def lef (N : Nat) (l : List Int) : List Nat := (List.range N).filter fun p => !decide ((p : Int) ∈ l)
theorem lef_next (N : Nat) (l : List Int) (u : Nat) : (lef N l).filter (fun z => !decide (z = u)) = lef N (l ++ [(u : Int)]) := by
  unfold lef
  rw [List.filter_filter]
  congr
  funext p
  have : ((p : Int) ∈ l ++ [(u : Int)]) ↔ (p = u ∨ (p : Int) ∈ l) := by
    rw [List.mem_append, List.mem_singleton]
    constructor
    · rintro (h | h)
      · exact .inr h
      · exact .inl (by omega)
    · rintro (h | h)
      · exact .inr (by omega)
      · exact .inl h
  by_cases h1 : p = u <;> by_cases h2 : (p : Int) ∈ l <;> simp [this, h1, h2]
theorem lef_nodup (N : Nat) (l : List Int) : (lef N l).Nodup := (List.nodup_range).filter _
theorem comp_par {N : Nat} {SB : Nat → Bool} : ∀ (f : Nat) (l : List Int) (v : Nat), (lef N (l ++ [(v : Int)])).length = f → par (comp N SB f (l ++ [(v : Int)])).length = hP (fun i j => SB (i * 9 + j)) v (lef N (l ++ [(v : Int)]))
  | 0, l, v, hf => by
    rw [List.eq_nil_of_length_eq_zero hf]
    rfl
  | f + 1, l, v, hf => by
    rw [comp, par_flat, hP_eq, show (lef N (l ++ [(v : Int)])).isEmpty = false from by
      cases h : lef N (l ++ [(v : Int)]) with
      | nil => rw [h] at hf; cases hf
      | cons _ _ => rfl, Bool.false_xor, pk_xsm _ _ (lef_nodup _ _)]
    have e1 : ∀ p, par (if okB SB (l ++ [(v : Int)]) p then comp N SB f (l ++ [(v : Int)] ++ [(p : Int)]) else []).length = ((!decide ((p : Int) ∈ l ++ [(v : Int)])) && (SB (v * 9 + p) && par (comp N SB f (l ++ [(v : Int)] ++ [(p : Int)])).length)) := fun p => by
      have hl : (l ++ [(v : Int)]).getD ((l ++ [(v : Int)]).length - 1) 0 = (v : Int) := by
        rw [List.getD_eq_getElem?_getD]; simp
      have ho : okB SB (l ++ [(v : Int)]) p = ((!decide ((p : Int) ∈ l ++ [(v : Int)])) && SB (v * 9 + p)) := by
        unfold okB
        rw [hl, Int.toNat_natCast, decide_eq_false (show ¬ (l ++ [(v : Int)]).length = 0 by simp), Bool.false_or]
      rw [ho]
      generalize (!decide ((p : Int) ∈ l ++ [(v : Int)])) = a
      cases a <;> cases SB (v * 9 + p) <;> simp [par]
    rw [show (fun p => par (if okB SB (l ++ [(v : Int)]) p then comp N SB f (l ++ [(v : Int)] ++ [(p : Int)]) else []).length) = _ from funext e1, xsm_filter]
    show xsm _ (lef N (l ++ [(v : Int)])) = _
    refine xsm_congr _ fun p hp => ?_
    have hlen : (lef N (l ++ [(v : Int)] ++ [(p : Int)])).length = f := by
      rw [← lef_next]
      have h1 := List.length_filter_lt_length_iff_exists (p := fun z => !decide (z = p)) (l := lef N (l ++ [(v : Int)]))
      have h2 := (lef_nodup N (l ++ [(v : Int)])).erase_eq_filter p
      have h3 : (lef N (l ++ [(v : Int)])).filter (fun z => !decide (z = p)) = (lef N (l ++ [(v : Int)])).erase p := by
        rw [h2]
        refine List.filter_congr fun z _ => ?_
        by_cases hz : z = p <;> simp [hz]
      rw [h3, List.length_erase_of_mem hp]
      omega
    rw [comp_par f (l ++ [(v : Int)]) p hlen, lef_next]
theorem redei_comp {S : Nat} {SB : Nat → Bool} (hS : 1 ≤ S) (ht : ∀ i j, i < S → j < S → i ≠ j → SB (j * 9 + i) = !SB (i * 9 + j)) : (comp S SB S []).length % 2 = 1 := by
  obtain ⟨f, rfl⟩ : ∃ f, S = f + 1 := ⟨S - 1, by omega⟩
  have h1 := redei (f + 1) (fun i j => SB (i * 9 + j)) (List.range (f + 1)) (by simp) List.nodup_range (fun a ha b hb hab => ht a b (List.mem_range.1 ha) (List.mem_range.1 hb) hab)
  have hR : lef (f + 1) [] = List.range (f + 1) := by
    unfold lef
    rw [List.filter_eq_self]
    intro a _
    simp
  have h2 : par (comp (f + 1) SB (f + 1) []).length = hA (fun i j => SB (i * 9 + j)) (List.range (f + 1)) := by
    rw [comp, par_flat]
    unfold hA
    rw [show (List.range (f + 1)).isEmpty = false from by simp, Bool.false_xor, pk_xsm _ _ List.nodup_range]
    refine xsm_congr _ fun p hp => ?_
    have ho : okB SB [] p = true := by simp [okB]
    rw [ho, if_pos rfl]
    have hl : (List.range (f + 1)).filter (fun z => !decide (z = p)) = lef (f + 1) ([] ++ [(p : Int)]) := by rw [← lef_next, hR]
    rw [hl]
    refine comp_par f [] p ?_
    rw [← hl]
    have h2 := (List.nodup_range (n := f + 1)).erase_eq_filter p
    have h3 : (List.range (f + 1)).filter (fun z => !decide (z = p)) = (List.range (f + 1)).erase p := by
      rw [h2]
      refine List.filter_congr fun z _ => ?_
      by_cases hz : z = p <;> simp [hz]
    rw [h3, List.length_erase_of_mem hp]
    simp
  rw [h1] at h2
  unfold par at h2
  simpa using h2
end Go.Proofs.Ythbpdfkaacgpoaa
