/-
  Berlekamp and Massey: what the rounds keep. No program in sight.
-/
import Derived.Test.YtlnfkkapepgilaaRow
namespace Go.Proofs.Ytlnfkkapepgilaa
set_option linter.unusedVariables false

/-- A sum of so many. -/
def sm (f : Nat → Int) : Nat → Int
  | 0 => 0
  | j + 1 => sm f j + f j
theorem sm_congr {f g : Nat → Int} : ∀ n, (∀ i, i < n → f i = g i) → sm f n = sm g n
  | 0, _ => rfl
  | n + 1, h => by rw [sm, sm, sm_congr n (fun i hi => h i (by omega)), h n (by omega)]
theorem sm_zero {f : Nat → Int} : ∀ n, (∀ i, i < n → f i = 0) → sm f n = 0
  | 0, _ => rfl
  | n + 1, h => by rw [sm, sm_zero n (fun i hi => h i (by omega)), h n (by omega)]; rfl
theorem sm_add (f g : Nat → Int) : ∀ n, sm (fun i => f i + g i) n = sm f n + sm g n
  | 0 => rfl
  | n + 1 => by simp only [sm]; rw [sm_add f g n]; omega
theorem sm_mul (c : Int) (f : Nat → Int) : ∀ n, sm (fun i => c * f i) n = c * sm f n
  | 0 => by simp [sm]
  | n + 1 => by simp only [sm]; rw [sm_mul c f n, Int.mul_add]
theorem sm_dvd {p : Int} {f : Nat → Int} : ∀ n, (∀ i, i < n → p ∣ f i) → p ∣ sm f n
  | 0, _ => ⟨0, by simp [sm]⟩
  | n + 1, h => Int.dvd_add (sm_dvd n (fun i hi => h i (by omega))) (h n (by omega))
theorem sm_dvd_sub {p : Int} {f g : Nat → Int} : ∀ n, (∀ i, i < n → p ∣ f i - g i) → p ∣ sm f n - sm g n
  | 0, _ => ⟨0, by simp [sm]⟩
  | n + 1, h => by
    have h1 := Int.dvd_add (sm_dvd_sub n (fun i hi => h i (by omega))) (h n (by omega))
    rw [show sm f n - sm g n + (f n - g n) = (sm f n + f n) - (sm g n + g n) by omega] at h1
    exact h1
/-- What is 0 behind may be left out. -/
theorem sm_more {f : Nat → Int} {n : Nat} : ∀ d, (∀ i, n ≤ i → f i = 0) → sm f (n + d) = sm f n
  | 0, _ => rfl
  | d + 1, h => by rw [← Nat.add_assoc, sm, sm_more d h, h (n + d) (by omega)]; omega
/-- Sums in either order. -/
theorem sm_swap (f : Nat → Nat → Int) : ∀ a b, sm (fun i => sm (fun j => f i j) b) a = sm (fun j => sm (fun i => f i j) a) b
  | 0, b => (sm_zero b (fun _ _ => rfl)).symm
  | a + 1, b => by simp only [sm]; rw [sm_swap f a b, ← sm_add]
/-- What is 0 ahead may be left out. -/
theorem sm_shift {f : Nat → Int} {g : Nat} (h : ∀ i, i < g → f i = 0) : ∀ n, sm f (g + n) = sm (fun i => f (g + i)) n
  | 0 => sm_zero g h
  | n + 1 => by rw [← Nat.add_assoc, sm, sm_shift h n, sm]

theorem sm_front (F : Nat → Int) : ∀ m, sm F (1 + m) = F 0 + sm (fun j => F (1 + j)) m
  | 0 => by simp [sm]
  | m + 1 => by rw [← Nat.add_assoc, sm, sm_front F m, sm]; omega

/-- What a recurrence misses at m. -/
def disc (s C : Nat → Int) (L m : Nat) : Int := sm (fun i => C i * s (m - i)) (L + 1)
def Gen (p : Int) (s C : Nat → Int) (L n : Nat) : Prop := ∀ m, L ≤ m → m < n → p ∣ disc s C L m
/-- Massey: two that part at n are long together. -/
theorem massey {p : Int} {s C C' : Nat → Int} {L L' n : Nat} (h1 : Gen p s C L n) (h2 : ¬ p ∣ disc s C L n) (h3 : Gen p s C' L' (n + 1)) (h0 : C' 0 = 1) : n + 1 ≤ L + L' := by
  refine Classical.byContradiction fun hc => h2 ?_
  have hs := sm_swap (fun i j => C i * (C' j * s (n - i - j))) (L + 1) (L' + 1)
  -- rows first: 0
  have e1 : p ∣ sm (fun i => sm (fun j => C i * (C' j * s (n - i - j))) (L' + 1)) (L + 1) := by
    refine sm_dvd _ fun i hi => ?_
    rw [sm_mul]
    exact Int.dvd_mul_of_dvd_right (h3 (n - i) (by omega) (by omega))
  rw [hs] at e1
  -- columns: only the first is left
  have e2 : ∀ j, sm (fun i => C i * (C' j * s (n - i - j))) (L + 1) = C' j * disc s C L (n - j) := fun j => by
    unfold disc
    rw [← sm_mul]
    refine sm_congr _ fun i hi => ?_
    rw [show n - i - j = n - j - i by omega, ← Int.mul_assoc, Int.mul_comm (C i), Int.mul_assoc]
  rw [sm_congr _ (fun j hj => e2 j), show L' + 1 = 1 + L' by omega, sm_front, Nat.sub_zero, h0, Int.one_mul] at e1
  refine (Int.dvd_add_left (sm_dvd _ fun j hj => ?_)).1 e1
  exact Int.dvd_mul_of_dvd_right (h1 (n - (1 + j)) (by omega) (by omega))
/-- What a round leaves. -/
structure BM (p : Int) (s : Nat → Int) (n : Nat) (C B : Nat → Int) (L g : Nat) (b : Int) : Prop where
  c0 : C 0 = 1
  cz : ∀ i, L < i → C i = 0
  ln : L ≤ n
  gen : Gen p s C L n
  mini : ∀ C' L', C' 0 = 1 → Gen p s C' L' n → L ≤ L'
  old : (L = 0 ∧ g = n + 1 ∧ ∀ i, 0 < i → B i = 0) ∨ ∃ nB LB, nB < n ∧ g + nB = n ∧ L + LB = nB + 1 ∧ (∀ i, LB < i → B i = 0) ∧ Gen p s B LB nB ∧ p ∣ disc s B LB nB - b
theorem BM.start (p : Int) (s C B : Nat → Int) (h0 : C 0 = 1) (hC : ∀ i, 0 < i → C i = 0) (hB : ∀ i, 0 < i → B i = 0) (b : Int) : BM p s 0 C B 0 1 b :=
  ⟨h0, hC, Nat.le_refl _, fun m _ h => by omega, fun _ _ _ _ => Nat.zero_le _, .inl ⟨rfl, rfl, hB⟩⟩
section
variable {p : Int} {s C B : Nat → Int} {n L g : Nat} {b : Int}
theorem Gen.mono {m : Nat} (h : Gen p s C L n) (hm : m ≤ n) : Gen p s C L m := fun i h1 h2 => h i h1 (by omega)
/-- Nothing is missed. -/
theorem BM.same (H : BM p s n C B L g b) (hd : p ∣ disc s C L n) : BM p s (n + 1) C B L (g + 1) b := by
  refine ⟨H.c0, H.cz, by have := H.ln; omega, fun m h1 h2 => ?_, fun C' L' h0 hg => H.mini C' L' h0 (hg.mono (by omega)), ?_⟩
  · rcases Nat.lt_or_ge m n with h | h
    · exact H.gen m h1 h
    · obtain rfl : m = n := by omega
      exact hd
  · rcases H.old with ⟨h1, h2, h3⟩ | ⟨nB, LB, h1, h2, h3⟩
    · exact .inl ⟨h1, by omega, h3⟩
    · exact .inr ⟨nB, LB, by omega, by omega, h3⟩
theorem BM.g1 (H : BM p s n C B L g b) : 1 ≤ g := by
  rcases H.old with ⟨h1, h2, h3⟩ | ⟨nB, LB, h1, h2, h3⟩ <;> omega
/-- What is mended. -/
def nxF (p t : Int) (C B : Nat → Int) (g size i : Nat) : Int := if g ≤ i ∧ i < size then (C i + (p - t) * B (i - g)) % p else C i
def newL (L n : Nat) : Nat := if 2 * L ≤ n then n + 1 - L else L
theorem BM.far (H : BM p s n C B L g b) {i : Nat} (hi : newL L n < i) (hg : g ≤ i) : B (i - g) = 0 := by
  unfold newL at hi
  rcases H.old with ⟨h1, h2, h3⟩ | ⟨nB, LB, h1, h2, h3, h4, _⟩
  · subst h1 h2
    rw [if_pos (by omega)] at hi
    exact h3 _ (by omega)
  · refine h4 _ ?_
    split at hi <;> omega
theorem BM.nx0 (H : BM p s n C B L g b) (t : Int) (size : Nat) : nxF p t C B g size 0 = 1 := by
  unfold nxF
  rw [if_neg (by have := H.g1; omega), H.c0]
theorem BM.nxz (H : BM p s n C B L g b) (t : Int) (size : Nat) {i : Nat} (hi : newL L n < i) : nxF p t C B g size i = 0 := by
  have hC : C i = 0 := H.cz i (by unfold newL at hi; split at hi <;> omega)
  unfold nxF
  split
  · rename_i h
    rw [hC, H.far hi h.1]
    simp
  · exact hC
theorem BM.nxd (H : BM p s n C B L g b) (t : Int) {size : Nat} (hsz : n + 1 < size) (i : Nat) : p ∣ nxF p t C B g size i - (C i - t * (if g ≤ i then B (i - g) else 0)) := by
  unfold nxF
  by_cases h : g ≤ i
  · by_cases h2 : i < size
    · rw [if_pos ⟨h, h2⟩, if_pos h]
      have e : (C i + (p - t) * B (i - g)) % p = C i + (p - t) * B (i - g) - p * ((C i + (p - t) * B (i - g)) / p) := by
        rw [Int.emod_def]
      rw [e, Int.sub_mul]
      refine ⟨B (i - g) - (C i + (p * B (i - g) - t * B (i - g))) / p, ?_⟩
      rw [Int.mul_sub]
      omega
    · rw [if_neg (by omega), if_pos h, H.far (by unfold newL; have := H.ln; split <;> omega) h]
      exact ⟨0, by simp⟩
  · rw [if_neg (by omega), if_neg h]
    exact ⟨0, by simp⟩
theorem BM.nxg (H : BM p s n C B L g b) {t : Int} {size : Nat} (hsz : n + 1 < size) (ht : p ∣ t * b - disc s C L n) : Gen p s (nxF p t C B g size) (newL L n) (n + 1) := by
  intro m h1 h2
  have hL : L ≤ newL L n := by unfold newL; split <;> omega
  -- in three parts
  have e1 : p ∣ disc s (nxF p t C B g size) (newL L n) m - (sm (fun i => C i * s (m - i)) (newL L n + 1) - t * sm (fun i => (if g ≤ i then B (i - g) else 0) * s (m - i)) (newL L n + 1)) := by
    have h3 := sm_dvd_sub (p := p) (f := fun i => nxF p t C B g size i * s (m - i)) (g := fun i => C i * s (m - i) + (-t) * ((if g ≤ i then B (i - g) else 0) * s (m - i))) (newL L n + 1) (fun i _ => by
      have h4 : p ∣ (nxF p t C B g size i - (C i - t * (if g ≤ i then B (i - g) else 0))) * s (m - i) := Int.dvd_mul_of_dvd_left (H.nxd t hsz i)
      rw [Int.sub_mul, Int.sub_mul, Int.mul_assoc] at h4
      rw [Int.neg_mul]
      rw [show nxF p t C B g size i * s (m - i) - (C i * s (m - i) + -(t * ((if g ≤ i then B (i - g) else 0) * s (m - i)))) = nxF p t C B g size i * s (m - i) - (C i * s (m - i) - t * ((if g ≤ i then B (i - g) else 0) * s (m - i))) by omega]
      exact h4)
    rw [sm_add, sm_mul, Int.neg_mul] at h3
    rw [show sm (fun i => C i * s (m - i)) (newL L n + 1) - t * sm (fun i => (if g ≤ i then B (i - g) else 0) * s (m - i)) (newL L n + 1) = sm (fun i => C i * s (m - i)) (newL L n + 1) + -(t * sm (fun i => (if g ≤ i then B (i - g) else 0) * s (m - i)) (newL L n + 1)) from Int.sub_eq_add_neg]
    exact h3
  have e2 : sm (fun i => C i * s (m - i)) (newL L n + 1) = disc s C L m := by
    rw [show newL L n + 1 = L + 1 + (newL L n - L) by omega]
    exact sm_more _ fun i hi => by rw [H.cz i (by omega), Int.zero_mul]
  rw [e2] at e1
  rcases H.old with ⟨h3, h4, h5⟩ | ⟨nB, LB, h3, h4, h5, h6, h7, h8⟩
  · -- the first time: nothing is asked
    have : newL L n = n + 1 := by unfold newL; rw [if_pos (by omega)]; omega
    omega
  · have hgl : g + LB ≤ newL L n := by unfold newL; split <;> omega
    have e3 : sm (fun i => (if g ≤ i then B (i - g) else 0) * s (m - i)) (newL L n + 1) = disc s B LB (m - g) := by
      rw [show newL L n + 1 = g + (LB + 1 + (newL L n - g - LB)) by omega, sm_shift (fun i hi => by rw [if_neg (by omega), Int.zero_mul])]
      rw [sm_congr (g := fun i => B i * s (m - g - i)) _ (fun i _ => by rw [if_pos (by omega), show g + i - g = i by omega, show m - (g + i) = m - g - i by omega])]
      exact sm_more _ fun i hi => by rw [h6 i (by omega), Int.zero_mul]
    rw [e3] at e1
    have e4 : p ∣ disc s C L m - t * disc s B LB (m - g) := by
      rcases Nat.lt_or_ge m n with h | h
      · exact Int.dvd_sub (H.gen m (by omega) h) (Int.dvd_mul_of_dvd_right (h7 (m - g) (by omega) (by omega)))
      · obtain rfl : m = n := by omega
        rw [show m - g = nB by omega]
        have h9 := Int.dvd_mul_of_dvd_right (b := t) h8
        rw [Int.mul_sub] at h9
        have h10 := Int.dvd_add h9 ht
        rw [show t * disc s B LB nB - t * b + (t * b - disc s C L m) = -(disc s C L m - t * disc s B LB nB) by omega] at h10
        exact (Int.dvd_neg).1 h10
    have := Int.dvd_add e1 e4
    rw [show disc s (nxF p t C B g size) (newL L n) m - (disc s C L m - t * disc s B LB (m - g)) + (disc s C L m - t * disc s B LB (m - g)) = disc s (nxF p t C B g size) (newL L n) m by omega] at this
    exact this
/-- Something is missed: it is mended; the recurrence grows. -/
theorem BM.grow (H : BM p s n C B L g b) {t d : Int} {size : Nat} (hsz : n + 1 < size) (ht : p ∣ t * b - disc s C L n) (hd : ¬ p ∣ disc s C L n) (hdd : p ∣ disc s C L n - d) (h2 : 2 * L ≤ n) : BM p s (n + 1) (nxF p t C B g size) C (n + 1 - L) 1 d := by
  have hn : newL L n = n + 1 - L := by unfold newL; rw [if_pos h2]
  refine ⟨H.nx0 t size, fun i hi => H.nxz t size (by omega), by omega, by rw [← hn]; exact H.nxg hsz ht, fun C' L' h0 hg => ?_, .inr ⟨n, L, by omega, by omega, by omega, H.cz, H.gen, hdd⟩⟩
  have := massey H.gen hd hg h0
  omega
/-- It does not grow. -/
theorem BM.keep (H : BM p s n C B L g b) {t : Int} {size : Nat} (hsz : n + 1 < size) (ht : p ∣ t * b - disc s C L n) (h2 : ¬ 2 * L ≤ n) : BM p s (n + 1) (nxF p t C B g size) B L (g + 1) b := by
  have hn : newL L n = L := by unfold newL; rw [if_neg h2]
  refine ⟨H.nx0 t size, fun i hi => H.nxz t size (by omega), by have := H.ln; omega, ?_, fun C' L' h0 hg => H.mini C' L' h0 (hg.mono (by omega)), ?_⟩
  · have := H.nxg hsz ht
    rw [hn] at this
    exact this
  · rcases H.old with ⟨h1, h3, h4⟩ | ⟨nB, LB, h1, h3, h4⟩
    · omega
    · exact .inr ⟨nB, LB, by omega, by omega, h4⟩
end
end Go.Proofs.Ytlnfkkapepgilaa
