/-
  'make' as one step of a region that draws its order; an inverse modulo p. Conditions: as each theorem states.
-/
import Derived.Test.YtlnfkkapepgilaaRbase
import Derived.OwnWalk
import Derived.BigRegion
namespace Go.Proofs.Ytlnfkkapepgilaa
set_option linter.unusedVariables false
open Go.RowKit

theorem mk_ex {P : Program} (st E : TypeId) (z : Value) (bytes : Nat)
    (ht : P.underlying st = some (.slice E)) (hi : (P.info? E).map (fun i => (i.zero, i.size, i.bytes)) = some (some z, 1, bytes)) (hzs : z.cells = #[z]) (hbt : bytes ≤ 100)
    (n : Nat) (hn : n ≤ 1000000000000) : ∃ mk : World → World, ∀ w, (Instr.makeSlice st (.int .i64 (n : Int)) (.int .i64 (n : Int))).run P w = .ok (.slice (some ⟨w.heap.size, 0, none⟩) n n) (mk w) ∧ Ow E w.heap.size (mk w) (.slice (some ⟨w.heap.size, 0, none⟩) n n) (List.replicate n z) ∧ w.grownBy (mk w) none ∧ w.heap.size < (mk w).heap.size := by
  obtain ⟨i0, hi1, hz0, hz1, hz2⟩ := info_parts hi
  have h := fun w : World => run_make_full (P := P) w w.heap.size st E i0 z 1 ht hi1 hz0 hz1 .i64 .i64 n (by
    rw [hz2]
    have : bytes * n ≤ 100 * n := Nat.mul_le_mul_right _ hbt
    omega) (by unfold maxLen; omega) (Nat.le_refl _)
  obtain ⟨mk, hmk⟩ := Classical.axiomOfChoice h
  refine ⟨mk, fun w => ?_⟩
  obtain ⟨hrun, r1, r2⟩ := hmk w
  refine ⟨hrun, ?_, r2, ?_⟩
  · have r1' := r1
    unfold Ow
    rw [hzs, Nat.mul_one, toList_madeCells_one] at r1'
    simpa using r1'
  · rcases r1.2 with ⟨h1, _⟩ | ⟨g, cap, cur, h4, _, h5, _⟩
    · simp at h1
    · simp only [Value.slice.injEq, Option.some.injEq, Addr.mk.injEq, and_true, true_and] at h4
      rw [h4.1]
      exact (Array.getElem?_eq_some_iff.1 h5).1

theorem inv_all : ∀ p, p < 8 → ∀ a, a < 8 → (!(p == 2 || p == 3 || p == 5 || p == 7) || a == 0 || !(Nat.blt a p) || (List.range p).any fun v => v != 0 && a * v % p == 1 && (List.range v).all fun b => !(a * b % p == 1)) = true := by decide +kernel
theorem inv_ex {p a : Nat} (hp : smallB (p : Int) = true) (ha1 : 1 ≤ a) (ha : a < p) : ∃ v, 1 ≤ v ∧ v < p ∧ a * v % p = 1 ∧ ∀ b, b < v → a * b % p ≠ 1 := by
  have h := small_cases hp
  have hp8 : p < 8 := by omega
  have h1 := inv_all p hp8 a (by omega)
  have e1 : (p == 2 || p == 3 || p == 5 || p == 7) = true := by simp only [Bool.or_eq_true, beq_iff_eq]; omega
  rw [e1, show (a == 0) = false from beq_eq_false_iff_ne.2 (by omega), show Nat.blt a p = true from Nat.ble_eq_true_of_le ha] at h1
  simp only [Bool.not_true, Bool.false_or] at h1
  obtain ⟨v, hv, hb⟩ := List.any_eq_true.1 h1
  simp only [Bool.and_eq_true, bne_iff_ne, beq_iff_eq] at hb
  refine ⟨v, by omega, List.mem_range.1 hv, hb.1.2, fun b hb2 => ?_⟩
  have := List.all_eq_true.1 hb.2 b (List.mem_range.2 hb2)
  simpa using this

theorem inverse_any (p a v : Nat) (w : World) (hp : p ≤ 7) (ha : a < p) (hv1 : 1 ≤ v) (hv : v < p) (h1 : a * v % p = 1) (h2 : ∀ b, b < v → a * b % p ≠ 1) :
    Calls Try.prog 41 #[.int .i64 p, .int .i64 a] w fun e w' => e = .returned (.int .i64 v) ∧ w = w' := by
  have H2 := hid h2
  have H1 := hid h1
  have hpz : (p : Int) ≠ 0 := by omega
  clear h1 h2
  go_enter Try.func41, Try.ntmps41
  go_wp2_with fail
  go_loopw [5] (fun x wq => ∃ b : Nat, x = .int .i64 b ∧ 1 ≤ b ∧ b ≤ v ∧ wq = w) (fun x _ => v - (intOf x).toNat)
  case atStart => exact ⟨1, rfl, Nat.le_refl _, hv1, rfl⟩
  case round =>
    obtain ⟨b, rfl, hb1, hbv, rfl⟩ := hrel
    have hm : (a : Int) * (b : Int) = ((a * b : Nat) : Int) := (Int.natCast_mul _ _).symm
    have hmb : a * b ≤ 49 := Nat.mul_le_mul (show a ≤ 7 by omega) (show b ≤ 7 by omega)
    have hr : ((a * b : Nat) : Int).tmod (p : Int) = ((a * b % p : Nat) : Int) := (Int.ofNat_tmod _ _).symm
    by_cases he : b = v
    · subst he
      rw [H1.out] at hr
      generalize a * b = m at *
      go_wp2
      go_ret
      exact ⟨rfl, rfl⟩
    · have hne := H2.out b (by omega)
      have hlt : a * b % p < p := Nat.mod_lt _ (by omega)
      generalize a * b % p = r at *
      generalize a * b = m at *
      have hy : ((r : Int) != 1) = true := by rw [bne_iff_ne]; omega
      have hbv2 : b < v := by omega
      go_wp2
      go_roundw
      case rel => exact ⟨b + 1, by go_num, by omega, by omega, trivial⟩
      case measure => simp [intOf] <;> omega
end Go.Proofs.Ytlnfkkapepgilaa
