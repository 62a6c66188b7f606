/-
  The walk over the law RecurAdds, and over the closed fact that stands ahead of it. Conditions: the slices can be read.
-/
import Derived.Test.YtlnfkkapepgilaaRlaw1
namespace Go.Proofs.Ytlnfkkapepgilaa
set_option linter.unusedVariables false
open Go.RowKit

/-- What recur.Run says is wrong. -/
def runC (p : Int) (taps seed : List Int) (n : Int) : Int := if runE p taps seed ≠ 0 then runE p taps seed else if n < 0 ∨ 5000 < n then 1 else 0
theorem runC_ok {p : Int} {taps seed : List Int} {n : Int} (h : runC p taps seed n = 0) : runE p taps seed = 0 ∧ 0 ≤ n ∧ n ≤ 5000 := by
  unfold runC at h
  by_cases h1 : runE p taps seed = 0
  · rw [if_neg (by simpa using h1)] at h
    by_cases h2 : n < 0 ∨ 5000 < n
    · rw [if_pos h2] at h; omega
    · omega
  · rw [if_pos h1] at h; omega
theorem Run_any (p : Int) (v u : Value) (taps seed : List Int) (n : Int) (w : World) (hv : Sl w v taps) (hu : Sl w u seed) (hb : ∀ x ∈ taps, I64 x) (hb2 : ∀ x ∈ seed, I64 x) :
    Calls Try.prog 27 #[.int .i64 p, v, u, .int .i64 n] w fun e w' => (∃ r, e = .returned (.tuple #[r, .int .i64 (runC p taps seed n)]) ∧ (runC p taps seed n = 0 → OI w.heap.size w' r (rowL p taps seed n.toNat)) ∧ (runC p taps seed n ≠ 0 → r = .slice none 0 0)) ∧ Below w.heap.size w w' := by
  by_cases h : runE p taps seed = 0
  · by_cases hn : n < 0 ∨ 5000 < n
    · have e : runC p taps seed n = 1 := by unfold runC; rw [if_neg (by simpa using h), if_pos hn]
      rw [e]
      refine (Run_range p v u taps seed n w hv hu hb hb2 h hn).mono ?_
      rintro e w' ⟨rfl, hb'⟩
      exact ⟨⟨_, rfl, fun h => by omega, fun _ => rfl⟩, hb'⟩
    · have e : runC p taps seed n = 0 := by unfold runC; rw [if_neg (by simpa using h), if_neg hn]
      rw [e]
      obtain ⟨m, rfl⟩ : ∃ m : Nat, n = (m : Int) := ⟨n.toNat, by omega⟩
      rw [Int.toNat_natCast]
      rcases Nat.eq_zero_or_pos m with h0 | h0
      · subst h0
        refine (Run_zero p v u taps seed w hv hu hb hb2 h).mono ?_
        rintro e w' ⟨rfl, hb'⟩
        exact ⟨⟨_, rfl, fun _ => OI.nil _ _, fun h => by omega⟩, hb'⟩
      · refine (Run_ok p v u taps seed m w hv hu hb hb2 h h0 (by omega)).mono ?_
        rintro e w' ⟨⟨r, rfl, hr⟩, hb'⟩
        exact ⟨⟨_, rfl, fun _ => hr, fun h => by omega⟩, hb'⟩
  · have e : runC p taps seed n = runE p taps seed := by unfold runC; rw [if_pos h]
    rw [e]
    refine (Run_fault p v u taps seed n w hv hu hb hb2 h).mono ?_
    rintro e w' ⟨rfl, hb'⟩
    exact ⟨⟨_, rfl, fun h2 => absurd h2 h, fun _ => rfl⟩, hb'⟩

theorem runs_row : rowL 2 [1, 1] [0, 1] (6 : Int).toNat = [0, 1, 1, 0, 1, 1] := by decide +kernel
theorem runs_code : runC 2 [1, 1] [0, 1] 6 = 0 := by decide +kernel
theorem i64_small {l : List Int} (h : l.all (fun x => decide (0 ≤ x ∧ x ≤ 100)) = true) : ∀ x ∈ l, I64 x := by
  intro x hx
  have := List.all_eq_true.1 h x hx
  simp at this
  unfold I64
  omega
theorem runs_any (w : World) :
    Calls Try.prog 29 #[] w fun e w' => e = .returned (.bool true) ∧ Below w.heap.size w w' := by
  have HR := hid (fun (v u : Value) (w1 : World) (h1 : Sl w1 v [1, 1]) (h2 : Sl w1 u [0, 1]) => Run_any 2 v u [1, 1] [0, 1] 6 w1 h1 h2 (i64_small (by decide)) (i64_small (by decide)))
  rw [runs_code, runs_row] at HR
  have S1 := hid ((Sl.lit w #[.int .i64 1, .int .i64 1] [1, 1] rfl).below ((Below.refl _ _).alloc (Nat.le_refl _) (.cells #[.int .i64 0, .int .i64 1] 3)))
  have S2 : Hid (Sl ((w.alloc (.cells #[.int .i64 1, .int .i64 1] 3)).alloc (.cells #[.int .i64 0, .int .i64 1] 3)) (.slice (some ⟨w.heap.size + 1, 0, none⟩) 2 2) [0, 1]) := hid (by
    have := Sl.lit (w.alloc (.cells #[.int .i64 1, .int .i64 1] 3)) #[.int .i64 0, .int .i64 1] [0, 1] rfl
    rw [World.size_alloc] at this
    exact this)
  go_enter Try.func29, Try.ntmps29
  go_wp2_with fail
  refine (HR.out _ _ _ S1.out S2.out).mono ?_
  rintro e w1 ⟨⟨r, rfl, hr, _⟩, hb1⟩
  have hr := hr (by simp)
  have hz := hb1.size
  have hbb : Below w.heap.size w w1 := (((Below.refl _ w).alloc (Nat.le_refl _) _).alloc (by simp) _).trans (hb1.mono (by simp; omega))
  have HBB := hid hbb
  have HR2 := hid hr
  clear hr hb1 hbb
  go_wp2_with fail
  refine (ints_any _ _ [0, 1, 1, 0, 1, 1] [0, 1, 1, 0, 1, 1] _ ((HR2.out.alloc _).sl (by decide)) (Sl.lit _ _ _ rfl)).mono ?_
  rintro e w2 ⟨rfl, ⟨k, rfl⟩⟩
  have hd : decide ([(0 : Int), 1, 1, 0, 1, 1] = [0, 1, 1, 0, 1, 1]) = true := by decide
  rw [hd]
  go_wp2
  go_ret
  exact ⟨rfl, below_drewN (HBB.out.alloc HBB.out.size _) _⟩

theorem recurAdds_one (w : World) (p : Int) (v u z : Value) (taps a b : List Int) (n : Int) (hv : Sl w v taps) (hu : Sl w u a) (hz : Sl w z b) (h1 : ∀ x ∈ taps, I64 x) (h2 : ∀ x ∈ a, I64 x) (h3 : ∀ x ∈ b, I64 x)
    (h : runC p taps a n ≠ 0 ∨ runC p taps b n ≠ 0) :
    Calls Try.prog 8 #[.int .i64 p, v, u, z, .int .i64 n] w fun e w' => e = .returned (.bool true) ∧ Below w.heap.size w w' := by
  have HA := hid (fun w1 (h : Below w.heap.size w w1) => Run_any p v u taps a n w1 (hv.below h) (hu.below h) h1 h2)
  have HB := hid (fun w1 (h : Below w.heap.size w w1) => Run_any p v z taps b n w1 (hv.below h) (hz.below h) h1 h3)
  have HF := hid (runs_any w)
  clear hv hu hz h1 h2 h3
  generalize runC p taps a n = e1 at *
  generalize runC p taps b n = e2 at *
  by_cases h0 : e1 = 0
  · have hne : e2 ≠ 0 := by rcases h with h | h; exact absurd h0 h; exact h
    have q1 : (e2 != 0) = true := by simpa using hne
    have q0 : (e1 != 0) = false := by simpa using h0
    clear h h0 hne
    go_enter Try.func8, Try.ntmps8
    go_wp2_with fail
    refine HF.out.mono ?_
    rintro e w1 ⟨rfl, hb1⟩
    have B1 := hid hb1
    clear hb1
    go_wp2_with fail
    refine (HA.out _ B1.out).mono ?_
    rintro e w2 ⟨⟨r, rfl, _, _⟩, hb2⟩
    have B2 := hid (B1.out.trans (hb2.mono B1.out.size))
    clear hb2
    go_wp2_with fail
    refine (HB.out _ B2.out).mono ?_
    rintro e w3 ⟨⟨r2, rfl, _, _⟩, hb3⟩
    have B3 := hid (B2.out.trans (hb3.mono B2.out.size))
    clear hb3
    go_wp2
    go_ret
    exact ⟨rfl, B3.out⟩
  · have q0 : (e1 != 0) = true := by simpa using h0
    clear h h0
    go_enter Try.func8, Try.ntmps8
    go_wp2_with fail
    refine HF.out.mono ?_
    rintro e w1 ⟨rfl, hb1⟩
    have B1 := hid hb1
    clear hb1
    go_wp2_with fail
    refine (HA.out _ B1.out).mono ?_
    rintro e w2 ⟨⟨r, rfl, _, _⟩, hb2⟩
    have B2 := hid (B1.out.trans (hb2.mono B1.out.size))
    clear hb2
    go_wp2_with fail
    refine (HB.out _ B2.out).mono ?_
    rintro e w3 ⟨⟨r2, rfl, _, _⟩, hb3⟩
    have B3 := hid (B2.out.trans (hb3.mono B2.out.size))
    clear hb3
    go_wp2
    go_ret
    exact ⟨rfl, B3.out⟩

theorem addL_mem {p : Int} (hp : 0 < p) {a b : List Int} : ∀ x ∈ addL p a b, 0 ≤ x ∧ x < p := by
  intro x hx
  unfold addL at hx
  rw [List.mem_iff_getElem] at hx
  obtain ⟨i, hi, rfl⟩ := hx
  rw [List.getElem_zipWith]
  exact ⟨Int.emod_nonneg _ (by omega), Int.emod_lt_of_pos _ hp⟩
theorem fit_mk {p : Int} {l : List Int} (h : ∀ x ∈ l, 0 ≤ x ∧ x < p) : fitB p l = true := by
  unfold fitB
  simp only [Bool.not_eq_true', List.any_eq_false]
  intro x hx
  have := h x hx
  simp [offB]
  omega
theorem runE_swap {p : Int} {taps a c : List Int} (h : runE p taps a = 0) (hc : c.length = a.length) (hf : fitB p c = true) : runE p taps c = 0 := by
  have ht := runE_taps h
  have R := runE_ok h
  unfold runE
  rw [ht, if_neg (by simp), if_neg (by rw [hc, R.len]; simp), if_neg (by rw [hf]; simp)]
theorem addL_take {p : Int} {a b : List Int} {i : Nat} (h1 : i < a.length) (h2 : i < b.length) : addL p (a.take (i + 1)) (b.take (i + 1)) = addL p (a.take i) (b.take i) ++ [(a[i]?.getD 0 + b[i]?.getD 0) % p] := by
  rw [List.take_add_one, List.take_add_one, List.getElem?_eq_getElem h1, List.getElem?_eq_getElem h2]
  exact addL_snoc (by simp; omega)

set_option maxHeartbeats 2000000 in
theorem recurAdds_two (w : World) (p : Int) (v u z : Value) (taps a b : List Int) (n : Nat) (hv : Sl w v taps) (hu : Sl w u a) (hz : Sl w z b) (h1 : ∀ x ∈ taps, I64 x) (h2 : ∀ x ∈ a, I64 x) (h3 : ∀ x ∈ b, I64 x)
    (ha : runC p taps a n = 0) (hb : runC p taps b n = 0) :
    Calls Try.prog 8 #[.int .i64 p, v, u, z, .int .i64 n] w fun e w' => e = .returned (.bool true) ∧ Below w.heap.size w w' := by
  obtain ⟨ra, _, hn5⟩ := runC_ok ha
  obtain ⟨rb, _, _⟩ := runC_ok hb
  have RA := runE_ok ra
  have RB := runE_ok rb
  have hp2 := RA.p2
  have hp7 := RA.p7
  have hlab : a.length = b.length := by rw [RA.len, RB.len]
  have hcf : fitB p (addL p a b) = true := fit_mk (addL_mem (by omega))
  have rc : runC p taps (addL p a b) n = 0 := by
    unfold runC
    rw [runE_swap ra (addL_len hlab) hcf, if_neg (by simp), if_neg (by omega)]
  have HA := hid (fun w1 (h : Below w.heap.size w w1) => Run_any p v u taps a n w1 (hv.below h) (hu.below h) h1 h2)
  have HB := hid (fun w1 (h : Below w.heap.size w w1) => Run_any p v z taps b n w1 (hv.below h) (hz.below h) h1 h3)
  have HC := hid (fun c w1 (h : Below w.heap.size w w1) (hc : Sl w1 c (addL p a b)) => Run_any p v c taps (addL p a b) n w1 (hv.below h) hc h1 (fun x hx => by have := addL_mem (p := p) (by omega) x hx; unfold I64; omega))
  rw [ha] at HA
  rw [hb] at HB
  rw [rc] at HC
  rw [Int.toNat_natCast] at HA HB HC
  have HF := hid (runs_any w)
  have HADD := hid (row_add (p := p) (taps := taps) (a := a) (b := b) (by omega) RA.len RB.len n)
  have hka : a.length ≤ 8 := by rw [RA.len]; exact RA.k8
  have hka1 : 1 ≤ a.length := by rw [RA.len]; exact RA.k1
  have HGA := hid (fun i => getD_nn (p := p) (by omega) RA.fs i)
  have HGB := hid (fun i => getD_nn (p := p) (by omega) RB.fs i)
  have HLX := hid (rowL_len p taps a n)
  have HLY := hid (rowL_len p taps b n)
  have HLZ := hid (rowL_len p taps (addL p a b) n)
  have HMX := hid (fun i => getD_nn (p := p) (by omega) (row_mem (taps := taps) (by omega) RA.fs n) i)
  have HMY := hid (fun i => getD_nn (p := p) (by omega) (row_mem (taps := taps) (by omega) RB.fs n) i)
  generalize rowL p taps a n = xs at *
  generalize rowL p taps b n = ys at *
  generalize rowL p taps (addL p a b) n = zs at *
  have HU := hid hu
  have HZ := hid hz
  obtain ⟨au, cu, N, rfl, hN, hu1, hu2⟩ := hu.open
  obtain ⟨az, cz, M, rfl, hM, hz1, hz2⟩ := hz.open
  obtain rfl : N = M := by rw [← hN.out, ← hM.out]; exact hlab
  rw [hN.out] at hka hka1
  obtain ⟨bu, ou, rfl, hbu, hcu⟩ := hu2 (by omega)
  obtain ⟨bz, oz, rfl, hbz, hcz⟩ := hz2 (by omega)
  have HCU := hid hcu
  have HCZ := hid hcz
  clear hu2 hz2 hcu hcz ha hb ra rb RA RB hcf rc hlab hv hu hz h1 h2 h3
  go_enter Try.func8, Try.ntmps8
  go_wp2_with fail
  refine HF.out.mono ?_
  rintro e w1 ⟨rfl, hb1⟩
  have B1 := hid hb1
  clear hb1
  go_wp2_with fail
  refine (HA.out _ B1.out).mono ?_
  rintro e w2 ⟨⟨r, rfl, hr, _⟩, hb2⟩
  have B2 := hid (B1.out.trans (hb2.mono B1.out.size))
  have hr := hr (by simp)
  have hz2 := B1.out.size
  go_wp2_with fail
  refine (HB.out _ B2.out).mono ?_
  rintro e w3 ⟨⟨r2, rfl, hr2, _⟩, hb3⟩
  have B3 := hid (B2.out.trans (hb3.mono B2.out.size))
  have X3 := hid (hr.below hb3)
  have Y3 := hid (hr2 (by simp))
  have hz3 := B3.out.size
  have hz23 := hb3.size
  clear hb2 hb3 hr hr2
  go_wp2
  go_loopw [16, 17] (fun c i wr => ∃ k : Nat, k ≤ N ∧ i = .int .i64 k ∧ OI w3.heap.size wr c (addL p (a.take k) (b.take k)) ∧ Below w3.heap.size w3 wr) (fun _ i _ => N - (intOf i).toNat)
  case atStart => exact ⟨0, Nat.zero_le _, rfl, OI.nil _ _, Below.refl _ _⟩
  case round =>
    obtain ⟨k, hk, rfl, hown, hbl⟩ := hrel
    by_cases hlt : k < N
    · have hB := hbl.size
      have c1 : wr.cell? ⟨bu, ou + k, none⟩ = some (.int .i64 (a[k]?.getD 0)) := ((B3.out.trans (hbl.mono hz3)).cell (p := ⟨bu, ou + k, none⟩) hbu).trans (HCU.out k hlt)
      have c2 : wr.cell? ⟨bz, oz + k, none⟩ = some (.int .i64 (b[k]?.getD 0)) := ((B3.out.trans (hbl.mono hz3)).cell (p := ⟨bz, oz + k, none⟩) hbz).trans (HCZ.out k hlt)
      have g1 := HGA.out k
      have g2 := HGB.out k
      rw [getD_q] at g1 g2
      have HX := hid (addL_take (p := p) (a := a) (b := b) (i := k) (by rw [hN.out]; exact hlt) (by rw [hM.out]; exact hlt))
      have hl : (addL p (a.take k) (b.take k)).length ≤ 1000000000000 := by simp [addL]; omega
      generalize a[k]?.getD 0 = x at *
      generalize b[k]?.getD 0 = y at *
      obtain ⟨g11, g12⟩ := g1
      obtain ⟨g21, g22⟩ := g2
      have hp0 : ¬ p = 0 := by omega
      have htm : (x + y).tmod p = (x + y) % p := Int.tmod_eq_emod_of_nonneg (by omega)
      have hw : IntKind.i64.wrap (x + y) = x + y := IntWalk.i64_in _ (by omega)
      go_wp2
      go_region_law (refine step_appi wr _ _ 30 rfl rfl Try.underlying30 Try.info3 w3.heap.size _ _ rfl hown rfl hl hB ?_; intro g2 c2 w4 hown1 hg1 hg2 hg3)
      all_goals
        go_wp2
        go_roundw
        case rel => exact ⟨k + 1, by omega, by go_num, hown1.cast (by rw [HX.out]), hown.grown hbl hg1 hB⟩
        case measure => simp [intOf] <;> omega
    · obtain rfl : N = k := by omega
      have hcl : (addL p a b).length ≤ 17592186044416 := by
        have e1 := hN.out
        have e2 := hM.out
        simp [addL]
        omega
      have HCS : Hid (OI w3.heap.size wr u16 (addL p a b)) := hid (hown.cast (by rw [List.take_of_length_le (by rw [hN.out]; exact Nat.le_refl _), List.take_of_length_le (by rw [hM.out]; exact Nat.le_refl _)]))
      have B4 := hid (B3.out.trans (hbl.mono hz3))
      have X4 := hid (X3.out.below hbl)
      have Y4 := hid (Y3.out.below hbl)
      have hz4 := hbl.size
      clear hown hbl
      go_wp2_with fail
      refine (HC.out _ _ B4.out (HCS.out.sl hcl)).mono ?_
      rintro e w5 ⟨⟨r3, rfl, hr3, _⟩, hb5⟩
      have hr3 := hr3 (by simp)
      have B5 := hid (B4.out.trans (hb5.mono B4.out.size))
      have hX := (X4.out.below hb5).sl (by rw [HLX.out]; omega)
      have hY := (Y4.out.below hb5).sl (by rw [HLY.out]; omega)
      have hZ := hr3.sl (by rw [HLZ.out]; omega)
      clear hr3 hb5
      obtain ⟨ax, cx, Nx, rfl, hNx, hx1, hx2⟩ := hX.open
      obtain ⟨ay, cy, Ny, rfl, hNy, hy1, hy2⟩ := hY.open
      obtain ⟨a3, c3, N3, rfl, hN3, hw1, hw2⟩ := hZ.open
      obtain rfl : n = Nx := by rw [← hNx.out, HLX.out]
      obtain rfl : n = Ny := by rw [← hNy.out, HLY.out]
      obtain rfl : n = N3 := by rw [← hN3.out, HLZ.out]
      clear hX hY hZ
      have hnn : ((n : Int) != (n : Int)) = false := by simp
      go_wp2
      go_loopw [19] (fun i wz => ∃ k : Nat, k ≤ n ∧ i = .int .i64 k ∧ ∃ m, wz = w5.drewN m) (fun i _ => n - (intOf i).toNat)
      case atStart => exact ⟨0, Nat.zero_le _, rfl, 0, rfl⟩
      case round =>
        obtain ⟨k, hk, rfl, m, rfl⟩ := hrel
        by_cases hlt : k < n
        · obtain ⟨bx, ox, rfl, _, hcx⟩ := hx2 (by omega)
          obtain ⟨by', oy, rfl, _, hcy⟩ := hy2 (by omega)
          obtain ⟨b3, o3, rfl, _, hc3⟩ := hw2 (by omega)
          have c1 := hcx k hlt
          have c2 := hcy k hlt
          have c4 := hc3 k hlt
          have g1 := HMX.out k
          have g2 := HMY.out k
          have hzk : zs[k]?.getD 0 = (xs[k]?.getD 0 + ys[k]?.getD 0) % p := by
            rw [← getD_q, ← getD_q, ← getD_q, HADD.out, addL_get (by rw [HLX.out]; exact hlt) (by rw [HLY.out]; exact hlt)]
          rw [hzk] at c4
          rw [getD_q] at g1 g2
          clear hcx hcy hc3 hx2 hy2 hw2 hzk
          generalize xs[k]?.getD 0 = x at *
          generalize ys[k]?.getD 0 = y at *
          obtain ⟨g11, g12⟩ := g1
          obtain ⟨g21, g22⟩ := g2
          have hp0 : ¬ p = 0 := by omega
          have htm : (x + y).tmod p = (x + y) % p := Int.tmod_eq_emod_of_nonneg (by omega)
          have hw : IntKind.i64.wrap (x + y) = x + y := IntWalk.i64_in _ (by omega)
          have hee : ((x + y) % p != (x + y) % p) = false := by simp
          go_wp2
          go_quiet (fail)
          go_wp2
          go_roundw
          case rel => exact ⟨k + 1, by omega, by go_num, by first | exact ⟨_, rfl⟩ | (simp only [World.drewN_drewN]; exact ⟨_, rfl⟩)⟩
          case measure => simp [intOf] <;> omega
        · go_wp2
          go_ret
          exact ⟨rfl, below_drewN B5.out _⟩
theorem recurAdds_walk (w : World) (p : Int) (_ : I64 p) (v : Value) (taps : List Int) (hv : Sl w v taps) (h1 : ∀ x ∈ taps, I64 x) (u : Value) (a : List Int) (hu : Sl w u a) (h2 : ∀ x ∈ a, I64 x) (z : Value) (b : List Int) (hz : Sl w z b) (h3 : ∀ x ∈ b, I64 x) (n : Int) (_ : I64 n) :
    Calls Try.prog 8 #[.int .i64 p, v, u, z, .int .i64 n] w fun e w' => e = .returned (.bool true) ∧ Below w.heap.size w w' := by
  by_cases ha : runC p taps a n = 0
  · by_cases hb : runC p taps b n = 0
    · obtain ⟨_, h4, _⟩ := runC_ok ha
      obtain ⟨m, rfl⟩ : ∃ m : Nat, n = (m : Int) := ⟨n.toNat, by omega⟩
      exact recurAdds_two w p v u z taps a b m hv hu hz h1 h2 h3 ha hb
    · exact recurAdds_one w p v u z taps a b n hv hu hz h1 h2 h3 (.inr hb)
  · exact recurAdds_one w p v u z taps a b n hv hu hz h1 h2 h3 (.inl ha)
end Go.Proofs.Ytlnfkkapepgilaa
