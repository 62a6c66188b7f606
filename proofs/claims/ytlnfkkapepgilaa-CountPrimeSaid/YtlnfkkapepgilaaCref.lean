/-
  The walks over parterreref1's RingFault, powerOf, mobius, BeadsOf, BraceletsOf and IsPrime. Conditions: the numbers' ranges, as each theorem states.
-/
import Derived.Test.YtlnfkkapepgilaaCbrac
namespace Go.Proofs.Ytlnfkkapepgilaa
set_option linter.unusedVariables false
open Go.RowKit

theorem ringfault_any (n k : Int) (w : World) (i1 : I64 n) (_ : I64 k) :
    Calls Try.prog 15 #[.int .i64 n, .int .i64 k] w fun e w' => e = .returned (.int .i64 (ringE n k)) ∧ w = w' := by
  by_cases h : n < 1 ∨ k < 1
  · rw [ringE_lo h]
    by_cases h1 : n < 1
    · go_enter Try.func15, Try.ntmps15
      go_wp2
      all_goals (go_ret; exact ⟨rfl, rfl⟩)
    · have h2 : k < 1 := by omega
      go_enter Try.func15, Try.ntmps15
      go_wp2
      all_goals (go_ret; exact ⟨rfl, rfl⟩)
  · obtain ⟨n, rfl⟩ : ∃ m : Nat, n = (m : Int) := ⟨n.toNat, by omega⟩
    obtain ⟨k, rfl⟩ : ∃ m : Nat, k = (m : Int) := ⟨k.toNat, by omega⟩
    have hn1 : 1 ≤ n := by omega
    have hk1 : 1 ≤ k := by omega
    have hn2 : n ≤ 9223372036854775807 := by unfold I64 at i1; omega
    clear h i1
    by_cases h1 : k = 1
    · subst h1
      rw [ringE_ok hn1 hk1 (by rw [Nat.one_pow]; omega)]
      go_enter Try.func15, Try.ntmps15
      go_wp2
      go_loop [5, 6] (fun o i => o = .int .i64 1 ∧ i = .int .i64 0) (fun _ _ => 0)
      case atStart => exact ⟨rfl, rfl⟩
      case round =>
        obtain ⟨rfl, rfl⟩ := hrel
        go_wp2
        go_ret
        exact ⟨rfl, rfl⟩
    have hk2 : 2 ≤ k := by omega
    clear h1
    by_cases h : 1000000000000000000 < k ^ n
    · rw [ringE_hi hn1 hk1 h]
      have H := hid h
      clear h
      go_enter Try.func15, Try.ntmps15
      go_wp2
      go_loop [5, 6] (fun o i => ∃ j p : Nat, j ≤ n ∧ i = .int .i64 j ∧ o = .int .i64 p ∧ Hid (p = k ^ j) ∧ p ≤ 1000000000000000000) (fun _ i => n - (intOf i).toNat)
      case atStart => exact ⟨0, 1, Nat.zero_le _, rfl, rfl, hid rfl, by omega⟩
      case round =>
        obtain ⟨j, p, hj, rfl, rfl, hp, hpz⟩ := hrel
        by_cases hlt : j < n
        · by_cases h1 : (1000000000000000000 : Int) / (k : Int) < (p : Int)
          · go_wp2
            go_ret
            exact ⟨rfl, rfl⟩
          · have h4 : ((p * k : Nat) : Int) ≤ 1000000000000000000 := by rw [pow_divc (by omega)] at h1; omega
            have h5 : ((p * k : Nat) : Int) = (p : Int) * (k : Int) := by simp
            have h2 : (p : Int) * (k : Int) ≤ 1000000000000000000 := by omega
            have h3 : 0 ≤ (p : Int) * (k : Int) := Int.mul_nonneg (by omega) (by omega)
            have H4 : Hid (p * k ≤ 1000000000000000000) := hid (by omega)
            clear h4 h5
            go_wp2
            go_round
            case rel => exact ⟨j + 1, p * k, by omega, by go_num, by simp, hid (by rw [hp.out, pow_stepc]), H4.out⟩
            case measure => simp [intOf] <;> omega
        · exfalso
          obtain rfl : j = n := by omega
          have := H.out
          rw [← hp.out] at this
          omega
    · rw [ringE_ok hn1 hk1 (by omega)]
      obtain ⟨r, hr⟩ : ∃ r, r = k ^ n := ⟨_, rfl⟩
      rw [← hr] at h
      have HR := hid hr
      clear hr
      go_enter Try.func15, Try.ntmps15
      go_wp2
      go_loop [5, 6] (fun o i => ∃ j p : Nat, j ≤ n ∧ i = .int .i64 j ∧ o = .int .i64 p ∧ Hid (p = k ^ j)) (fun _ i => n - (intOf i).toNat)
      case atStart => exact ⟨0, 1, Nat.zero_le _, rfl, rfl, hid rfl⟩
      case round =>
        obtain ⟨j, p, hj, rfl, rfl, hp⟩ := hrel
        by_cases hlt : j < n
        · have hpk : p * k ≤ r := by rw [hp.out, ← pow_stepc, HR.out]; exact pow_upc (by omega) hlt
          have h1 : ¬ (1000000000000000000 : Int) / (k : Int) < (p : Int) := by rw [pow_divc (by omega)]; omega
          have h2 : (p : Int) * (k : Int) ≤ 1000000000000000000 := by
            have : ((p * k : Nat) : Int) = (p : Int) * (k : Int) := by simp
            omega
          have h3 : 0 ≤ (p : Int) * (k : Int) := Int.mul_nonneg (by omega) (by omega)
          clear hpk
          go_wp2
          go_round
          case rel => exact ⟨j + 1, p * k, by omega, by go_num, by simp, hid (by rw [hp.out, pow_stepc])⟩
          case measure => simp [intOf] <;> omega
        · go_wp2
          go_ret
          exact ⟨rfl, rfl⟩

theorem powerof_ok (k n : Nat) (w : World) (hk : 2 ≤ k) (h : k ^ n ≤ 1000000000000000000) :
    Calls Try.prog 38 #[.int .i64 k, .int .i64 n] w fun e w' => e = .returned (.int .i64 (k ^ n : Nat)) ∧ w = w' := by
  have hn := fits60 hk h
  obtain ⟨r, hr⟩ : ∃ r, r = k ^ n := ⟨_, rfl⟩
  rw [← hr] at h ⊢
  have HR := hid hr
  clear hr
  go_enter Try.func38, Try.ntmps38
  go_wp2
  go_loop [5, 6] (fun o i => ∃ j p : Nat, j ≤ n ∧ i = .int .i64 j ∧ o = .int .i64 p ∧ Hid (p = k ^ j)) (fun _ i => n - (intOf i).toNat)
  case atStart => exact ⟨0, 1, Nat.zero_le _, rfl, rfl, hid rfl⟩
  case round =>
    obtain ⟨j, p, hj, rfl, rfl, hp⟩ := hrel
    by_cases hlt : j < n
    · have hpk : p * k ≤ r := by rw [hp.out, ← pow_stepc, HR.out]; exact pow_upc (by omega) hlt
      have h2 : (p : Int) * (k : Int) ≤ 1000000000000000000 := by
        have : ((p * k : Nat) : Int) = (p : Int) * (k : Int) := by simp
        omega
      have h3 : 0 ≤ (p : Int) * (k : Int) := Int.mul_nonneg (by omega) (by omega)
      clear hpk
      go_wp2
      go_round
      case rel => exact ⟨j + 1, p * k, by omega, by go_num, by simp, hid (by rw [hp.out, pow_stepc])⟩
      case measure => simp [intOf] <;> omega
    · obtain rfl : j = n := by omega
      obtain rfl : p = r := by rw [hp.out, HR.out]
      go_wp2
      go_ret
      exact ⟨rfl, rfl⟩

theorem cmobR_step {f p n : Nat} {m r : Int} : mobR (62 - p) p n m = some r → p ≤ 62 ∧ (n < p → m = r) ∧ (p ≤ n → n % p ≠ 0 → mobR (62 - p - 1) (p + 1) n m = some r) ∧ (p ≤ n → n % p = 0 → n / p % p = 0 → (0 : Int) = r) ∧ (p ≤ n → n % p = 0 → n / p % p ≠ 0 → mobR (62 - p - 1) (p + 1) (n / p) (-m) = some r) := by
  intro h
  obtain ⟨g, hg⟩ : ∃ g, 62 - p = g := ⟨_, rfl⟩
  rw [hg] at h ⊢
  cases g with
  | zero => simp [mobR] at h
  | succ g =>
    simp only [mobR] at h
    refine ⟨by omega, ?_, ?_, ?_, ?_⟩
    · intro h1; rw [if_pos h1] at h; simpa using h
    · intro h1 h2; rw [if_neg (by omega), if_pos h2] at h; simpa using h
    · intro h1 h2 h3; rw [if_neg (by omega), if_neg (by omega), if_pos h3] at h; simpa using h
    · intro h1 h2 h3; rw [if_neg (by omega), if_neg (by omega), if_neg h3] at h; simpa using h

theorem cmobius_any (d : Nat) (w : World) (h1 : 1 ≤ d) (h2 : d ≤ 60) :
    Calls Try.prog 37 #[.int .i64 d] w fun e w' => e = .returned (.int .i64 (mu d)) ∧ w = w' := by
  have H := hid (mob_R h1 h2)
  generalize mu d = r at *
  go_enter Try.func37, Try.ntmps37
  go_wp2
  go_loop [0, 3, 4] (fun a o i => ∃ (n p : Nat) (m : Int), n ≤ 60 ∧ 2 ≤ p ∧ p ≤ 62 ∧ a = .int .i64 n ∧ i = .int .i64 p ∧ o = .int .i64 m ∧ -1 ≤ m ∧ m ≤ 1 ∧ Hid (mobR (62 - p) p n m = some r)) (fun _ _ i => 62 - (intOf i).toNat)
  case atStart => exact ⟨d, 2, 1, h2, by omega, by omega, rfl, rfl, rfl, by omega, by omega, H⟩
  case round =>
    obtain ⟨n, p, m, hn, hp, hp2, rfl, rfl, rfl, hm1, hm2, hq⟩ := hrel
    obtain ⟨s0, s1, s2, s3, s4⟩ := cmobR_step (f := 0) hq.out
    have S1 := hid s1
    have S2 := hid s2
    have S3 := hid s3
    have S4 := hid s4
    clear s1 s2 s3 s4 h1 h2
    by_cases hlt : p ≤ n
    · have hdv0 : 0 ≤ (n : Int) / (p : Int) := Int.ediv_nonneg (by omega) (by omega)
      have hdv1 : (n : Int) / (p : Int) ≤ (n : Int) := Int.ediv_le_self _ (by omega)
      by_cases hmod : n % p = 0
      · have hb1 : (((n : Int) % (p : Int)) == 0) = true := by simp; omega
        by_cases hmod2 : n / p % p = 0
        · have hb2 : (((n : Int) / (p : Int) % (p : Int)) == 0) = true := by simp; exact_mod_cast hmod2
          obtain rfl := S3.out hlt hmod hmod2
          clear hmod hmod2
          go_wp2
          go_ret
          exact ⟨rfl, rfl⟩
        · have hb2 : (((n : Int) / (p : Int) % (p : Int)) == 0) = false := by simp; exact_mod_cast hmod2
          have HN := hid (S4.out hlt hmod hmod2)
          have hle : n / p ≤ n := Nat.div_le_self _ _
          clear hmod hmod2
          go_wp2
          go_round
          case rel => exact ⟨n / p, p + 1, -m, by omega, by omega, by omega, by go_num, by go_num, rfl, by omega, by omega, by have := HN.out; rwa [show 62 - p - 1 = 62 - (p + 1) by omega] at this⟩
          case measure => simp [intOf] <;> omega
      · have hb1 : (((n : Int) % (p : Int)) == 0) = false := by simp; exact_mod_cast hmod
        have HN := hid (S2.out hlt hmod)
        clear hmod
        go_wp2
        go_round
        case rel => exact ⟨n, p + 1, m, by omega, by omega, by omega, rfl, by go_num, rfl, by omega, by omega, by have := HN.out; rwa [show 62 - p - 1 = 62 - (p + 1) by omega] at this⟩
        case measure => simp [intOf] <;> omega
    · obtain rfl := S1.out (by omega)
      go_wp2
      go_ret
      exact ⟨rfl, rfl⟩

theorem bsum_succ (k n d : Nat) (h : 1 ≤ d) : bsum k n d = bsum k n (d - 1) + if n % d = 0 then (sumB k d d).tdiv (d : Int) else 0 := by
  obtain ⟨e, rfl⟩ : ∃ e, d = e + 1 := ⟨d - 1, by omega⟩
  rfl
theorem sumB_succ (k n d : Nat) (h : 1 ≤ d) : sumB k n d = sumB k n (d - 1) + if n % d = 0 then mu (n / d) * ((k ^ d : Nat) : Int) else 0 := by
  obtain ⟨e, rfl⟩ : ∃ e, d = e + 1 := ⟨d - 1, by omega⟩
  rfl

set_option maxHeartbeats 1000000 in
theorem beadsof_more (n k : Nat) (w : World) (hn : 1 ≤ n) (hk : 2 ≤ k) (h : k ^ n ≤ 1000000000000000000) :
    Calls Try.prog 17 #[.int .i64 n, .int .i64 k] w fun e w' => e = .returned (.int .i64 (bsum k n n)) ∧ w = w' := by
  have hn60 := fits60 hk h
  have H := hid h
  clear h
  have hk1 : ((k : Int) == 1) = false := by simp; omega
  go_enter Try.func17, Try.ntmps17
  go_wp2
  go_loop [5, 6] (fun s i => ∃ (d : Nat) (z : Int), 1 ≤ d ∧ d ≤ n + 1 ∧ i = .int .i64 d ∧ s = .int .i64 z ∧ Hid (z = bsum k n (d - 1))) (fun _ i => n + 1 - (intOf i).toNat)
  case atStart => exact ⟨1, 0, by omega, by omega, rfl, rfl, hid rfl⟩
  case round =>
    obtain ⟨d, z, hd1, hd2, rfl, rfl, hz⟩ := hrel
    by_cases hlt : d ≤ n
    · have hbs := bsum_succ k n d hd1
      have hbz := bsum_bd (k := k) (n := n) (by omega) (by omega) H.out (d - 1) (by omega)
      rw [← hz.out] at hbs hbz
      obtain ⟨z1, z2⟩ := hbz
      by_cases hd : n % d = 0
      · have hb1 : (((n : Int) % (d : Int)) != 0) = false := by simp; omega
        rw [if_pos hd] at hbs
        have hab := any_bd (k := k) (n := n) (d := d) (by omega) (by omega) H.out hd1 hlt hd
        obtain ⟨a1, a2⟩ := hab
        have HBS := hid hbs
        have HPD : Hid (k ^ d ≤ 1000000000000000000) := hid (Nat.le_trans (pow_upc (by omega) hlt) H.out)
        clear hbs hd hz
        go_wp2
        go_loop [7, 8, 9, 10] (fun s i _ _ => ∃ (c : Nat) (y : Int), 1 ≤ c ∧ c ≤ d + 1 ∧ i = .int .i64 c ∧ s = .int .i64 y ∧ Hid (y = sumB k d (c - 1))) (fun _ i _ _ => d + 1 - (intOf i).toNat)
        case atStart => exact ⟨1, 0, by omega, by omega, rfl, rfl, hid rfl⟩
        case round =>
          obtain ⟨c, y, hc1, hc2, rfl, rfl, hy⟩ := hrel
          by_cases hlc : c ≤ d
          · have hss := sumB_succ k d c hc1
            have hbd := sumB_bd (k := k) (n := d) (by omega) (by omega) HPD.out (c - 1) (by omega)
            have hbd2 := sumB_bd (k := k) (n := d) (by omega) (by omega) HPD.out c hlc
            rw [← hy.out] at hss hbd
            by_cases hcd : d % c = 0
            · have hb2 : (((d : Int) % (c : Int)) == 0) = true := by simp; omega
              rw [if_pos hcd] at hss
              have hq1 : 1 ≤ d / c := by rw [Nat.le_div_iff_mul_le (by omega)]; omega
              have hq2 : d / c ≤ d := Nat.div_le_self _ _
              have hpw : k ^ c ≤ 1000000000000000000 := Nat.le_trans (pow_upc (by omega) hlc) HPD.out
              have hqc : (d : Int) / (c : Int) = ((d / c : Nat) : Int) := by simp
              have hmu := mu_bd (d := d / c) hq1 (by omega)
              have hmm := mul_mu hmu.1 hmu.2 hpw
              have hi1 : 0 ≤ (d : Int) / (c : Int) := by omega
              have hi2 : (d : Int) / (c : Int) ≤ 60 := by omega
              rw [hss] at hbd2
              have hx0 := hbd.1
              have hx00 := hbd.2.1
              have hx1 := hbd2.1
              have hx2 := hbd2.2.1
              obtain ⟨hm1, hm2⟩ := hmm
              have HS := hid hss
              have HC := hid hqc
              have HP := hid (fun w => powerof_ok k c w hk hpw)
              have HMO := hid (fun w => cmobius_any (d / c) w hq1 (by omega))
              clear hss hqc hpw hbd hbd2 hcd hy
              generalize mu (d / c) = m at *
              generalize k ^ c = p at *
              go_wp2_with fail
              rw [HC.out]
              refine (HMO.out _).mono ?_
              rintro e w' ⟨rfl, rfl⟩
              go_wp2_with fail
              refine (HP.out _).mono ?_
              rintro e w' ⟨rfl, rfl⟩
              go_wp2
              go_round
              case rel => exact ⟨c + 1, y + m * (p : Int), by omega, by omega, by go_num, by go_num, hid (by rw [Nat.add_sub_cancel]; exact HS.out.symm)⟩
              case measure => simp [intOf] <;> omega
            · have hb2 : (((d : Int) % (c : Int)) == 0) = false := by simp; omega
              rw [if_neg hcd] at hss
              have HS := hid hss
              clear hss hcd hbd hbd2 hy
              go_wp2
              go_round
              case rel => exact ⟨c + 1, y, by omega, by omega, by go_num, rfl, hid (by rw [Nat.add_sub_cancel]; have := HS.out; omega)⟩
              case measure => simp [intOf] <;> omega
          · obtain rfl : c = d + 1 := by omega
            obtain rfl : y = sumB k d d := by have := hy.out; rwa [Nat.add_sub_cancel] at this
            have HS := HBS.out
            have hbs2 := sumB_bd (k := k) (n := d) (by omega) (by omega) HPD.out d (by omega)
            have b1 := hbs2.1
            have b2 := hbs2.2.1
            obtain ⟨q, hq⟩ : ∃ q, q = (sumB k d d).tdiv (d : Int) := ⟨_, rfl⟩
            rw [← hq] at HS a1 a2
            generalize sumB k d d = s at *
            have HQ := hid hq.symm
            have HS2 := hid HS
            clear HS hbs2 hq HBS hy
            go_wp2
            go_round
            case rel => exact ⟨d + 1, z + q, by omega, by omega, by go_num, by rw [HQ.out, IntWalk.wrap64_in _ (by omega)], hid (by rw [Nat.add_sub_cancel]; exact HS2.out.symm)⟩
            case measure => simp [intOf] <;> omega
      · have hb1 : (((n : Int) % (d : Int)) != 0) = true := by simp; omega
        rw [if_neg hd] at hbs
        have HBS := hid hbs
        clear hbs hd hz
        go_wp2
        go_round
        case rel => exact ⟨d + 1, z, by omega, by omega, by go_num, rfl, hid (by rw [Nat.add_sub_cancel]; have := HBS.out; omega)⟩
        case measure => simp [intOf] <;> omega
    · obtain rfl : d = n + 1 := by omega
      obtain rfl : z = bsum k n n := by have := hz.out; rwa [Nat.add_sub_cancel] at this
      go_wp2
      go_ret
      exact ⟨rfl, rfl⟩
theorem beadsof_ok (n k : Nat) (w : World) (hn : 1 ≤ n) (hk : 1 ≤ k) (h : k ^ n ≤ 1000000000000000000) :
    Calls Try.prog 17 #[.int .i64 n, .int .i64 k] w fun e w' => e = .returned (.int .i64 (beadsN n k)) ∧ w = w' := by
  by_cases h1 : k = 1
  · subst h1
    rw [show beadsN n 1 = 1 from if_pos rfl]
    go_enter Try.func17, Try.ntmps17
    go_wp2
    go_ret
    exact ⟨rfl, rfl⟩
  · rw [show beadsN n k = bsum k n n from if_neg h1]
    exact beadsof_more n k w hn (by omega) h

theorem prime_any (n : Int) (w : World) (_ : I64 n) :
    Calls Try.prog 13 #[.int .i64 n] w fun e w' => e = .returned (.bool (primeB n.toNat)) ∧ w = w' := by
  by_cases h : n < 2 ∨ 100000 < n
  · rw [prime_lo (by omega)]
    by_cases h1 : n < 2
    · go_enter Try.func13, Try.ntmps13
      go_wp2
      all_goals (go_ret; exact ⟨rfl, rfl⟩)
    · have h2 : 100000 < n := by omega
      go_enter Try.func13, Try.ntmps13
      go_wp2
      all_goals (go_ret; exact ⟨rfl, rfl⟩)
  · obtain ⟨n, rfl⟩ : ∃ m : Nat, n = (m : Int) := ⟨n.toNat, by omega⟩
    rw [Int.toNat_natCast]
    have h1 : 2 ≤ n := by omega
    have h2 : n ≤ 100000 := by omega
    obtain ⟨b, hb⟩ : ∃ b, b = primeB n := ⟨_, rfl⟩
    rw [← hb]
    have HB := hid hb
    clear h hb
    go_enter Try.func13, Try.ntmps13
    go_wp2
    go_loop [3] (fun i => ∃ d : Nat, 2 ≤ d ∧ d ≤ 100000 ∧ i = .int .i64 d ∧ Hid (∀ e, 2 ≤ e → e < d → n % e ≠ 0)) (fun i => 100001 - (intOf i).toNat)
    case atStart => exact ⟨2, by omega, by omega, rfl, hid (fun e h1 h2 => by omega)⟩
    case round =>
      obtain ⟨d, hd1, hd2, rfl, hd⟩ := hrel
      have hdd : ((d * d : Nat) : Int) = (d : Int) * (d : Int) := by simp
      have hdd2 : d * d ≤ 100000 * 100000 := Nat.mul_le_mul hd2 hd2
      have hdd3 : 2 * d ≤ d * d := Nat.mul_le_mul_right _ hd1
      by_cases hlt : d * d ≤ n
      · have g1 : (d : Int) * (d : Int) ≤ (n : Int) := by omega
        have g2 : 0 ≤ (d : Int) * (d : Int) := by omega
        have g3 : 0 ≤ (n : Int) % (d : Int) := Int.emod_nonneg _ (by omega)
        by_cases hm : n % d = 0
        · have hb1 : (((n : Int) % (d : Int)) == 0) = true := by simp; omega
          obtain rfl : b = false := by rw [HB.out]; exact prime_no hd1 hlt hm
          clear hdd hm HB
          go_wp2
          go_ret
          exact ⟨rfl, rfl⟩
        · have hb1 : (((n : Int) % (d : Int)) == 0) = false := by simp; omega
          have HD : Hid (∀ e, 2 ≤ e → e < d + 1 → n % e ≠ 0) := hid (fun e h1 h2 => by
            by_cases h3 : e = d
            · subst h3; exact hm
            · exact hd.out e h1 (by omega))
          have hd3 : d + 1 ≤ 100000 := by omega
          clear hdd hm hd hdd2 hdd3 hlt
          go_wp2
          go_round
          case rel => exact ⟨d + 1, by omega, by omega, by go_num, HD⟩
          case measure => simp [intOf] <;> omega
      · have g1 : ¬ (d : Int) * (d : Int) ≤ (n : Int) := by omega
        have g2 : 0 ≤ (d : Int) * (d : Int) := by omega
        have g3 : (d : Int) * (d : Int) ≤ 10000000000 := by omega
        obtain rfl : b = true := by rw [HB.out]; exact prime_yes h1 h2 (by omega) hd.out
        clear hdd hd HB hdd2 hdd3 hlt
        go_wp2
        go_ret
        exact ⟨rfl, rfl⟩
end Go.Proofs.Ytlnfkkapepgilaa
