/- The contract of math.Ldexp at a whole number of few digits. -/
import Derived.Test.YtdjilhahafkpfaaRb
import Derived.Test.YtdjilhahafkpfaaFpi
import Derived.BigQuiet
namespace Go.Proofs.Ytdjilhahafkpfaa
open Go.RowKit
set_option maxRecDepth 100000
theorem andNot_exp (n : Int) (h₀ : 0 ≤ n) (h₁ : n < 9223372036854775808) : bits .andNot .u64 n 9218868437227405312 = n % 4503599627370496 := by
  obtain ⟨a, rfl⟩ := Int.eq_ofNat_of_zero_le h₀
  have := u64_andNot_nat a 9218868437227405312 (by omega) (by omega)
  have e : (18446744073709551615 - 9218868437227405312 : Nat) = 9223372036854775808 ||| (2 ^ 52 - 1) := by decide
  rw [e, Nat.and_or_distrib_left, nat_and_top a (by omega), Nat.div_eq_of_lt (by omega), Nat.zero_mul, Nat.zero_or, Nat.and_two_pow_sub_one_eq_mod] at this
  exact this
theorem or_exp (f g : Int) (h₀ : 0 ≤ f) (h₁ : f < 4503599627370496) (h₂ : 0 ≤ g) (h₃ : g < 2048) : bits .or .u64 f (g * 4503599627370496) = f + g * 4503599627370496 := by
  obtain ⟨a, rfl⟩ := Int.eq_ofNat_of_zero_le h₀
  obtain ⟨b, rfl⟩ := Int.eq_ofNat_of_zero_le h₂
  have h := bits_or_u64_nat a (b * 4503599627370496) (by omega) (by omega)
  have e : (a ||| b * 4503599627370496 : Nat) = a + b * 4503599627370496 := by
    have := Nat.two_pow_add_eq_or_of_lt (i := 52) (b := a) (by omega) b
    rw [show (2 : Nat) ^ 52 = 4503599627370496 by decide] at this
    rw [Nat.or_comm, Nat.mul_comm b, ← this]; omega
  rw [e] at h
  have e2 : ((b * 4503599627370496 : Nat) : Int) = (b : Int) * 4503599627370496 := by omega
  rw [e2] at h
  rw [h]; omega
theorem and11i (n : Int) (h₀ : 0 ≤ n) (h₁ : n < 4611686018427387904) : bits .and .i64 n 2047 = n % 2048 :=
  bits_mask .i64 62 (by decide) (fun n h0 h1 => IntWalk.i64_in _ (by omega)) 11 (by decide) n h₀ (by omega)
theorem run_fmul {x y r : Nat} (h : floatBits .mul .f64 x y = some r) (t : TypeId) (w : World) : (binOp .mul t (.float .f64 x) (.float .f64 y)).run Try.prog w = .ok (.float .f64 r) w := run_float_arith w .mul t .f64 x y r h
theorem normalize_any (y : Nat) (h1 : 4503599627370496 ≤ y) (h2 : y < 9218868437227405312) (w : World) : Calls Try.prog 49 #[.float .f64 y] w fun e w' => e = .returned (.tuple #[.float .f64 y, .int .i64 0]) ∧ w = w' := by
  have hr : FP.rung y = y := FP.rung_pos (by omega)
  have hlt : (FloatKind.f64.format.order y 4503599627370496 == some Ordering.lt) = false := by
    show (Ieee.double.order y 4503599627370496 == some Ordering.lt) = false
    rw [FP.lt_eq]
    have k1 : FP.key y = y := by unfold FP.key; rw [FP.sgn_false (by omega), hr]; simp
    have k2 : FP.key 4503599627370496 = 4503599627370496 := by decide +kernel
    rw [k1, k2, Bool.and_eq_false_iff]; right; simp; omega
  have HA := Lib.hid fun w => abs_any y (by omega) w
  rw [hr] at HA
  clear hr h1 h2
  go_enter Try.func49, Try.ntmps49
  go_wp2_with (go_at_call 26; refine (HA.out _).mono ?_; rintro e w' ⟨rfl, rfl⟩)
  go_ret2
  exact ⟨rfl, rfl⟩
set_option maxHeartbeats 1000000 in
theorem ldexp_mid (y : Nat) (k c fr : Nat) (hk : k ≤ 53) (hc : 4503599627370496 ≤ c ∧ c < 9007199254740992) (hy : y = (1022 + k) * 4503599627370496 + c) (hn : 52 ≤ fr + k) (hf : fr + k < 2098) (w : World) :
    Calls Try.prog 47 #[.float .f64 y, .int .i64 ((fr : Int) - 1074)] w fun e w' => e = .returned (.float .f64 ((fr + k - 52) * 4503599627370496 + c)) ∧ w = w' := by
  have hy1 : 4503599627370496 ≤ y ∧ y < 9218868437227405312 := by omega
  have hnan : FP.isNaN y = false := by unfold FP.isNaN; rw [FP.rung_pos (by omega)]; simp; omega
  have hne := nan_ne hnan
  have ho0 : (FloatKind.f64.format.order y 0 == some Ordering.eq) = false := by
    show (Ieee.double.order y 0 == some Ordering.eq) = false
    rw [FP.ord_zero, hnan]
    have k1 : FP.key y = y := by unfold FP.key; rw [FP.sgn_false (by omega), FP.rung_pos (by omega)]; simp
    rw [k1]; simp; omega
  have HI := Lib.hid fun w => isInf_any y 0 (by omega) w
  have hib : infB y 0 = false := by unfold infB; rw [if_pos rfl]; unfold FP.isInf; rw [FP.rung_pos (by omega)]; simp; omega
  rw [hib] at HI
  have HN := Lib.hid fun w => normalize_any y hy1.1 hy1.2 w
  obtain ⟨n, hn0⟩ : ∃ n : Int, n = y := ⟨_, rfl⟩
  have hbits := run_bits_at hn0
  have hfb := run_frombits
  obtain ⟨d, hd⟩ : ∃ d : Int, n / 4503599627370496 = d := ⟨_, rfl⟩
  have hd1 : d ≤ 1023 + k := by omega
  have hd2 : 1023 + (k : Int) ≤ d := by omega
  have hand := and11i d (by omega) (by omega)
  rw [Int.emod_eq_of_lt (by omega) (by omega)] at hand
  have hno := andNot_exp n (by omega) (by omega)
  obtain ⟨f, hf0⟩ : ∃ f : Int, n % 4503599627370496 = f := ⟨_, rfl⟩
  rw [hf0] at hno
  have hf1 : 0 ≤ f ∧ f < 4503599627370496 := by omega
  have HFc : Hid (f = (c : Int) - 4503599627370496) := by unfold Hid; omega
  have hmul0 := FP.mul_one' (y := (fr + k - 52) * 4503599627370496 + c) (by omega)
  have hor : bits .or .u64 f (((fr : Int) - 1074 + (d - 1023) + 1023) * 4503599627370496) = (((fr + k - 52) * 4503599627370496 + c : Nat) : Int) := by
    rw [or_exp f _ (by omega) (by omega) (by omega) (by omega)]; omega
  obtain ⟨R, hR⟩ : ∃ R, R = (fr + k - 52) * 4503599627370496 + c := ⟨_, rfl⟩
  rw [← hR] at hmul0 hor ⊢
  have hmul := fun t w => run_fmul hmul0 t w
  clear hmul0 hR hf0 hn0 hib hnan hy hy1
  go_enter Try.func47, Try.ntmps47
  go_wp2_with (first | (go_at_call 12; refine (HI.out _).mono ?_; rintro e w' ⟨rfl, rfl⟩) | (go_at_call 49; refine (HN.out _).mono ?_; rintro e w' ⟨rfl, rfl⟩) | go_in)
  go_ret
  exact ⟨rfl, rfl⟩
set_option maxHeartbeats 1000000 in
theorem ldexp_low (y : Nat) (k c m : Nat) (hk : k ≤ 53) (hc : 4503599627370496 ≤ c ∧ c < 9007199254740992) (hy : y = (1022 + k) * 4503599627370496 + c) (hn : k < 52) (hm : m * 4503599627370496 = c * 2 ^ k) (w : World) :
    Calls Try.prog 47 #[.float .f64 y, .int .i64 (-1074)] w fun e w' => e = .returned (.float .f64 m) ∧ w = w' := by
  have hy1 : 4503599627370496 ≤ y ∧ y < 9218868437227405312 := by omega
  have hnan : FP.isNaN y = false := by unfold FP.isNaN; rw [FP.rung_pos (by omega)]; simp; omega
  have hne := nan_ne hnan
  have ho0 : (FloatKind.f64.format.order y 0 == some Ordering.eq) = false := by
    show (Ieee.double.order y 0 == some Ordering.eq) = false
    rw [FP.ord_zero, hnan]
    have k1 : FP.key y = y := by unfold FP.key; rw [FP.sgn_false (by omega), FP.rung_pos (by omega)]; simp
    rw [k1]; simp; omega
  have HI := Lib.hid fun w => isInf_any y 0 (by omega) w
  have hib : infB y 0 = false := by unfold infB; rw [if_pos rfl]; unfold FP.isInf; rw [FP.rung_pos (by omega)]; simp; omega
  rw [hib] at HI
  have HN := Lib.hid fun w => normalize_any y hy1.1 hy1.2 w
  obtain ⟨n, hn0⟩ : ∃ n : Int, n = y := ⟨_, rfl⟩
  have hbits := run_bits_at hn0
  have hfb := run_frombits
  obtain ⟨d, hd⟩ : ∃ d : Int, n / 4503599627370496 = d := ⟨_, rfl⟩
  have hd1 : d ≤ 1023 + k := by omega
  have hd2 : 1023 + (k : Int) ≤ d := by omega
  have hand := and11i d (by omega) (by omega)
  rw [Int.emod_eq_of_lt (by omega) (by omega)] at hand
  have hno := andNot_exp n (by omega) (by omega)
  obtain ⟨f, hf0⟩ : ∃ f : Int, n % 4503599627370496 = f := ⟨_, rfl⟩
  rw [hf0] at hno
  have hf1 : 0 ≤ f ∧ f < 4503599627370496 := by omega
  have HFc : Hid (f = (c : Int) - 4503599627370496) := by unfold Hid; omega
  have hv : FP.val ((k + 1) * 4503599627370496 + c) = m * 9007199254740992 := by
    rw [FP.val_at (k + 1) c (by omega) (Or.inr hc.1), Nat.pow_succ, ← Nat.mul_assoc, ← hm]; omega
  have hml : m ≤ 9007199254740992 := by
    have h1 : 2 ^ k ≤ 2 ^ 52 := FP.two_le (by omega)
    rw [FP.pow52] at h1
    have h2 : c * 2 ^ k ≤ 9007199254740992 * 4503599627370496 := Nat.mul_le_mul (by omega) h1
    omega
  have hmul0 := FP.mul_small (y := (k + 1) * 4503599627370496 + c) (by omega) hv hml
  have hor : bits .or .u64 f ((-1074 + (d - 1023) + 53 + 1023) * 4503599627370496) = (((k + 1) * 4503599627370496 + c : Nat) : Int) := by
    rw [or_exp f _ (by omega) (by omega) (by omega) (by omega)]; omega
  obtain ⟨R, hR⟩ : ∃ R, R = (k + 1) * 4503599627370496 + c := ⟨_, rfl⟩
  rw [← hR] at hmul0 hor
  have hmul := fun t w => run_fmul hmul0 t w
  clear hmul0 hR hv hml hm hf0 hn0 hib hnan hy hy1
  go_enter Try.func47, Try.ntmps47
  go_wp2_with (first | (go_at_call 12; refine (HI.out _).mono ?_; rintro e w' ⟨rfl, rfl⟩) | (go_at_call 49; refine (HN.out _).mono ?_; rintro e w' ⟨rfl, rfl⟩) | go_in)
  go_ret
  exact ⟨rfl, rfl⟩
set_option maxHeartbeats 1000000 in
theorem ldexp_over (y : Nat) (k c fr : Nat) (hk : k ≤ 53) (hc : 4503599627370496 ≤ c ∧ c < 9007199254740992) (hy : y = (1022 + k) * 4503599627370496 + c) (hn : 2098 ≤ fr + k) (hf : fr ≤ 3000) (w : World) :
    Calls Try.prog 47 #[.float .f64 y, .int .i64 ((fr : Int) - 1074)] w fun e w' => e = .returned (.float .f64 9218868437227405312) ∧ w = w' := by
  have hy1 : 4503599627370496 ≤ y ∧ y < 9218868437227405312 := by omega
  have hnan : FP.isNaN y = false := by unfold FP.isNaN; rw [FP.rung_pos (by omega)]; simp; omega
  have hne := nan_ne hnan
  have ho0 : (FloatKind.f64.format.order y 0 == some Ordering.eq) = false := by
    show (Ieee.double.order y 0 == some Ordering.eq) = false
    rw [FP.ord_zero, hnan]
    have k1 : FP.key y = y := by unfold FP.key; rw [FP.sgn_false (by omega), FP.rung_pos (by omega)]; simp
    rw [k1]; simp; omega
  have HI := Lib.hid fun w => isInf_any y 0 (by omega) w
  have hib : infB y 0 = false := by unfold infB; rw [if_pos rfl]; unfold FP.isInf; rw [FP.rung_pos (by omega)]; simp; omega
  rw [hib] at HI
  have HN := Lib.hid fun w => normalize_any y hy1.1 hy1.2 w
  obtain ⟨n, hn0⟩ : ∃ n : Int, n = y := ⟨_, rfl⟩
  have hbits := run_bits_at hn0
  have hfb := run_frombits
  obtain ⟨d, hd⟩ : ∃ d : Int, n / 4503599627370496 = d := ⟨_, rfl⟩
  have hd1 : d ≤ 1023 + k := by omega
  have hd2 : 1023 + (k : Int) ≤ d := by omega
  have hand := and11i d (by omega) (by omega)
  rw [Int.emod_eq_of_lt (by omega) (by omega)] at hand
  have hno := andNot_exp n (by omega) (by omega)
  obtain ⟨f, hf0⟩ : ∃ f : Int, n % 4503599627370496 = f := ⟨_, rfl⟩
  rw [hf0] at hno
  have hf1 : 0 ≤ f ∧ f < 4503599627370496 := by omega
  have HFc : Hid (f = (c : Int) - 4503599627370496) := by unfold Hid; omega
  have hlt0 : (FloatKind.f64.format.order y 0 == some Ordering.lt) = false := by
    show (Ieee.double.order y 0 == some Ordering.lt) = false
    rw [FP.lt_eq]
    have k1 : FP.key y = y := by unfold FP.key; rw [FP.sgn_false (by omega), FP.rung_pos (by omega)]; simp
    have k2 : FP.key 0 = 0 := by decide +kernel
    rw [k1, k2, Bool.and_eq_false_iff]; right; simp
  clear hf0 hn0 hib hnan hy hy1
  go_enter Try.func47, Try.ntmps47
  go_wp2_with (first | (go_at_call 12; refine (HI.out _).mono ?_; rintro e w' ⟨rfl, rfl⟩) | (go_at_call 49; refine (HN.out _).mono ?_; rintro e w' ⟨rfl, rfl⟩) | (go_at_call 31; refine (inf_up _ (by omega) _).mono ?_; rintro e w' ⟨rfl, rfl⟩) | go_in)
  go_ret
  exact ⟨rfl, rfl⟩
/-- THE WORD of a whole number, times a power of two. -/
theorem ldexp_any (m k c fr : Nat) (hk : k ≤ 53) (hc : 4503599627370496 ≤ c ∧ c < 9007199254740992) (hm : m * 4503599627370496 = c * 2 ^ k) (hmx : m ≤ 9007199254740992) (hn : fr = 0 ∨ 52 ≤ k) (hf : fr ≤ 3000) (w : World) :
    Calls Try.prog 47 #[.float .f64 (FP.near m 0), .int .i64 ((fr : Int) - 1074)] w fun e w' => e = .returned (.float .f64 (min (fr * 4503599627370496 + m) 9218868437227405312)) ∧ w = w' := by
  have hy := FP.near_word hk hc hm
  have hm52 : 52 ≤ k → m = (k - 52) * 4503599627370496 + c := fun h => by
    obtain rfl | rfl : k = 52 ∨ k = 53 := by omega
    · rw [FP.pow52] at hm; omega
    · rw [FP.pow53] at hm; omega
  by_cases h52 : 52 ≤ fr + k
  · have h52k : 52 ≤ k := by omega
    have hme := hm52 h52k
    by_cases hover : fr + k < 2098
    · have := ldexp_mid (FP.near m 0) k c fr hk hc hy h52 hover w
      have e : min (fr * 4503599627370496 + m) 9218868437227405312 = (fr + k - 52) * 4503599627370496 + c := by omega
      rw [e]; exact this
    · have := ldexp_over (FP.near m 0) k c fr hk hc hy (by omega) hf w
      have e : min (fr * 4503599627370496 + m) 9218868437227405312 = 9218868437227405312 := by omega
      rw [e]; exact this
  · obtain rfl : fr = 0 := by omega
    have := ldexp_low (FP.near m 0) k c m hk hc hy (by omega) hm w
    have hml : m ≤ 9007199254740992 := by
      have h1 : 2 ^ k ≤ 2 ^ 52 := FP.two_le (by omega)
      rw [FP.pow52] at h1
      have h2 : c * 2 ^ k ≤ 9007199254740992 * 4503599627370496 := Nat.mul_le_mul (by omega) h1
      omega
    have e : min (0 * 4503599627370496 + m) 9218868437227405312 = m := by omega
    rw [e]; exact this
theorem Ldexp_any (m k c fr : Nat) (hk : k ≤ 53) (hc : 4503599627370496 ≤ c ∧ c < 9007199254740992) (hm : m * 4503599627370496 = c * 2 ^ k) (hmx : m ≤ 9007199254740992) (hn : fr = 0 ∨ 52 ≤ k) (hf : fr ≤ 3000) (w : World) :
    Calls Try.prog 45 #[.float .f64 (FP.near m 0), .int .i64 ((fr : Int) - 1074)] w fun e w' => e = .returned (.float .f64 (min (fr * 4503599627370496 + m) 9218868437227405312)) ∧ w = w' := by
  have H := Lib.hid (ldexp_any m k c fr hk hc hm hmx hn hf w)
  generalize FP.near m 0 = y at H ⊢
  generalize min (fr * 4503599627370496 + m) 9218868437227405312 = z at H ⊢
  generalize (fr : Int) - 1074 = E at H ⊢
  clear hk hc hm hmx hn hf
  go_enter Try.func45, Try.ntmps45
  go_wp2_with (go_at_call 47; refine H.out.mono ?_; rintro e w' ⟨rfl, rfl⟩)
  go_ret
  exact ⟨rfl, rfl⟩
end Go.Proofs.Ytdjilhahafkpfaa
