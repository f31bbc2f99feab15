/- Contracts of the small functions on numbers: signs, infinities, ranks' numbers, halving. -/
import Derived.Test.YtdjilhahafkpfaaRa
namespace Go.Proofs.Ytdjilhahafkpfaa
open Go.RowKit
set_option maxRecDepth 100000

theorem andNot_top (n : Int) (h₀ : 0 ≤ n) (h₁ : n < 18446744073709551616) : bits .andNot .u64 n 9223372036854775808 = n % 9223372036854775808 := by
  obtain ⟨a, rfl⟩ := Int.eq_ofNat_of_zero_le h₀
  have := u64_andNot_nat a 9223372036854775808 (by omega) (by omega)
  rw [show (18446744073709551615 - 9223372036854775808 : Nat) = 2 ^ 63 - 1 by decide, Nat.and_two_pow_sub_one_eq_mod] at this
  exact this
theorem or_top (n : Int) (h₀ : 0 ≤ n) (h₁ : n < 9223372036854775808) : bits .or .u64 9223372036854775808 n = 9223372036854775808 + n := by
  obtain ⟨a, rfl⟩ := Int.eq_ofNat_of_zero_le h₀
  have h := bits_or_u64_nat 9223372036854775808 a (by omega) (by omega)
  have e : (9223372036854775808 ||| a : Nat) = 9223372036854775808 + a := by
    have := Nat.two_pow_add_eq_or_of_lt (i := 63) (b := a) (by omega) 1
    simpa using this.symm
  rw [e] at h
  exact h
theorem or_low (s m : Int) (hs : s = 0 ∨ s = 9223372036854775808) (h₀ : 0 ≤ m) (h₁ : m < 9223372036854775808) : bits .or .u64 s m = s + m := by
  rcases hs with rfl | rfl
  · obtain ⟨a, rfl⟩ := Int.eq_ofNat_of_zero_le h₀
    have h := bits_or_u64_nat 0 a (by omega) (by omega)
    rw [Nat.zero_or] at h
    rw [show ((0 : Nat) : Int) = 0 from rfl] at h
    rw [h]; omega
  · exact or_top m h₀ h₁
theorem or_low' (s m : Int) (hs : s = 0 ∨ s = 9223372036854775808) (h₀ : 0 ≤ m) (h₁ : m < 9223372036854775808) : bits .or .u64 m s = m + s := by
  obtain ⟨a, rfl⟩ := Int.eq_ofNat_of_zero_le h₀
  obtain ⟨c, rfl⟩ := Int.eq_ofNat_of_zero_le (show 0 ≤ s by omega)
  have h1 := bits_or_u64_nat a c (by omega) (by omega)
  have h2 := bits_or_u64_nat c a (by omega) (by omega)
  have h3 := or_low c a hs h₀ h₁
  rw [h1, Nat.or_comm, ← h2, h3]; omega

/-- The opposite. -/
def negB (b : Nat) : Nat := Ieee.double.word (!FP.sgn b) (FP.rung b)
theorem run_neg_f64 {b : Nat} (hb : b < 18446744073709551616) (w : World) : (Op.unary .neg (.float .f64 b)).run Try.prog w = .ok (.float .f64 (negB b)) w := by
  have : Op.negFloat .f64 b = negB b := by
    unfold Op.negFloat negB
    rw [show FloatKind.f64.format.exponentBits + FloatKind.f64.format.fractionBits = 63 from rfl, FP.word_eq]
    exact FP.xor_top hb
  show Sem.run Try.prog (pure (Value.float .f64 (Op.negFloat .f64 b))) w = _
  rw [this]; rfl
theorem negB_lt {b : Nat} (_hb : b < 18446744073709551616) : negB b < 18446744073709551616 := by
  have := FP.rung_lt b
  unfold negB; rw [FP.word_eq]; split <;> omega
theorem rung_negB (b : Nat) : FP.rung (negB b) = FP.rung b := FP.rung_word (FP.rung_lt b)
theorem sgn_negB (b : Nat) : FP.sgn (negB b) = !FP.sgn b := FP.sgn_word (FP.rung_lt b)

theorem nan_any (w : World) : Calls Try.prog 25 #[] w fun e w' => e = .returned (.float .f64 9221120237041090561) ∧ w = w' := by
  have hfrom := run_frombits
  go_enter Try.func25, Try.ntmps25
  go_wp2
  go_ret
  exact ⟨rfl, rfl⟩
theorem inf_up (s : Int) (h : 0 ≤ s) (w : World) : Calls Try.prog 31 #[.int .i64 s] w fun e w' => e = .returned (.float .f64 9218868437227405312) ∧ w = w' := by
  have hfrom := run_frombits
  go_enter Try.func31, Try.ntmps31
  go_wp2
  go_ret
  exact ⟨rfl, rfl⟩
theorem inf_down (s : Int) (h : s < 0) (w : World) : Calls Try.prog 31 #[.int .i64 s] w fun e w' => e = .returned (.float .f64 18442240474082181120) ∧ w = w' := by
  have hfrom := run_frombits
  go_enter Try.func31, Try.ntmps31
  go_wp2
  go_ret
  exact ⟨rfl, rfl⟩
theorem abs_any (a : Nat) (ha : a < 18446744073709551616) (w : World) : Calls Try.prog 26 #[.float .f64 a] w fun e w' => e = .returned (.float .f64 (FP.rung a)) ∧ w = w' := by
  have hfrom := run_frombits
  obtain ⟨n, hn⟩ : ∃ n : Int, n = a := ⟨_, rfl⟩
  have hbits := run_bits_at hn
  have Hn := Lib.hid hn; clear hn
  have Ha := Lib.hid ha; clear ha
  go_enter Try.func26, Try.ntmps26
  go_wp2
  go_ret
  refine ⟨ret_f64 ?_, rfl⟩
  have h1 := Hn.out; have h2 := Ha.out
  rw [andNot_top n (by omega) (by omega)]
  unfold FP.rung
  omega
theorem copysign_any (a b : Nat) (ha : a < 18446744073709551616) (hb : b < 18446744073709551616) (w : World) : Calls Try.prog 50 #[.float .f64 a, .float .f64 b] w fun e w' => e = .returned (.float .f64 (Ieee.double.word (FP.sgn b) (FP.rung a))) ∧ w = w' := by
  have hfrom := run_frombits
  obtain ⟨n, hn⟩ : ∃ n : Int, n = a := ⟨_, rfl⟩
  obtain ⟨m, hm⟩ : ∃ n : Int, n = b := ⟨_, rfl⟩
  have hbits := run_bits_at hn
  have hbits2 := run_bits_at hm
  have Hn := Lib.hid hn; clear hn
  have Hm := Lib.hid hm; clear hm
  have Ha := Lib.hid ha; clear ha
  have Hb := Lib.hid hb; clear hb
  go_enter Try.func50, Try.ntmps50
  go_wp2
  go_ret
  refine ⟨ret_f64 ?_, rfl⟩
  have h1 := Hn.out; have h2 := Ha.out; have h3 := Hm.out; have h4 := Hb.out
  rw [andNot_top n (by omega) (by omega), and_top m (by omega) (by omega), or_low' _ _ (by omega) (by omega) (by omega), FP.word_eq]
  by_cases hs : 9223372036854775808 ≤ b
  · rw [FP.sgn_true hs h4]; unfold FP.rung; simp; omega
  · rw [FP.sgn_false (by omega)]; unfold FP.rung; simp; omega
def infB (a : Nat) (s : Int) : Bool := if s = 0 then FP.isInf a else if s < 0 then FP.sgn a && FP.isInf a else !FP.sgn a && FP.isInf a
theorem isInf_any (a : Nat) (s : Int) (ha : a < 18446744073709551616) (w : World) : Calls Try.prog 12 #[.float .f64 a, .int .i64 s] w fun e w' => e = .returned (.bool (infB a s)) ∧ w = w' := by
  have hneg := fun w => run_neg_f64 ha w
  have Ha := Lib.hid ha; clear ha
  go_enter Try.func12, Try.ntmps12
  go_wp2_with (go_at_call 26; refine (abs_any _ Ha.out _).mono ?_; rintro e w' ⟨rfl, rfl⟩)
  all_goals go_ret
  all_goals refine ⟨ret_bool ((FP.gt_max _).trans ?_), rfl⟩
  · have h : (s == 0) = true := by assumption
    have h' : s = 0 := by simpa using h
    have h2 := FP.rung_lt (FP.rung a)
    unfold infB; rw [if_pos h', FP.sgn_false (FP.rung_lt a)]
    unfold FP.isInf FP.rung; simp
  · have h : (s == 0) = false := by assumption
    have h' : ¬ s = 0 := by simpa using h
    have h2 : s < 0 := by assumption
    unfold infB; rw [if_neg h', if_pos h2, sgn_negB]
    unfold FP.isInf; rw [rung_negB]; simp
  · have h : (s == 0) = false := by assumption
    have h' : ¬ s = 0 := by simpa using h
    have h2 : 0 ≤ s := by assumption
    unfold infB; rw [if_neg h', if_neg (by omega)]
end Go.Proofs.Ytdjilhahafkpfaa
