/- Contracts of the small functions on numbers: signs, infinities, ranks' numbers, halving. -/
import Derived.Test.YtpfdfbmoegajbaaRa
namespace Go.Proofs.Ytpfdfbmoegajbaa
open Go.RowKit
set_option maxRecDepth 100000

theorem andNot_top (n : Int) (h₀ : 0 ≤ n) (h₁ : n < 18446744073709551616) : bits .andNot .u64 n 9223372036854775808 = n % 9223372036854775808 := by
  obtain ⟨a, rfl⟩ := Int.eq_ofNat_of_zero_le h₀
  have := u64_andNot_nat a 9223372036854775808 (by omega) (by omega)
  rw [show (18446744073709551615 - 9223372036854775808 : Nat) = 2 ^ 63 - 1 by decide, Nat.and_two_pow_sub_one_eq_mod] at this
  exact this
theorem or_top (n : Int) (h₀ : 0 ≤ n) (h₁ : n < 9223372036854775808) : bits .or .u64 9223372036854775808 n = 9223372036854775808 + n := by
  obtain ⟨a, rfl⟩ := Int.eq_ofNat_of_zero_le h₀
  have h := bits_or_u64_nat 9223372036854775808 a (by omega) (by omega)
  have e : (9223372036854775808 ||| a : Nat) = 9223372036854775808 + a := by
    have := Nat.two_pow_add_eq_or_of_lt (i := 63) (b := a) (by omega) 1
    simpa using this.symm
  rw [e] at h
  exact h
theorem or_low (s m : Int) (hs : s = 0 ∨ s = 9223372036854775808) (h₀ : 0 ≤ m) (h₁ : m < 9223372036854775808) : bits .or .u64 s m = s + m := by
  rcases hs with rfl | rfl
  · obtain ⟨a, rfl⟩ := Int.eq_ofNat_of_zero_le h₀
    have h := bits_or_u64_nat 0 a (by omega) (by omega)
    rw [Nat.zero_or] at h
    rw [show ((0 : Nat) : Int) = 0 from rfl] at h
    rw [h]; omega
  · exact or_top m h₀ h₁
theorem or_low' (s m : Int) (hs : s = 0 ∨ s = 9223372036854775808) (h₀ : 0 ≤ m) (h₁ : m < 9223372036854775808) : bits .or .u64 m s = m + s := by
  obtain ⟨a, rfl⟩ := Int.eq_ofNat_of_zero_le h₀
  obtain ⟨c, rfl⟩ := Int.eq_ofNat_of_zero_le (show 0 ≤ s by omega)
  have h1 := bits_or_u64_nat a c (by omega) (by omega)
  have h2 := bits_or_u64_nat c a (by omega) (by omega)
  have h3 := or_low c a hs h₀ h₁
  rw [h1, Nat.or_comm, ← h2, h3]; omega

/-- The opposite. -/
def negB (b : Nat) : Nat := Ieee.double.word (!FP.sgn b) (FP.rung b)
theorem run_neg_f64 {b : Nat} (hb : b < 18446744073709551616) (w : World) : (Op.unary .neg (.float .f64 b)).run Try.prog w = .ok (.float .f64 (negB b)) w := by
  have : Op.negFloat .f64 b = negB b := by
    unfold Op.negFloat negB
    rw [show FloatKind.f64.format.exponentBits + FloatKind.f64.format.fractionBits = 63 from rfl, FP.word_eq]
    exact FP.xor_top hb
  show Sem.run Try.prog (pure (Value.float .f64 (Op.negFloat .f64 b))) w = _
  rw [this]; rfl
theorem negB_lt {b : Nat} (_hb : b < 18446744073709551616) : negB b < 18446744073709551616 := by
  have := FP.rung_lt b
  unfold negB; rw [FP.word_eq]; split <;> omega
theorem rung_negB (b : Nat) : FP.rung (negB b) = FP.rung b := FP.rung_word (FP.rung_lt b)
theorem sgn_negB (b : Nat) : FP.sgn (negB b) = !FP.sgn b := FP.sgn_word (FP.rung_lt b)

theorem nan_any (w : World) : Calls Try.prog 33 #[] w fun e w' => e = .returned (.float .f64 9221120237041090561) ∧ w = w' := by
  have hfrom := run_frombits
  go_enter Try.func33, Try.ntmps33
  go_wp2
  go_ret
  exact ⟨rfl, rfl⟩
end Go.Proofs.Ytpfdfbmoegajbaa
