/- Plain facts: how a sum of limbs is rounded. -/
import Derived.Test.YtdjilhahafkpfaaFpi
namespace FP
open Ieee

theorem kc_of {m : Nat} (h1 : 1 ≤ m) (h2 : m ≤ 9007199254740992) : ∃ k c, k ≤ 53 ∧ (4503599627370496 ≤ c ∧ c < 9007199254740992) ∧ m * 4503599627370496 = c * 2 ^ k ∧ (4503599627370496 ≤ m → 52 ≤ k) := by
  by_cases e : m = 9007199254740992
  · subst e; exact ⟨53, 4503599627370496, by omega, by omega, by rw [pow53], fun _ => by omega⟩
  · have hl1 := Nat.log2_self_le (show m ≠ 0 by omega)
    have hl2 := @lt_two_log m
    have hl : m.log2 ≤ 52 := by have := (Nat.log2_lt (show m ≠ 0 by omega) (k := 53)).2 (by rw [pow53]; omega); omega
    generalize m.log2 = L at hl1 hl2 hl
    have e1 : 2 ^ (52 - L) * 2 ^ L = 4503599627370496 := by rw [← Nat.pow_add, show 52 - L + L = 52 by omega, pow52]
    have e2 : 2 ^ (52 - L) * 2 ^ (L + 1) = 9007199254740992 := by rw [← Nat.pow_add, show 52 - L + (L + 1) = 53 by omega, pow53]
    refine ⟨L, m * 2 ^ (52 - L), by omega, ⟨?_, ?_⟩, ?_, fun h => ?_⟩
    · rw [← e1, Nat.mul_comm m]; exact Nat.mul_le_mul_left _ hl1
    · rw [← e2, Nat.mul_comm m]; exact Nat.mul_lt_mul_of_pos_left hl2 (Nat.two_pow_pos _)
    · rw [Nat.mul_assoc, e1]
    · by_cases h' : 52 ≤ L
      · exact h'
      · exfalso
        have : 2 ^ (L + 1) ≤ 2 ^ 52 := two_le (by omega)
        rw [pow52] at this; omega
/-- What stands below the last digit kept. -/
theorem rnd_succ (V d : Nat) : rnd V (d + 1) = V / 2 ^ (d + 1) + (if V / 2 ^ d % 2 = 1 ∧ (V / 2 ^ (d + 1) % 2 = 1 ∨ V % 2 ^ d ≠ 0) then 1 else 0) := by
  unfold rnd
  have h := @Nat.mod_pow_succ V 2 d
  have hl := Nat.mod_lt V (Nat.two_pow_pos d)
  have hb := Nat.mod_lt (V / 2 ^ d) (show 0 < 2 by omega)
  have hp : 2 ^ (d + 1) = 2 * 2 ^ d := by rw [Nat.pow_succ, Nat.mul_comm]
  have hpos := Nat.two_pow_pos d
  generalize V / 2 ^ (d + 1) = q at *
  generalize V % 2 ^ (d + 1) = t at *
  generalize V / 2 ^ d % 2 = b at *
  generalize V % 2 ^ d = r at *
  rw [hp, h]
  generalize 2 ^ d = P at *
  congr 1
  obtain rfl | rfl : b = 0 ∨ b = 1 := by omega
  · rw [if_neg (by omega), if_neg (by omega)]
  · rw [Nat.mul_one]
    by_cases hr : r = 0
    · subst hr
      by_cases hq : q % 2 = 1
      · rw [if_pos (by omega), if_pos (by omega)]
      · rw [if_neg (by omega), if_neg (by omega)]
    · rw [if_pos (by omega), if_pos (by omega)]
theorem top_log {V t : Nat} {l : Nat} (hl : V / 4294967296 ^ t = l) (h0 : l ≠ 0) : V.log2 = 32 * t + l.log2 := by
  have e : (4294967296 : Nat) ^ t = 2 ^ (32 * t) := by rw [Nat.pow_mul]
  rw [e] at hl
  have hp := Nat.two_pow_pos (32 * t)
  have hV : V ≠ 0 := fun h => h0 (by rw [← hl, h, Nat.zero_div])
  have h1 := Nat.log2_self_le h0
  have h2 := @lt_two_log l
  rw [Nat.log2_eq_iff hV]
  constructor
  · rw [Nat.pow_add, Nat.mul_comm]
    have : 2 ^ l.log2 ≤ V / 2 ^ (32 * t) := by rw [hl]; exact h1
    exact (Nat.le_div_iff_mul_le hp).1 this
  · rw [Nat.add_assoc, Nat.pow_add, Nat.mul_comm]
    have : V / 2 ^ (32 * t) < 2 ^ (l.log2 + 1) := by rw [hl]; exact h2
    exact (Nat.div_lt_iff_lt_mul hp).1 this
/-- The digits that are kept fit in fifty-three. -/
theorem kept {V r : Nat} (hr : V.log2 - 52 ≤ r) : V / 2 ^ r < 9007199254740992 := by
  rw [Nat.div_lt_iff_lt_mul (Nat.two_pow_pos r), ← pow53, ← Nat.pow_add]
  exact Nat.lt_of_lt_of_le (@lt_two_log V) (two_le (by omega))
theorem kept_low {V : Nat} (h0 : V ≠ 0) (h : 52 < V.log2) : 4503599627370496 ≤ V / 2 ^ (V.log2 - 52) := by
  rw [Nat.le_div_iff_mul_le (Nat.two_pow_pos _), ← pow52, ← Nat.pow_add, show 52 + (V.log2 - 52) = V.log2 by omega]
  exact Nat.log2_self_le h0
theorem digit (V r : Nat) : V / 2 ^ r = 2 * (V / 2 ^ (r + 1)) + V / 2 ^ r % 2 := by
  have : V / 2 ^ (r + 1) = V / 2 ^ r / 2 := by rw [Nat.div_div_eq_div_mul, Nat.pow_succ]
  omega
theorem rd_top {V : Nat} (h0 : V ≠ 0) : rd V 0 = min ((V.log2 - 52) * 4503599627370496 + rnd V (V.log2 - 52)) 9218868437227405312 := by
  have := rd_form (m := V) (k := 0) h0
  simpa using this
end FP
