/- Plain facts on double words: halving as the division by two; words and their parts. -/
import Derived.Test.YtdjilhahafkpfaaFpa
namespace FP
open Ieee

theorem word_eq (s : Bool) (r : Nat) : double.word s r = if s then 9223372036854775808 + r else r := by
  unfold Format.word; rw [dbl_sw]

theorem rung_word {s : Bool} {r : Nat} (h : r < 9223372036854775808) : rung (double.word s r) = r := by
  rw [word_eq]; unfold rung; split <;> omega

theorem sgn_word {s : Bool} {r : Nat} (h : r < 9223372036854775808) : sgn (double.word s r) = s := by
  rw [word_eq]; unfold sgn
  cases s
  · simp; omega
  · simp; omega

theorem word_parts {b : Nat} (h : b < 18446744073709551616) : double.word (sgn b) (rung b) = b := by
  rw [word_eq]
  unfold sgn rung
  by_cases h1 : b / 9223372036854775808 % 2 = 1
  · simp [h1]; omega
  · simp [h1]; omega

theorem write_num (s : Bool) (m : Nat) (p : Int) : double.write (.number s m p) = double.word s (near m p) := by
  unfold Format.write; exact nearest_eq s m p

theorem read_two : double.read 4611686018427387904 = .number false 4503599627370496 (-51) := by decide +kernel

theorem div_two_fin {x : Nat} (h : rung x < 9218868437227405312) : double.div x 4611686018427387904 = some (double.word (sgn x) (hr (rung x))) := by
  obtain ⟨m, e, rx, vx, hm, he, he2⟩ := read_fin h
  unfold Format.div
  rw [rx, read_two]
  unfold Datum.quotient
  dsimp only
  rw [if_neg (by omega)]
  have hl : m.log2 ≤ 52 := by
    by_cases h0 : m = 0
    · subst h0; decide
    · have := (Nat.log2_lt h0 (k := 53)).2 (by rw [pow53]; exact hm); omega
  have e52 : Nat.log2 4503599627370496 = 52 := by decide +kernel
  rw [dbl_frac, e52]
  generalize m.log2 = L at hl
  have hd : m <<< (52 + 2 + 52 - L) = m * 2 ^ (54 - L) * 4503599627370496 := by
    rw [Nat.shiftLeft_eq, ← pow52, Nat.mul_assoc, ← Nat.pow_add]
    congr 2; omega
  rw [hd, Nat.mul_div_cancel _ (by omega), Nat.mul_mod_left]
  simp only [Option.map_some, write_num, bne_self_eq_false, Bool.toNat_false, Nat.add_zero, Bool.xor_false]
  congr 2
  have e1 : 2 * (m * 2 ^ (54 - L)) = m * 2 ^ (55 - L) := by
    rw [show 55 - L = (54 - L) + 1 by omega, Nat.pow_succ, ← Nat.mul_assoc m, Nat.mul_comm 2]
  have e2 : (-1074 + (e : Int) - -51 - ((52 + 2 + 52 - L : Nat) : Int) - 1) = (-1074 + (e : Int) - 1) - ((55 - L : Nat) : Int) := by omega
  rw [e1, e2, near_scale]
  have := near_rd m e 1
  rw [show ((1 : Nat) : Int) = 1 from rfl] at this
  rw [this, vx, rd_half (by omega)]

theorem div_two_inf {x : Nat} (h : rung x = 9218868437227405312) : double.div x 4611686018427387904 = some (double.word (sgn x) 9218868437227405312) := by
  unfold Format.div
  rw [read_inf h, read_two]
  unfold Datum.quotient
  simp [Format.write, dbl_inf]

theorem div_two_nan {x : Nat} (h : 9218868437227405312 < rung x) : double.div x 4611686018427387904 = none := by
  unfold Format.div
  rw [read_nan h, read_two]
  rfl

theorem hr_le (r : Nat) : hr r ≤ r := by
  unfold hr; split
  · omega
  · split <;> omega
theorem hr_lt {r : Nat} (h : 0 < r) : hr r < r := by
  unfold hr; split
  · omega
  · split <;> omega
end FP
