/- Plain facts on double words: sums with nought, with infinities. -/
import Derived.Test.YtdjilhahafkpfaaFph
namespace FP
open Ieee

theorem read_zero : double.read 0 = .number false 0 (-1074) := by decide +kernel
theorem num_zero : num 0 = 0 := by decide +kernel
theorem key_num {x : Nat} : key x = 0 ↔ num x = 0 := by
  have h := @num_eq_iff x 0
  rw [num_zero, key_zero_word] at h
  exact h.symm
theorem num_abs (x : Nat) : (num x).natAbs = val (rung x) := by
  unfold num; cases sgn x <;> simp
theorem inf_parts {x : Nat} (hx : x < 18446744073709551616) (hi : rung x = 9218868437227405312) : x = double.word (sgn x) 9218868437227405312 := by
  have := word_parts hx
  rw [hi] at this; exact this.symm
theorem add_inf_fin {x y : Nat} (hx : x < 18446744073709551616) (hi : rung x = 9218868437227405312) (hf : rung y < 9218868437227405312) : double.add x y = some x := by
  obtain ⟨n, j, ry, -⟩ := read_fin hf
  unfold Format.add
  rw [read_inf hi, ry]
  unfold Datum.sum
  dsimp only [Option.map_some, Format.write]
  rw [dbl_inf, ← inf_parts hx hi]
theorem add_fin_inf {x y : Nat} (hy : y < 18446744073709551616) (hi : rung y = 9218868437227405312) (hf : rung x < 9218868437227405312) : double.add x y = some y := by
  obtain ⟨n, j, rx, -⟩ := read_fin hf
  unfold Format.add
  rw [read_inf hi, rx]
  unfold Datum.sum
  dsimp only [Option.map_some, Format.write]
  rw [dbl_inf, ← inf_parts hy hi]
theorem add_inf_inf {x y : Nat} (hx : x < 18446744073709551616) (hi : rung x = 9218868437227405312) (hj : rung y = 9218868437227405312) : double.add x y = if sgn x = sgn y then some x else none := by
  unfold Format.add
  rw [read_inf hi, read_inf hj]
  unfold Datum.sum
  dsimp only
  by_cases h : sgn x = sgn y
  · rw [if_pos h, if_pos h]
    dsimp only [Option.map_some, Format.write]
    rw [dbl_inf, ← inf_parts hx hi]
  · rw [if_neg h, if_neg h]; rfl
theorem add_nan_l {x y : Nat} (h : isNaN x = true) : double.add x y = none := by
  have h' : 9218868437227405312 < rung x := by simpa [isNaN] using h
  unfold Format.add
  rw [read_nan h']; rfl
theorem add_nan_r {x y : Nat} (h : isNaN y = true) : double.add x y = none := by
  have h' : 9218868437227405312 < rung y := by simpa [isNaN] using h
  unfold Format.add
  rw [read_nan h']
  unfold Datum.sum
  split <;> simp_all
theorem add_zero_r {x : Nat} (hx : x < 18446744073709551616) (hn : isNaN x = false) (hk : key x ≠ 0) : double.add x 0 = some x := by
  have hr := rung_num hn
  by_cases hi : rung x = 9218868437227405312
  · exact add_inf_fin hx hi (by decide)
  · have hf : rung x < 9218868437227405312 := by omega
    rw [add_fin hf (by decide), num_zero, Int.add_zero, num_abs, rd_exact0 (by omega)]
    have hs : sumSgn x 0 = sgn x := by
      unfold sumSgn
      have hnz : num x ≠ 0 := fun h => hk (key_num.2 h)
      rw [num_zero, Int.add_zero, if_neg hnz]
      have hv : 0 ≤ (val (rung x) : Int) := Int.natCast_nonneg _
      unfold num at hnz ⊢
      cases hs : sgn x
      · simp only [Bool.false_eq_true, if_false]; exact decide_eq_false (by omega)
      · rw [hs, if_pos rfl] at hnz; simp only [if_true]; exact decide_eq_true (by omega)
    rw [hs, word_parts hx]
theorem add_zero_zero : double.add 0 0 = some 0 := by decide +kernel
theorem rd_pos {m : Nat} (h : 0 < m) : 0 < rd m 0 := by
  have v1 : val 1 = 1 := val_small (by omega)
  have := rd_lower (m := m) (R := 1) (by rw [v1]; omega) (by omega)
  omega
/-- The sum of two finite numbers. -/
theorem add_two {x y : Nat} (hx : rung x < 9218868437227405312) (hy : rung y < 9218868437227405312) : ∃ r, double.add x y = some r ∧ r < 18446744073709551616 ∧ isNaN r = false ∧ (key r = 0 ↔ num x + num y = 0) ∧ (0 < num x + num y → r = rd (num x + num y).toNat 0) ∧ (num x + num y < 0 → r = double.word true (rd (-(num x + num y)).toNat 0)) := by
  have hl := rd_le_inf (num x + num y).natAbs 0
  refine ⟨_, add_fin hx hy, word_num _ _ (by omega), by unfold isNaN; rw [rung_word (by omega)]; simp; omega, ?_, ?_, ?_⟩
  · rw [key_num]
    constructor
    · intro h
      by_cases hz : num x + num y = 0
      · exact hz
      · exfalso
        have hp := rd_pos (m := (num x + num y).natAbs) (by omega)
        have h2 := num_abs (double.word (sumSgn x y) (rd (num x + num y).natAbs 0))
        rw [h, rung_word (by omega)] at h2
        have := val_lt hp
        rw [val_zero] at this
        simp at h2; omega
    · intro h
      rw [h]
      have e : double.word (sumSgn x y) (rd (0 : Int).natAbs 0) = if sumSgn x y then 9223372036854775808 else 0 := by
        rw [word_eq, show (0 : Int).natAbs = 0 from rfl, rd_zero]
      rw [e]
      split
      · decide +kernel
      · exact num_zero
  · intro h
    have hs : sumSgn x y = false := by unfold sumSgn; rw [if_neg (by omega)]; simp; omega
    rw [hs, word_eq, if_neg (by simp), show (num x + num y).natAbs = (num x + num y).toNat by omega]
  · intro h
    have hs : sumSgn x y = true := by unfold sumSgn; rw [if_neg (by omega)]; simp; omega
    rw [hs, show (num x + num y).natAbs = (-(num x + num y)).toNat by omega]
end FP
