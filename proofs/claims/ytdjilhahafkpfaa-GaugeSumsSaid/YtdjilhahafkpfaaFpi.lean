/- Plain facts on double words: whole numbers, products by one and by 2^-53. -/
import Derived.Test.YtdjilhahafkpfaaFph
namespace FP
open Ieee

/-- The word of a whole number of few digits. -/
theorem near_word {m k c : Nat} (hk : k ≤ 53) (hc : 4503599627370496 ≤ c ∧ c < 9007199254740992) (hm : m * 4503599627370496 = c * 2 ^ k) : near m 0 = (1022 + k) * 4503599627370496 + c := by
  obtain ⟨f, hf⟩ : ∃ f, f = 1022 := ⟨_, rfl⟩
  have v : val ((f + k) * 4503599627370496 + c) = c * 2 ^ (f + k) := val_at (f + k) c (by omega) (Or.inr hc.1)
  have e : m * 2 ^ (f + 52) = val ((f + k) * 4503599627370496 + c) := by
    rw [v, Nat.pow_add, pow52, Nat.pow_add, Nat.mul_comm (2 ^ f), ← Nat.mul_assoc, hm, Nat.mul_assoc, Nat.mul_comm (2 ^ k)]
  have h := near_rd m (f + 52) 0
  have e0 : (-1074 + ((f + 52 : Nat) : Int) - ((0 : Nat) : Int)) = 0 := by omega
  rw [e0] at h
  rw [h, e, rd_exact0 (by omega), hf]
theorem write_int (m : Nat) : double.write (.number false m 0) = near m 0 := by
  rw [write_num, word_eq, if_neg (by simp)]
theorem mul_one' {y : Nat} (hy : y < 9218868437227405312) : double.mul 4607182418800017408 y = some y := by
  have hr : rung y = y := rung_pos (by omega)
  obtain ⟨m, i, ry, vy, _, _, _⟩ := read_fin (b := y) (by omega)
  unfold Format.mul
  rw [read_one, ry]
  unfold Datum.product
  dsimp only
  rw [Option.map_some, write_num, sgn_false (by omega)]
  have e : (-52 + (-1074 + (i : Int))) = (-1074 + (i : Int)) - ((52 : Nat) : Int) := by omega
  have h1 := near_scale m 52 (-1074 + (i : Int))
  have h2 := near_rd m i 0
  have e2 : (-1074 + (i : Int) - ((0 : Nat) : Int)) = -1074 + (i : Int) := by omega
  rw [e2] at h2
  rw [Nat.mul_comm, ← pow52, e, h1, h2, vy, hr, rd_exact0 (by omega), word_eq, if_neg (by simp)]
theorem read_small53 : double.read 4368491638549381120 = .number false 4503599627370496 (-105) := by decide +kernel
theorem mul_small {y m : Nat} (hy : y < 9218868437227405312) (hv : val y = m * 9007199254740992) (hm : m ≤ 9007199254740992) : double.mul 4368491638549381120 y = some m := by
  have hr : rung y = y := rung_pos (by omega)
  obtain ⟨d, i, ry, vy, _, _, _⟩ := read_fin (b := y) (by omega)
  unfold Format.mul
  rw [read_small53, ry]
  unfold Datum.product
  dsimp only
  rw [Option.map_some, write_num, sgn_false (by omega)]
  have e : (-105 + (-1074 + (i : Int))) = (-1074 + (i : Int) - ((53 : Nat) : Int)) - ((52 : Nat) : Int) := by omega
  have h1 := near_scale d 52 (-1074 + (i : Int) - ((53 : Nat) : Int))
  have h2 := near_rd d i 53
  have h3 := rd_scale m 53 0
  rw [Nat.zero_add, pow53] at h3
  have h4 := rd_exact0 (r := m) (by omega)
  rw [val_small hm] at h4
  rw [Nat.mul_comm, ← pow52, e, h1, h2, vy, hr, hv, h3, h4, word_eq, if_neg (by simp)]
end FP
