/- Plain facts: sums digit by digit. -/
import Derived.Test.YtdjilhahafkpfaaFpl
namespace FP
/-- A digit; what is carried to it. -/
def dig (V i : Nat) : Nat := V / 2 ^ i % 2
def cy (V M i : Nat) : Nat := (V + M) / 2 ^ i - (V / 2 ^ i + M / 2 ^ i)
theorem dig_lt (V i : Nat) : dig V i < 2 := Nat.mod_lt _ (by omega)
theorem cy_eq (V M i : Nat) : (V + M) / 2 ^ i = V / 2 ^ i + M / 2 ^ i + cy V M i ∧ cy V M i ≤ 1 := by
  have h := Nat.add_div (a := V) (b := M) (Nat.two_pow_pos i)
  unfold cy
  rw [h]
  split <;> omega
theorem cy_zero (V M : Nat) : cy V M 0 = 0 := by unfold cy; simp
theorem half_pow (V i : Nat) : V / 2 ^ (i + 1) = V / 2 ^ i / 2 := by rw [Nat.pow_succ, Nat.div_div_eq_div_mul]
theorem dig_add (V M i : Nat) : dig (V + M) i = (dig V i + dig M i + cy V M i) % 2 := by
  have := cy_eq V M i
  unfold dig; omega
theorem cy_succ (V M i : Nat) : cy V M (i + 1) = (dig V i + dig M i + cy V M i) / 2 := by
  have h := cy_eq V M i
  have k := cy_eq V M (i + 1)
  rw [half_pow, half_pow, half_pow] at k
  unfold dig
  omega
theorem dig_small {M i : Nat} (h : M < 2 ^ i) : dig M i = 0 := by unfold dig; rw [Nat.div_eq_of_lt h]
theorem pow_le_of {i j : Nat} (h : i ≤ j) : 2 ^ i ≤ 2 ^ j := Nat.pow_le_pow_right (by omega) h
theorem add_stop {V M i : Nat} (h : M < 2 ^ i) (hc : cy V M i = 0) (j : Nat) (hj : i ≤ j) : dig (V + M) j = dig V j := by
  have e := (cy_eq V M i).1
  rw [hc, Nat.div_eq_of_lt h] at e
  obtain ⟨d, rfl⟩ : ∃ d, j = i + d := ⟨j - i, by omega⟩
  unfold dig
  rw [Nat.pow_add, ← Nat.div_div_eq_div_mul, ← Nat.div_div_eq_div_mul, e]
  simp
theorem low_div (V m s j : Nat) (hj : j ≤ s) : (V + m * 2 ^ s) / 2 ^ j = V / 2 ^ j + m * 2 ^ (s - j) := by
  have e : m * 2 ^ s = m * 2 ^ (s - j) * 2 ^ j := by rw [Nat.mul_assoc, ← Nat.pow_add, show s - j + j = s by omega]
  rw [e, Nat.add_mul_div_right _ _ (Nat.two_pow_pos j)]
theorem low_dig (V m s j : Nat) (hj : j < s) : dig (V + m * 2 ^ s) j = dig V j := by
  unfold dig
  rw [low_div V m s j (by omega), show s - j = (s - j - 1) + 1 by omega, Nat.pow_succ, ← Nat.mul_assoc, Nat.add_mul_mod_self_right]
theorem low_cy (V m s : Nat) : cy V (m * 2 ^ s) s = 0 := by
  unfold cy
  rw [low_div V m s s (Nat.le_refl _), Nat.sub_self, Nat.pow_zero, Nat.mul_one, Nat.mul_div_cancel _ (Nat.two_pow_pos s)]
  omega
theorem dig_up (m s k : Nat) : dig (m * 2 ^ s) (s + k) = m / 2 ^ k % 2 := by
  unfold dig
  rw [Nat.pow_add, ← Nat.div_div_eq_div_mul, Nat.mul_div_cancel _ (Nat.two_pow_pos s)]
theorem lt_up {m s i : Nat} (hm : m < 9007199254740992) (hi : s + 53 ≤ i) : m * 2 ^ s < 2 ^ i := by
  obtain ⟨d, rfl⟩ : ∃ d, i = 53 + s + d := ⟨i - 53 - s, by omega⟩
  have h1 : m * 2 ^ s < 9007199254740992 * 2 ^ s := Nat.mul_lt_mul_of_pos_right hm (Nat.two_pow_pos s)
  have h2 : 9007199254740992 * 2 ^ s = 2 ^ (53 + s) := by rw [Nat.pow_add]
  have h3 : 2 ^ (53 + s) ≤ 2 ^ (53 + s + d) := Nat.pow_le_pow_right (by omega) (by omega)
  omega
/-- What is taken: a less b. -/
theorem sub_dig {A B : Nat} (h : B ≤ A) (i : Nat) :
    dig (A - B) i = (2 + dig A i - dig B i - cy B (A - B) i) % 2 ∧ cy B (A - B) (i + 1) = 1 - (2 + dig A i - dig B i - cy B (A - B) i) / 2 := by
  have h1 := dig_add B (A - B) i
  have h2 := cy_succ B (A - B) i
  have h3 := (cy_eq B (A - B) i).2
  rw [show B + (A - B) = A by omega] at h1
  have := dig_lt A i; have := dig_lt B i; have := dig_lt (A - B) i
  omega
/-- One of two is less: by the first digit that differs. -/
theorem less_of {A B i : Nat} (h : A / 2 ^ (i + 1) = B / 2 ^ (i + 1)) : (dig A i = dig B i → A / 2 ^ i = B / 2 ^ i) ∧ (dig A i < dig B i → A < B) ∧ (dig B i < dig A i → B < A) := by
  rw [half_pow, half_pow] at h
  unfold dig
  refine ⟨fun e => by omega, fun e => ?_, fun e => ?_⟩
  · have h1 : A / 2 ^ i < B / 2 ^ i := by omega
    apply Classical.byContradiction
    intro hn
    have := Nat.div_le_div_right (c := 2 ^ i) (show B ≤ A by omega)
    omega
  · have h1 : B / 2 ^ i < A / 2 ^ i := by omega
    apply Classical.byContradiction
    intro hn
    have := Nat.div_le_div_right (c := 2 ^ i) (show A ≤ B by omega)
    omega
theorem eq_of_zero {A B : Nat} (h : A / 2 ^ 0 = B / 2 ^ 0) : A = B := by simpa using h
theorem dig_high {V j i : Nat} (h : V < 2 ^ j) (hi : j ≤ i) : dig V i = 0 := dig_small (Nat.lt_of_lt_of_le h (pow_le_of hi))
end FP
