/- Plain facts on double words: differences. -/
import Derived.Test.YtdjilhahafkpfaaFpg
namespace FP
open Ieee

theorem rung_opp {y : Nat} (h : y < 9223372036854775808) : rung (y + 9223372036854775808) = y := by unfold rung; omega
theorem sgn_opp {y : Nat} (h : y < 9223372036854775808) : sgn (y + 9223372036854775808) = true := sgn_true (by omega) (by omega)
theorem read_opp {y : Nat} (h : y < 9223372036854775808) : double.read (y + 9223372036854775808) = (double.read y).opposite := by
  rw [read_eq, read_eq, rung_opp h, sgn_opp h, rung_pos h, sgn_false h]
  by_cases h1 : y < 4503599627370496
  · rw [if_pos h1, if_pos h1]; rfl
  · rw [if_neg h1, if_neg h1]
    by_cases h2 : y < 9218868437227405312
    · rw [if_pos h2, if_pos h2]; rfl
    · rw [if_neg h2, if_neg h2]
      by_cases h3 : y = 9218868437227405312
      · rw [if_pos h3, if_pos h3]; rfl
      · rw [if_neg h3, if_neg h3]; rfl
theorem sub_add {x y : Nat} (h : y < 9223372036854775808) : double.sub x y = double.add x (y + 9223372036854775808) := by
  unfold Format.sub Format.add; rw [read_opp h]
theorem num_opp {y : Nat} (h : y < 9223372036854775808) : num (y + 9223372036854775808) = -(val y : Int) := by
  unfold num; rw [sgn_opp h, rung_opp h]; simp
/-- THE DIFFERENCE of two that are not negative. -/
theorem sub_pos {x y : Nat} (hx : x < 9218868437227405312) (hy : y < 9218868437227405312) : ∃ s, double.sub x y = some (double.word s (rd ((val x : Int) - (val y : Int)).natAbs 0)) ∧ ((val x : Int) - (val y : Int) < 0 → s = true) ∧ ((0 : Int) < (val x : Int) - (val y : Int) → s = false) := by
  have e : num x + num (y + 9223372036854775808) = (val x : Int) - (val y : Int) := by rw [num_pos (by omega), num_opp (by omega)]; omega
  have h := add_fin (x := x) (y := y + 9223372036854775808) (by rw [rung_pos (by omega)]; exact hx) (by rw [rung_opp (by omega)]; exact hy)
  rw [e] at h
  refine ⟨sumSgn x (y + 9223372036854775808), by rw [sub_add (by omega)]; exact h, fun hn => ?_, fun hp => ?_⟩
  · unfold sumSgn; rw [e, if_neg (by omega)]; simp; omega
  · unfold sumSgn; rw [e, if_neg (by omega)]; simp; omega
/-- Half of the place of one. -/
theorem val_1025 : ∀ f, f = 1074 → val 4652222813120233472 = 1025 * 2 ^ f := fun f hf => by
  obtain ⟨g, hg⟩ : ∃ g, g = 1032 := ⟨_, rfl⟩
  have h := val_of 1032 4507997673881600 4652222813120233472 0 4507997673881600 g (by decide) (by decide) (by decide) (by omega) (by decide)
  rw [h, show f = 42 + g by omega, Nat.pow_add, ← Nat.mul_assoc]
theorem val_1024 : ∀ f, f = 1074 → val 4652218415073722368 = 1024 * 2 ^ f := fun f hf => by
  obtain ⟨g, hg⟩ : ∃ g, g = 1032 := ⟨_, rfl⟩
  have h := val_of 1032 4503599627370496 4652218415073722368 0 4503599627370496 g (by decide) (by decide) (by decide) (by omega) (by decide)
  rw [h, show f = 42 + g by omega, Nat.pow_add, ← Nat.mul_assoc]
/-- c times a thousand and twenty-four. -/
def bb (c : Nat) : Nat := rd (c * val 4652218415073722368) 0
theorem bb_spec {c : Nat} (hc : c < 1000) : ∀ f, f = 1074 → val (bb c) = c * 1024 * 2 ^ f ∧ bb c < 9218868437227405312 := fun f hf => by
  obtain ⟨R, hR⟩ := rep (f + 10) c (by omega)
  have hRi := below_inf hR (by omega) (by omega)
  have e0 : c * 2 ^ (f + 10) = c * 1024 * 2 ^ f := by rw [Nat.pow_add, Nat.mul_comm (2 ^ f), ← Nat.mul_assoc]
  have e : bb c = R := by
    unfold bb
    rw [val_1024 f hf, ← Nat.mul_assoc, ← e0, ← hR]
    exact rd_exact0 (by omega)
  rw [e]; exact ⟨by rw [hR, e0], hRi⟩
theorem bb_add {c x y : Nat} (hc : c < 900) (hx : x ≤ bb c) (hy : y ≤ 4652218415073722368) : rd (val x + val y) 0 ≤ bb (c + 1) := by
  obtain ⟨f, hf⟩ : ∃ f, f = 1074 := ⟨_, rfl⟩
  have h1 := bb_spec (c := c) (by omega) f hf
  have h2 := bb_spec (c := c + 1) (by omega) f hf
  have h3 := val_le hx
  have h4 := val_le hy
  rw [val_1024 f hf] at h4
  rw [h1.1] at h3
  refine rd_upper ?_ (by omega)
  rw [h2.1, Nat.add_mul, Nat.add_mul]; omega
theorem bb_le {c d : Nat} (h : c ≤ d) (_ : d < 1000) : bb c ≤ bb d := by
  unfold bb; exact rd_mono (Nat.mul_le_mul_right _ h)
theorem rd_add_le {x y R : Nat} (h : val x + val y ≤ val R) (hR : R ≤ 9218868437227405312) : rd (val x + val y) 0 ≤ R := rd_upper h hR
theorem le_rd_add (x y : Nat) (hx : x ≤ 9218868437227405312) : x ≤ rd (val x + val y) 0 := rd_lower (by omega) hx
/-- Whoever is not more than a thousand and twenty-four ahead is not more than one more ahead. -/
theorem near_sub {x y c : Nat} (hc : c < 500) (hy : y ≤ bb c) (hx : x ≤ rd (val y + val 4652218415073722368) 0) : ∃ r, double.sub x y = some r ∧ r < 18446744073709551616 ∧ (double.order r r != some .eq) = false ∧ (double.order r 4652222813120233472 == some .gt) = false := by
  obtain ⟨f, hf⟩ : ∃ f, f = 1074 := ⟨_, rfl⟩
  have hb := bb_spec (c := c) (by omega) f hf
  have v24 := val_1024 f hf
  have v25 := val_1025 f hf
  have hvy : val y ≤ c * 1024 * 2 ^ f := by rw [← hb.1]; exact val_le hy
  have hp := Nat.two_pow_pos f
  obtain ⟨N, hN⟩ : ∃ N, N = val y / 2 ^ f + 1 := ⟨_, rfl⟩
  have hN1 : val y < N * 2 ^ f := by rw [hN]; exact Nat.lt_mul_of_div_lt (by omega) hp
  have hN2 : N * 2 ^ f ≤ val y + 2 ^ f := by rw [hN, Nat.add_mul, Nat.one_mul]; have := Nat.div_mul_le_self (val y) (2 ^ f); omega
  have hN3 : N ≤ c * 1024 + 1 := by
    have : val y / 2 ^ f ≤ c * 1024 := Nat.div_le_of_le_mul (by rw [Nat.mul_comm]; exact hvy)
    omega
  obtain ⟨R, hR⟩ := rep f (N + 1024) (by omega)
  have hRi : R < 9218868437227405312 := by
    obtain ⟨R2, hR2⟩ := rep (f + 12) 500 (by omega)
    have h2 := below_inf hR2 (by omega) (by omega)
    have : val R ≤ val R2 := by
      rw [hR, hR2, Nat.pow_add, Nat.mul_comm (2 ^ f), ← Nat.mul_assoc]
      exact Nat.mul_le_mul_right _ (by omega)
    have h3 : R ≤ R2 := by
      by_cases h : R ≤ R2
      · exact h
      · have := val_lt (a := R2) (b := R) (by omega); omega
    omega
  have hxR : x ≤ R := Nat.le_trans hx (rd_upper (by rw [hR, v24, Nat.add_mul]; omega) (by omega))
  have hvx : val x ≤ val y + 1025 * 2 ^ f := by
    have h1 := val_le hxR
    rw [hR, Nat.add_mul] at h1
    have : 1025 * 2 ^ f = 1024 * 2 ^ f + 2 ^ f := by rw [show 1025 = 1024 + 1 from rfl, Nat.add_mul, Nat.one_mul]
    omega
  obtain ⟨s, hs, s1, s2⟩ := sub_pos (x := x) (y := y) (by omega) (by omega)
  have hrl := rd_le_inf ((val x : Int) - (val y : Int)).natAbs 0
  refine ⟨_, hs, word_num _ _ (by omega), ?_, ?_⟩
  · rw [ordne_self]; unfold isNaN; rw [rung_word (by omega)]; simp; omega
  · rw [gt_eq]
    have hk : key 4652222813120233472 = 4652222813120233472 := by decide +kernel
    rw [hk]
    have : key (double.word s (rd ((val x : Int) - (val y : Int)).natAbs 0)) ≤ 4652222813120233472 := by
      unfold key
      rw [sgn_word (by omega), rung_word (by omega)]
      cases s
      · have h0 : ¬ ((val x : Int) - (val y : Int) < 0) := fun h => by simpa using s1 h
        have h1 : ((val x : Int) - (val y : Int)).natAbs ≤ val 4652222813120233472 := by rw [v25]; omega
        have h2 := rd_upper h1 (by omega)
        simp only [Bool.false_eq_true, if_false]; omega
      · simp only [if_true]; omega
    rw [Bool.and_eq_false_iff]; right; simp; exact this
end FP
