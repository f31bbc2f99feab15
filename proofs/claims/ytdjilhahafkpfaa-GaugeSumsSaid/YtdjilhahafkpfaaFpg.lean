/- Plain facts on double words: sums that grow, sums that are exact. -/
import Derived.Test.YtdjilhahafkpfaaFpf
namespace FP
open Ieee

/-- What has few digits is a value. -/
theorem rep : ∀ (e r : Nat), r ≤ 9007199254740992 → ∃ R, val R = r * 2 ^ e
  | 0, r, h => ⟨r, by rw [val_small h]; simp⟩
  | e + 1, r, h => by
    by_cases h1 : 4503599627370496 ≤ r
    · exact ⟨(e + 1) * 4503599627370496 + r, val_at (e + 1) r h (Or.inr h1)⟩
    · obtain ⟨R, hR⟩ := rep e (2 * r) (by omega)
      exact ⟨R, by rw [hR, Nat.pow_succ, Nat.mul_comm 2 r, Nat.mul_assoc, Nat.mul_comm 2]⟩
theorem val_inf : val 9218868437227405312 = 4503599627370496 * 2 ^ 2046 := by
  obtain ⟨f, hf⟩ : ∃ f, f = 2046 := ⟨_, rfl⟩
  rw [← hf]
  exact val_of 2046 4503599627370496 9218868437227405312 0 4503599627370496 f (by decide) (by decide) (by decide) (by omega) (by decide)
theorem rd_upper {m R : Nat} (h : m ≤ val R) (hR : R ≤ 9218868437227405312) : rd m 0 ≤ R := by
  have := rd_mono (k := 0) h
  rwa [rd_exact0 hR] at this
theorem rd_lower {m R : Nat} (h : val R ≤ m) (hR : R ≤ 9218868437227405312) : R ≤ rd m 0 := by
  have := rd_mono (k := 0) h
  rwa [rd_exact0 hR] at this
theorem below_inf {R r e : Nat} (h : val R = r * 2 ^ e) (hr : r < 1024) (he : e ≤ 2000) : R < 9218868437227405312 := by
  rw [← val_lt_iff, h, val_inf]
  obtain ⟨f, hf⟩ : ∃ f, f = 2046 := ⟨_, rfl⟩
  rw [← hf]
  have h1 : 2 ^ e ≤ 2 ^ f := two_le (by omega)
  have h2 : 0 < 2 ^ f := Nat.two_pow_pos f
  have h3 : r * 2 ^ e ≤ 1024 * 2 ^ f := Nat.mul_le_mul (by omega) h1
  have h4 : 1024 * 2 ^ f < 4503599627370496 * 2 ^ f := Nat.mul_lt_mul_of_pos_right (by omega) h2
  omega
/-- A SUM GROWS, as long as what is added is not too small beside it. -/
theorem grow {q s e r : Nat} (hq1 : 4557642822898941952 ≤ q) (hq2 : q ≤ 4652218415073722368) (he : e = q / 4503599627370496 - 1) (hr : r ≤ 300) (hs : val s ≤ r * 2 ^ (53 + e)) :
    s < 9218868437227405312 ∧ s < rd (val s + val q) 0 ∧ val (rd (val s + val q) 0) ≤ (r + 1) * 2 ^ (53 + e) := by
  obtain ⟨k, hk⟩ : ∃ k, k = q - e * 4503599627370496 := ⟨_, rfl⟩
  have hq : q = e * 4503599627370496 + k := by omega
  have hk1 : 4503599627370496 ≤ k := by omega
  have hk2 : k < 9007199254740992 := by omega
  have he2 : e ≤ 1100 := by omega
  have vq : val q = k * 2 ^ e := by rw [hq]; exact val_at e k (by omega) (Or.inr hk1)
  have p53 : 2 ^ (53 + e) = 9007199254740992 * 2 ^ e := by rw [Nat.pow_add, pow53]
  have hpe := Nat.two_pow_pos e
  have vq2 : val q ≤ 2 ^ (53 + e) := by rw [vq, p53]; exact Nat.mul_le_mul_right _ (by omega)
  have vq3 : 4503599627370496 * 2 ^ e ≤ val q := by rw [vq]; exact Nat.mul_le_mul_right _ hk1
  obtain ⟨R, hR⟩ := rep (53 + e) (r + 1) (by omega)
  have hRi : R < 9218868437227405312 := below_inf hR (by omega) (by omega)
  have hm : (r + 1) * 2 ^ (53 + e) = r * 2 ^ (53 + e) + 2 ^ (53 + e) := by rw [Nat.add_mul, Nat.one_mul]
  have hsum : val s + val q ≤ val R := by rw [hR]; omega
  have hsR : s < R := by rw [← val_lt_iff]; have : 0 < 4503599627370496 * 2 ^ e := Nat.mul_pos (by omega) hpe; omega
  refine ⟨by omega, ?_, ?_⟩
  · have hgap : val (s + 1) ≤ val s + val q := by
      obtain ⟨e', k', rfl, hk', he'⟩ := parts s
      rw [show e' * 4503599627370496 + k' + 1 = e' * 4503599627370496 + (k' + 1) by omega, val_at e' (k' + 1) (by omega) (by omega), val_at e' k' (by omega) he', Nat.add_mul, Nat.one_mul]
      rw [val_at e' k' (by omega) he'] at hs
      by_cases hle : e' ≤ 52 + e
      · have h1 : 2 ^ e' ≤ 2 ^ (52 + e) := two_le hle
        have h2 : 2 ^ (52 + e) = 4503599627370496 * 2 ^ e := by rw [Nat.pow_add, pow52]
        omega
      · exfalso
        have h1 : 2 ^ (53 + e) ≤ 2 ^ e' := two_le (by omega)
        have h2 : 4503599627370496 * 2 ^ e' ≤ k' * 2 ^ e' := Nat.mul_le_mul_right _ (by omega)
        have h3 : r * 2 ^ (53 + e) ≤ 300 * 2 ^ (53 + e) := Nat.mul_le_mul_right _ hr
        have h4 : 0 < 2 ^ (53 + e) := Nat.two_pow_pos _
        omega
    exact rd_lower hgap (by omega)
  · have h1 := rd_upper hsum (by omega)
    have h2 := val_le h1
    rw [hR] at h2; exact h2
end FP
