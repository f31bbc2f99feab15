/- Plain facts on double words: a part of a whole. -/
import Derived.Test.YtdjilhahafkpfaaFpj
namespace FP
open Ieee

theorem val_one : ∀ f, f = 1074 → val 4607182418800017408 = 2 ^ f := fun f hf => by
  obtain ⟨g, hg⟩ : ∃ g, g = 1022 := ⟨_, rfl⟩
  have h := val_of 1022 4503599627370496 4607182418800017408 0 4503599627370496 g (by decide) (by decide) (by decide) (by omega) (by decide)
  rw [h, show f = 52 + g by omega, Nat.pow_add, pow52]
/-- A part is not more than the whole. -/
theorem div_le_one {x y : Nat} (hx : x < 9218868437227405312) (hy : y < 9218868437227405312) (h0 : 0 < y) (h : x ≤ y) : ∃ q, double.div x y = some q ∧ q ≤ 4607182418800017408 := by
  obtain ⟨m, i, rx, vx, hm, _, _⟩ := read_fin (b := x) (by rw [rung_pos (by omega)]; exact hx)
  obtain ⟨n, j, ry, vy, hn, _, _⟩ := read_fin (b := y) (by rw [rung_pos (by omega)]; exact hy)
  rw [rung_pos (by omega)] at vx vy
  rw [sgn_false (by omega)] at rx ry
  have hv := val_le h
  have hn0 : n ≠ 0 := by
    intro e
    have := val_lt h0
    rw [val_zero, ← vy, e] at this; omega
  unfold Format.div
  rw [rx, ry]
  unfold Datum.quotient
  dsimp only
  rw [if_neg hn0, dbl_frac]
  obtain ⟨M, hM⟩ : ∃ M, M = 52 + 2 + n.log2 - m.log2 := ⟨_, rfl⟩
  rw [← hM, Nat.shiftLeft_eq]
  simp only [Option.map_some, write_num, Bool.xor_false]
  refine ⟨_, rfl, ?_⟩
  rw [word_eq, if_neg (by simp)]
  by_cases hm0 : m = 0
  · subst hm0
    rw [Nat.zero_mul, Nat.zero_div, Nat.zero_mod]
    show near 0 _ ≤ _
    unfold near; rw [if_pos rfl]; omega
  · have hlm : m.log2 ≤ 52 := by have := (Nat.log2_lt hm0 (k := 53)).2 (by rw [pow53]; exact hm); omega
    have l1 := Nat.log2_self_le hm0
    have l2 := @lt_two_log n
    have hge : i ≤ j + M := by
      by_cases hc : i ≤ j + M
      · exact hc
      · exfalso
        have e1 : m * 2 ^ (M + 1 + (i - (j + M + 1))) * 2 ^ j ≤ n * 2 ^ j := by
          rw [Nat.mul_assoc, ← Nat.pow_add, show M + 1 + (i - (j + M + 1)) + j = i by omega, vx, vy]; exact hv
        have e2 := Nat.le_of_mul_le_mul_right e1 (Nat.two_pow_pos j)
        have e3 : 2 ^ m.log2 * 2 ^ M ≤ m * 2 ^ (M + 1 + (i - (j + M + 1))) := Nat.mul_le_mul l1 (two_le (by omega))
        rw [← Nat.pow_add] at e3
        have e4 : 2 ^ (n.log2 + 1) ≤ 2 ^ (m.log2 + M) := two_le (by omega)
        omega
    obtain ⟨B, hB⟩ : ∃ B, B = 2 ^ (j + M - i) := ⟨_, rfl⟩
    have hD : m * 2 ^ M ≤ B * n := by
      have e1 : m * 2 ^ M * 2 ^ i ≤ B * n * 2 ^ i := by
        have a1 : m * 2 ^ M * 2 ^ i = val x * 2 ^ M := by rw [← vx, Nat.mul_assoc, Nat.mul_comm (2 ^ M), ← Nat.mul_assoc]
        have a2 : B * n * 2 ^ i = val y * 2 ^ M := by
          rw [← vy, hB, Nat.mul_comm _ n, Nat.mul_assoc, Nat.mul_assoc, ← Nat.pow_add, ← Nat.pow_add, show j + M - i + i = j + M by omega]
        rw [a1, a2]; exact Nat.mul_le_mul_right _ hv
      exact Nat.le_of_mul_le_mul_right e1 (Nat.two_pow_pos i)
    have hq1 : m * 2 ^ M / n ≤ B := Nat.div_le_of_le_mul (by rw [Nat.mul_comm n B]; exact hD)
    have hq2 : m * 2 ^ M / n = B → m * 2 ^ M % n = 0 := fun e => by
      have h3 := Nat.div_add_mod (m * 2 ^ M) n
      rw [e, Nat.mul_comm] at h3; omega
    have hQ : ∃ Q, Q = 2 * (m * 2 ^ M / n) + (m * 2 ^ M % n != 0).toNat ∧ Q ≤ 2 * B := by
      refine ⟨_, rfl, ?_⟩
      cases hz : (m * 2 ^ M % n != 0) with
      | true =>
        have h1 : m * 2 ^ M % n ≠ 0 := by simpa using hz
        have h2 : m * 2 ^ M / n ≠ B := fun e => h1 (hq2 e)
        simp; omega
      | false => simp; omega
    obtain ⟨Q, hQe, hQl⟩ := hQ
    rw [← hQe]
    obtain ⟨f, hf⟩ : ∃ f, f = 1074 := ⟨_, rfl⟩
    have v1 := val_one f hf
    -- the place, as a place above and one below the least
    obtain ⟨E, K, hEK, hEK2⟩ : ∃ E K : Nat, (-1074 + (i : Int) - (-1074 + (j : Int)) - (M : Int) - 1) = -1074 + (E : Int) - (K : Int) ∧ E + (j + M - i + 1) = f + K := by
      by_cases hc : f + i ≥ j + M + 1
      · exact ⟨f + i - (j + M + 1), 0, by omega, by omega⟩
      · exact ⟨0, j + M + 1 - (f + i), by omega, by omega⟩
    rw [hEK, near_rd]
    have hle : Q * 2 ^ E ≤ val 4607182418800017408 * 2 ^ K := by
      rw [v1, ← Nat.pow_add, ← hEK2, Nat.add_comm E, Nat.pow_add]
      refine Nat.mul_le_mul_right _ ?_
      rw [Nat.pow_succ, ← hB]; omega
    have := rd_mono (k := K) hle
    rwa [rd_exact K (by omega)] at this
theorem near_mono {a n : Nat} (h : a ≤ n) : near a 0 ≤ near n 0 := by
  obtain ⟨f, hf⟩ : ∃ f, f = 1074 := ⟨_, rfl⟩
  have e0 : (-1074 + (f : Int) - ((0 : Nat) : Int)) = 0 := by omega
  have h1 := near_rd a f 0
  have h2 := near_rd n f 0
  rw [e0] at h1 h2
  rw [h1, h2]
  exact rd_mono (Nat.mul_le_mul_right _ h)
theorem near_pos {n : Nat} (h1 : 1 ≤ n) (h2 : n ≤ 9007199254740992) : 0 < near n 0 ∧ near n 0 < 9218868437227405312 := by
  obtain ⟨k, c, hk, hc, hm, -⟩ := kc_of h1 h2
  rw [near_word hk hc hm]; omega
end FP
