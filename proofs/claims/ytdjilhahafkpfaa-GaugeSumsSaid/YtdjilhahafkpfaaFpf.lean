/- Plain facts on double words: sums of any, one divided by a weight. -/
import Derived.Test.YtdjilhahafkpfaaFpe
import Derived.Test.YtdjilhahafkpfaaFpb
namespace FP
open Ieee

theorem word_num (s : Bool) (r : Nat) (h : r < 9223372036854775808) : double.word s r < 18446744073709551616 := by
  rw [word_eq]; split <;> omega
/-- The sign of a sum. -/
def sumSgn (x y : Nat) : Bool := if num x + num y = 0 then sgn x && sgn y else decide (num x + num y < 0)
/-- THE SUM of finite words. -/
theorem add_fin {x y : Nat} (hx : rung x < 9218868437227405312) (hy : rung y < 9218868437227405312) : double.add x y = some (double.word (sumSgn x y) (rd (num x + num y).natAbs 0)) := by
  obtain ⟨m, i, rx, vx, _, _, _⟩ := read_fin hx
  obtain ⟨n, j, ry, vy, _, _, _⟩ := read_fin hy
  unfold Format.add
  rw [rx, ry]
  unfold Datum.sum
  dsimp only
  have e1 : ((-1074 + (i : Int)) - min (-1074 + (i : Int)) (-1074 + (j : Int))).toNat = i - min i j := by omega
  have e2 : ((-1074 + (j : Int)) - min (-1074 + (i : Int)) (-1074 + (j : Int))).toNat = j - min i j := by omega
  have e3 : min (-1074 + (i : Int)) (-1074 + (j : Int)) = -1074 + ((min i j : Nat) : Int) - ((0 : Nat) : Int) := by omega
  rw [e1, e2, e3]
  have ht : (signed (sgn x) m (i - min i j) + signed (sgn y) n (j - min i j)) * 2 ^ (min i j) = num x + num y := by
    rw [Int.add_mul, ← signed_scale, ← signed_scale, show i - min i j + min i j = i by omega, show j - min i j + min i j = j by omega, signed_num vx, signed_num vy]
  generalize signed (sgn x) m (i - min i j) + signed (sgn y) n (j - min i j) = t at ht
  have hp : (0 : Int) < 2 ^ (min i j) := Int.pow_pos (by omega)
  have z1 : t = 0 ↔ num x + num y = 0 := by
    rw [← ht]
    constructor
    · intro h; rw [h, Int.zero_mul]
    · intro h; rcases Int.mul_eq_zero.1 h with h | h
      · exact h
      · omega
  have z2 : t < 0 ↔ num x + num y < 0 := by
    rw [← ht]
    constructor
    · intro h; exact Int.mul_neg_of_neg_of_pos h hp
    · intro h
      by_cases h' : t < 0
      · exact h'
      · have := Int.mul_nonneg (a := t) (b := 2 ^ (min i j)) (by omega) (by omega); omega
  have z3 : t.natAbs * 2 ^ (min i j) = (num x + num y).natAbs := by
    rw [← ht, Int.natAbs_mul, Int.natAbs_pow]; rfl
  simp only [Option.map_some, write_num, near_rd, z3]
  unfold sumSgn
  simp only [z1, z2]

theorem num_pos {x : Nat} (h : x < 9223372036854775808) : num x = val x := by
  unfold num; rw [sgn_false h, rung_pos h]; simp
/-- THE SUM of two that are not negative: the rung nearest to it. -/
theorem add_pos {x y : Nat} (hx : x < 9218868437227405312) (hy : y < 9218868437227405312) : double.add x y = some (rd (val x + val y) 0) := by
  have e : num x + num y = ((val x + val y : Nat) : Int) := by rw [num_pos (by omega), num_pos (by omega)]; omega
  have hs : sumSgn x y = false := by
    unfold sumSgn
    rw [e, sgn_false (b := x) (by omega)]
    split
    · rfl
    · simp; omega
  have e2 : (num x + num y).natAbs = val x + val y := by rw [e, Int.natAbs_natCast]
  have h := add_fin (x := x) (y := y) (by rw [rung_pos (by omega)]; exact hx) (by rw [rung_pos (by omega)]; exact hy)
  rw [hs, e2, word_eq, if_neg (by simp)] at h
  exact h
/-- .. also where they are infinite. -/
theorem add_nn {x y : Nat} (hx : x ≤ 9218868437227405312) (hy : y ≤ 9218868437227405312) : ∃ s, double.add x y = some s ∧ s ≤ 9218868437227405312 := by
  have ix : rung x = x := rung_pos (by omega)
  have iy : rung y = y := rung_pos (by omega)
  by_cases h1 : x = 9218868437227405312
  · by_cases h2 : y = 9218868437227405312
    · subst h1; subst h2; exact ⟨9218868437227405312, by decide +kernel, by omega⟩
    · subst h1
      obtain ⟨n, j, ry, -⟩ := read_fin (b := y) (by omega)
      refine ⟨9218868437227405312, ?_, by omega⟩
      unfold Format.add
      rw [ry, read_inf (b := 9218868437227405312) rfl]
      unfold Datum.sum
      dsimp only [Option.map_some, Format.write]
      rw [word_eq, dbl_inf, sgn_false (by omega)]; simp
  · by_cases h2 : y = 9218868437227405312
    · subst h2
      obtain ⟨n, j, rx, -⟩ := read_fin (b := x) (by omega)
      refine ⟨9218868437227405312, ?_, by omega⟩
      unfold Format.add
      rw [rx, read_inf (b := 9218868437227405312) rfl]
      unfold Datum.sum
      dsimp only [Option.map_some, Format.write]
      rw [word_eq, dbl_inf, sgn_false (by omega)]; simp
    · exact ⟨_, add_pos (by omega) (by omega), rd_le_inf _ _⟩
theorem read_one : double.read 4607182418800017408 = .number false 4503599627370496 (-52) := by decide +kernel
theorem read_norm {w : Nat} (h1 : 4503599627370496 ≤ w) (h2 : w < 9218868437227405312) : double.read w = .number false (4503599627370496 + w % 4503599627370496) (-1074 + (w / 4503599627370496 - 1 : Nat)) := by
  rw [read_eq, rung_pos (by omega), if_neg (by omega), if_pos h2, sgn_false (by omega)]
theorem log_norm {n : Nat} (h1 : 4503599627370496 ≤ n) (h2 : n < 9007199254740992) : n.log2 = 52 := by
  rw [Nat.log2_eq_iff (by omega)]
  constructor
  · rw [pow52]; exact h1
  · rw [pow53]; exact h2
theorem two_le {a b : Nat} (h : a ≤ b) : 2 ^ a ≤ 2 ^ b := Nat.pow_le_pow_right (by decide) h
theorem val_of (e k r j K f : Nat) (h : e * 4503599627370496 + k = r) (hk : k ≤ 9007199254740992) (h0 : e = 0 ∨ 4503599627370496 ≤ k) (hf : e = j + f) (hK : K = k * 2 ^ j) : val r = K * 2 ^ f := by
  rw [← h, val_at e k hk h0, hf, Nat.pow_add, ← Nat.mul_assoc, ← hK]
theorem le_big {Q E : Nat} (hQ : Q ≤ 36028797018963968) (hE : E ≤ 1029) : Q * 2 ^ E ≤ val 4652218415073722368 := by
  obtain ⟨f, hf⟩ : ∃ f, f = 1029 := ⟨_, rfl⟩
  rw [val_of 1032 4503599627370496 4652218415073722368 3 36028797018963968 f (by decide) (by decide) (by decide) (by omega) (by decide)]
  exact Nat.mul_le_mul hQ (two_le (by omega))
theorem low_le {Q E : Nat} (hQ : 18014398509481984 ≤ Q) (hE : 1009 ≤ E) : val 4557642822898941952 ≤ Q * 2 ^ E := by
  obtain ⟨f, hf⟩ : ∃ f, f = 1009 := ⟨_, rfl⟩
  rw [val_of 1011 4503599627370496 4557642822898941952 2 18014398509481984 f (by decide) (by decide) (by decide) (by omega) (by decide)]
  exact Nat.mul_le_mul hQ (two_le (by omega))
/-- ONE DIVIDED BY A WEIGHT: between a part of two thousand and a thousand. -/
theorem div_one {w : Nat} (h1 : 4562146422526312448 ≤ w) (h2 : w ≤ 4652218415073722368) : ∃ q, double.div 4607182418800017408 w = some q ∧ q ≤ 4652218415073722368 ∧ 4557642822898941952 ≤ q := by
  obtain ⟨n, hn⟩ : ∃ n, n = 4503599627370496 + w % 4503599627370496 := ⟨_, rfl⟩
  obtain ⟨e, he⟩ : ∃ e, e = w / 4503599627370496 - 1 := ⟨_, rfl⟩
  have hn1 : 4503599627370496 ≤ n := by omega
  have hn2 : n < 9007199254740992 := by omega
  have he1 : 1012 ≤ e := by omega
  have he2 : e ≤ 1032 := by omega
  unfold Format.div
  rw [read_one, read_norm (by omega) (by omega), ← hn, ← he]
  unfold Datum.quotient
  dsimp only
  rw [if_neg (by omega), log_norm hn1 hn2, log_norm (n := 4503599627370496) (by omega) (by omega), dbl_frac]
  have hD : (4503599627370496 <<< (52 + 2 + 52 - 52) : Nat) = 81129638414606681695789005144064 := by decide +kernel
  rw [hD]
  simp only [Option.map_some, write_num, Bool.xor_false]
  have hq1 : 9007199254740992 ≤ 81129638414606681695789005144064 / n := by rw [Nat.le_div_iff_mul_le (by omega)]; omega
  have hq2 : 81129638414606681695789005144064 / n ≤ 18014398509481984 := Nat.div_le_of_le_mul (by omega)
  have hq3 : 81129638414606681695789005144064 / n = 18014398509481984 → 81129638414606681695789005144064 % n = 0 := fun h => by
    have h3 := Nat.div_add_mod 81129638414606681695789005144064 n
    rw [h] at h3
    have h4 : 4503599627370496 * 18014398509481984 ≤ n * 18014398509481984 := Nat.mul_le_mul_right _ hn1
    omega
  have hk : ∃ Q, Q = 2 * (81129638414606681695789005144064 / n) + (81129638414606681695789005144064 % n != 0).toNat ∧ 18014398509481984 ≤ Q ∧ Q ≤ 36028797018963968 := by
    refine ⟨_, rfl, by omega, ?_⟩
    cases hz : (81129638414606681695789005144064 % n != 0) with
    | true =>
      have : 81129638414606681695789005144064 % n ≠ 0 := by simpa using hz
      have : 81129638414606681695789005144064 / n ≠ 18014398509481984 := fun h => this (hq3 h)
      simp; omega
    | false => simp; omega
  obtain ⟨Q, hQ, hQ1, hQ2⟩ := hk
  rw [← hQ]
  have ep : (-52 - (-1074 + (e : Int)) - ((52 + 2 + 52 - 52 : Nat) : Int) - 1) = -1074 + ((2041 - e : Nat) : Int) - ((0 : Nat) : Int) := by omega
  rw [ep, near_rd]
  have b1 : Q * 2 ^ (2041 - e) ≤ val 4652218415073722368 := le_big hQ2 (by omega)
  have b2 : val 4557642822898941952 ≤ Q * 2 ^ (2041 - e) := low_le hQ1 (by omega)
  have r1 := rd_mono (k := 0) b1
  have r2 := rd_mono (k := 0) b2
  rw [rd_exact0 (by omega)] at r1 r2
  refine ⟨_, rfl, ?_, ?_⟩
  · rw [word_eq]; simpa using r1
  · rw [word_eq]; simpa using r2
/-- A number brought between two lies between them. -/
theorem clampB_in {x lo hi : Nat} (hx : x < 18446744073709551616) (h1 : lo ≤ hi) (h2 : hi ≤ 9218868437227405312) : lo ≤ clampB x lo hi ∧ clampB x lo hi ≤ hi := by
  have rl := rank_pos (b := lo) (by omega)
  have rh := rank_pos (b := hi) (by omega)
  unfold clampB
  have hlh : ltB hi lo = false := by unfold ltB; rw [rl, rh]; simp; omega
  rw [hlh, Bool.or_false]
  by_cases a : ltB x lo = true
  · rw [if_pos a]; omega
  · rw [if_neg a]
    by_cases b : ltB hi x = true
    · rw [if_pos b]; omega
    · rw [if_neg b]
      unfold ltB at a b
      rw [rl] at a
      rw [rh] at b
      simp at a b
      have hn : isNaN x = false := by
        cases hN : isNaN x
        · rfl
        · have := rank_nan hN; omega
      have hr := rank_num hn
      have hs : sgn x = false := by
        cases hS : sgn x
        · rfl
        · rw [hS] at hr; simp at hr; omega
      rw [hs] at hr
      simp at hr
      have hx' : x < 9223372036854775808 := by
        have := sgn_iff hx
        rw [hs] at this
        by_cases h : 9223372036854775808 ≤ x
        · exact absurd (this.2 h) (by simp)
        · omega
      rw [rung_pos hx'] at hr
      omega
theorem ltB_pos {a b : Nat} (ha : a ≤ 9218868437227405312) (hb : b ≤ 9218868437227405312) : ltB a b = decide (a < b) := by
  unfold ltB; rw [rank_pos ha, rank_pos hb]
  by_cases h : a < b
  · simp [h]
  · simp [h]
theorem clampB_pos {x lo hi : Nat} (hx : x ≤ 9218868437227405312) (h1 : lo ≤ hi) (h2 : hi ≤ 9218868437227405312) : clampB x lo hi = max lo (min x hi) := by
  unfold clampB
  rw [ltB_pos hx (by omega), ltB_pos h2 (by omega), ltB_pos h2 hx]
  by_cases a : x < lo
  · simp [a]; omega
  · by_cases b : hi < x
    · simp [a, b, show ¬ hi < lo by omega]; omega
    · simp [a, b, show ¬ hi < lo by omega]; omega
end FP
