/- Plain facts on double words: values of rungs, order, rounding. -/
import Ieee.Arith
namespace FP
open Ieee

/-- The value of a rung in units of the least place. -/
def val (r : Nat) : Nat := if r < 4503599627370496 then r else (4503599627370496 + r % 4503599627370496) * 2 ^ (r / 4503599627370496 - 1)

theorem val_at (e k : Nat) (h : k ≤ 9007199254740992) (h' : e = 0 ∨ 4503599627370496 ≤ k) : val (e * 4503599627370496 + k) = k * 2 ^ e := by
  unfold val
  by_cases h1 : k < 4503599627370496
  · have : e = 0 := by omega
    subst this
    simp [h1]
  · rw [if_neg (by omega)]
    by_cases h2 : k < 9007199254740992
    · have e1 : (e * 4503599627370496 + k) / 4503599627370496 = e + 1 := by omega
      have e2 : (e * 4503599627370496 + k) % 4503599627370496 = k - 4503599627370496 := by omega
      rw [e1, e2, show 4503599627370496 + (k - 4503599627370496) = k by omega]
      simp
    · have hk : k = 9007199254740992 := by omega
      subst hk
      have e1 : (e * 4503599627370496 + 9007199254740992) / 4503599627370496 = e + 2 := by omega
      have e2 : (e * 4503599627370496 + 9007199254740992) % 4503599627370496 = 0 := by omega
      rw [e1, e2, show e + 2 - 1 = e + 1 by omega, Nat.pow_succ]
      omega

/-- Each rung's binade and digits. -/
theorem parts (r : Nat) : ∃ e k : Nat, r = e * 4503599627370496 + k ∧ k < 9007199254740992 ∧ (e = 0 ∨ 4503599627370496 ≤ k) := by
  by_cases h : r < 9007199254740992
  · exact ⟨0, r, by omega, h, Or.inl rfl⟩
  · exact ⟨r / 4503599627370496 - 1, r - (r / 4503599627370496 - 1) * 4503599627370496, by omega, by omega, by omega⟩

theorem val_lt_succ (r : Nat) : val r < val (r + 1) := by
  obtain ⟨e, k, rfl, hk, he⟩ := parts r
  rw [val_at e k (by omega) he, show e * 4503599627370496 + k + 1 = e * 4503599627370496 + (k + 1) by omega, val_at e (k + 1) (by omega) (by omega)]
  exact Nat.mul_lt_mul_of_pos_right (by omega) (Nat.two_pow_pos e)

theorem val_lt {a b : Nat} (h : a < b) : val a < val b := by
  induction b with
  | zero => omega
  | succ b ih =>
    by_cases hb : a = b
    · subst hb; exact val_lt_succ a
    · exact Nat.lt_trans (ih (by omega)) (val_lt_succ b)

theorem val_le {a b : Nat} (h : a ≤ b) : val a ≤ val b := by
  by_cases e : a = b
  · subst e; exact Nat.le_refl _
  · exact Nat.le_of_lt (val_lt (by omega))

theorem val_lt_iff {a b : Nat} : val a < val b ↔ a < b := by
  constructor
  · intro h
    by_cases hb : a < b
    · exact hb
    · have := val_le (a := b) (b := a) (by omega); omega
  · exact val_lt

theorem val_inj {a b : Nat} (h : val a = val b) : a = b := by
  by_cases h1 : a < b
  · have := val_lt h1; omega
  · by_cases h2 : b < a
    · have := val_lt h2; omega
    · omega

theorem val_small {r : Nat} (h : r ≤ 9007199254740992) : val r = r := by
  have := val_at 0 r h (Or.inl rfl)
  simpa using this

theorem val_zero : val 0 = 0 := val_small (by omega)

/-! The words. -/
def sgn (b : Nat) : Bool := b / 9223372036854775808 % 2 == 1
def rung (b : Nat) : Nat := b % 9223372036854775808
def isNaN (b : Nat) : Bool := decide (9218868437227405312 < rung b)
def isInf (b : Nat) : Bool := rung b == 9218868437227405312
/-- The signed rung. -/
def key (b : Nat) : Int := if sgn b then -(rung b : Int) else rung b
def num (b : Nat) : Int := if sgn b then -(val (rung b) : Int) else val (rung b)
def rank (b : Nat) : Int := if isNaN b then 9223372036854775807 else if sgn b then -(rung b : Int) - 1 else rung b

theorem dbl_sw : double.signWeight = 9223372036854775808 := by decide +kernel
theorem dbl_bin : double.binade = 4503599627370496 := by decide +kernel
theorem dbl_inf : double.infRung = 9218868437227405312 := by decide +kernel
theorem dbl_least : double.leastPlace = -1074 := by decide +kernel
theorem dbl_frac : double.fractionBits = 52 := rfl

/-- What a word stands for. -/
theorem read_eq (b : Nat) : double.read b =
    if rung b < 4503599627370496 then .number (sgn b) (rung b) (-1074)
    else if rung b < 9218868437227405312 then .number (sgn b) (4503599627370496 + rung b % 4503599627370496) (-1074 + (rung b / 4503599627370496 - 1 : Nat))
    else if rung b = 9218868437227405312 then .infinity (sgn b) else .nan (sgn b) (rung b - 9218868437227405312) := by
  unfold Format.read
  rw [dbl_sw, dbl_bin, dbl_inf, dbl_least]
  rfl

/-- A finite word: its digits and place, of value 'val'. -/
theorem read_fin {b : Nat} (h : rung b < 9218868437227405312) : ∃ (m e : Nat), double.read b = .number (sgn b) m (-1074 + (e : Int)) ∧ m * 2 ^ e = val (rung b) ∧ m < 9007199254740992 ∧ (e = 0 ∨ 4503599627370496 ≤ m) ∧ e ≤ 2045 := by
  rw [read_eq]
  by_cases h1 : rung b < 4503599627370496
  · exact ⟨rung b, 0, by simp [h1], by rw [val_small (by omega)]; simp, by omega, Or.inl rfl, by omega⟩
  · refine ⟨4503599627370496 + rung b % 4503599627370496, rung b / 4503599627370496 - 1, ?_, ?_, by omega, by omega, by omega⟩
    · rw [if_neg h1, if_pos h]
    · unfold val; rw [if_neg h1]

theorem read_inf {b : Nat} (h : rung b = 9218868437227405312) : double.read b = .infinity (sgn b) := by
  rw [read_eq, if_neg (by omega), if_neg (by omega), if_pos h]

theorem read_nan {b : Nat} (h : 9218868437227405312 < rung b) : double.read b = .nan (sgn b) (rung b - 9218868437227405312) := by
  rw [read_eq, if_neg (by omega), if_neg (by omega), if_neg (by omega)]

theorem signed_eq (s : Bool) (m k : Nat) : signed s m k = if s then -((m * 2 ^ k : Nat) : Int) else ((m * 2 ^ k : Nat) : Int) := by
  unfold signed; rw [Nat.shiftLeft_eq]

theorem cmp_eq (a b : Int) : compare a b = if a < b then .lt else if a = b then .eq else .gt := rfl

theorem compare_scale (a b : Int) (k : Nat) : compare (a * 2 ^ k) (b * 2 ^ k) = compare a b := by
  have hp : (0 : Int) < 2 ^ k := Int.pow_pos (by omega)
  rw [cmp_eq, cmp_eq]
  have h1 : a * 2 ^ k < b * 2 ^ k ↔ a < b := ⟨fun h => Int.lt_of_mul_lt_mul_right h (Int.le_of_lt hp), fun h => Int.mul_lt_mul_of_pos_right h hp⟩
  have h2 : a * 2 ^ k = b * 2 ^ k ↔ a = b := ⟨fun h => Int.eq_of_mul_eq_mul_right (by omega) h, fun h => by rw [h]⟩
  simp only [h1, h2]

theorem signed_scale (s : Bool) (m a b : Nat) : signed s m (a + b) = signed s m a * 2 ^ b := by
  rw [signed_eq, signed_eq, Nat.pow_add, ← Nat.mul_assoc]
  cases s <;> simp [Int.neg_mul]

/-- The exact value of a number at the least place. -/
theorem signed_num {b m e : Nat} (h : m * 2 ^ e = val (rung b)) : signed (sgn b) m e = num b := by
  rw [signed_eq, h]; rfl

/-- val, of an infinity too. -/
theorem order_fin {x y : Nat} (hx : rung x < 9218868437227405312) (hy : rung y < 9218868437227405312) : double.order x y = some (compare (num x) (num y)) := by
  obtain ⟨m, i, rx, vx, _, _, _⟩ := read_fin hx
  obtain ⟨n, j, ry, vy, _, _, _⟩ := read_fin hy
  unfold Format.order Datum.order
  rw [rx, ry]
  dsimp only
  congr 1
  have e1 : ((-1074 + (i : Int)) - min (-1074 + (i : Int)) (-1074 + (j : Int))).toNat = i - min i j := by omega
  have e2 : ((-1074 + (j : Int)) - min (-1074 + (i : Int)) (-1074 + (j : Int))).toNat = j - min i j := by omega
  rw [e1, e2, ← compare_scale _ _ (min i j), ← signed_scale, ← signed_scale, show i - min i j + min i j = i by omega, show j - min i j + min i j = j by omega, signed_num vx, signed_num vy]

theorem num_lt_inf {x : Nat} (hx : rung x < 9218868437227405312) : -(val 9218868437227405312 : Int) < num x ∧ num x < val 9218868437227405312 := by
  have := val_lt hx
  unfold num
  cases sgn x <;> simp <;> omega

theorem num_inf {x : Nat} (hx : rung x = 9218868437227405312) : num x = if sgn x then -(val 9218868437227405312 : Int) else val 9218868437227405312 := by
  unfold num; rw [hx]

theorem val_inf_pos : 0 < val 9218868437227405312 := by
  have := val_lt (a := 0) (b := 9218868437227405312) (by omega); omega

/-- THE ORDER: of two words that are numbers or infinities: as their values are. -/
theorem order_eq {x y : Nat} (hx : isNaN x = false) (hy : isNaN y = false) : double.order x y = some (compare (num x) (num y)) := by
  have hx' : rung x ≤ 9218868437227405312 := by simpa [isNaN] using hx
  have hy' : rung y ≤ 9218868437227405312 := by simpa [isNaN] using hy
  have hp := val_inf_pos
  by_cases h1 : rung x = 9218868437227405312
  · by_cases h2 : rung y = 9218868437227405312
    · unfold Format.order
      rw [read_inf h1, read_inf h2, num_inf h1, num_inf h2]
      unfold Datum.order
      dsimp only
      cases sgn x <;> cases sgn y <;> simp only [cmp_eq] <;> simp <;> first | (rw [if_pos (by omega)]; rfl) | (rw [if_neg (by omega), if_neg (by omega)]; rfl) | rfl
    · have hf : rung y < 9218868437227405312 := by omega
      have hb := num_lt_inf hf
      obtain ⟨n, j, ry, -⟩ := read_fin hf
      unfold Format.order
      rw [read_inf h1, ry, num_inf h1]
      unfold Datum.order
      dsimp only
      rw [cmp_eq]
      cases sgn x
      · simp only [Bool.false_eq_true, if_false]; rw [if_neg (by omega), if_neg (by omega)]
      · simp only [if_true]; rw [if_pos (by omega)]
  · have hf : rung x < 9218868437227405312 := by omega
    by_cases h2 : rung y = 9218868437227405312
    · have hb := num_lt_inf hf
      obtain ⟨n, j, rx, -⟩ := read_fin hf
      unfold Format.order
      rw [read_inf h2, rx, num_inf h2]
      unfold Datum.order
      dsimp only
      rw [cmp_eq]
      cases sgn y
      · simp only [Bool.false_eq_true, if_false]; rw [if_pos (by omega)]
      · simp only [if_true]; rw [if_neg (by omega), if_neg (by omega)]
    · exact order_fin hf (by omega)

theorem order_nan_l {x y : Nat} (hx : isNaN x = true) : double.order x y = none := by
  have hx' : 9218868437227405312 < rung x := by simpa [isNaN] using hx
  unfold Format.order
  rw [read_nan hx']
  rfl

theorem order_nan_r {x y : Nat} (hy : isNaN y = true) : double.order x y = none := by
  have hy' : 9218868437227405312 < rung y := by simpa [isNaN] using hy
  unfold Format.order
  rw [read_nan hy']
  unfold Datum.order
  split <;> simp_all

theorem num_lt_iff {x y : Nat} : num x < num y ↔ key x < key y := by
  have h1 := @val_lt_iff (rung x) (rung y)
  have h2 := @val_lt_iff (rung y) (rung x)
  have h3 : (val (rung x) = 0) ↔ rung x = 0 := ⟨fun h => val_inj (by rw [h, val_zero]), fun h => by rw [h, val_zero]⟩
  have h4 : (val (rung y) = 0) ↔ rung y = 0 := ⟨fun h => val_inj (by rw [h, val_zero]), fun h => by rw [h, val_zero]⟩
  unfold num key
  cases sgn x <;> cases sgn y <;> simp <;> omega

theorem num_eq_iff {x y : Nat} : num x = num y ↔ key x = key y := by
  have h1 := @num_lt_iff x y
  have h2 := @num_lt_iff y x
  omega

/-- THE ORDER, by signed rungs. -/
theorem order_key {x y : Nat} (hx : isNaN x = false) (hy : isNaN y = false) : double.order x y = some (compare (key x) (key y)) := by
  rw [order_eq hx hy, cmp_eq, cmp_eq]
  simp only [num_lt_iff, num_eq_iff]

/-- The six comparisons, as plain Bools. -/
theorem lt_eq (x y : Nat) : (double.order x y == some .lt) = (!isNaN x && !isNaN y && decide (key x < key y)) := by
  cases hx : isNaN x
  · cases hy : isNaN y
    · rw [order_key hx hy, cmp_eq]
      by_cases h : key x < key y
      · simp [h]
      · by_cases h' : key x = key y <;> simp [h, h']
    · rw [order_nan_r hy]; simp
  · rw [order_nan_l hx]; simp

theorem gt_eq (x y : Nat) : (double.order x y == some .gt) = (!isNaN x && !isNaN y && decide (key y < key x)) := by
  cases hx : isNaN x
  · cases hy : isNaN y
    · rw [order_key hx hy, cmp_eq]
      by_cases h : key x < key y
      · have : ¬ key y < key x := by omega
        simp [h, this]
      · by_cases h' : key x = key y
        · simp [h']
        · have : key y < key x := by omega
          simp [h, h', this]
    · rw [order_nan_r hy]; simp
  · rw [order_nan_l hx]; simp

theorem eq_eq (x y : Nat) : (double.order x y == some .eq) = (!isNaN x && !isNaN y && decide (key x = key y)) := by
  cases hx : isNaN x
  · cases hy : isNaN y
    · rw [order_key hx hy, cmp_eq]
      by_cases h : key x < key y
      · have : ¬ key x = key y := by omega
        simp [h, this]
      · by_cases h' : key x = key y <;> simp [h, h']
    · rw [order_nan_r hy]; simp
  · rw [order_nan_l hx]; simp

theorem ne_eq (x y : Nat) : (double.order x y != some .eq) = !(!isNaN x && !isNaN y && decide (key x = key y)) := by
  rw [bne, eq_eq]

/-! ### Rounding. -/
/-- 'm / 2 ^ d' as a whole number, to the nearest, between two the even one. -/
def rnd (m d : Nat) : Nat := m / 2 ^ d + (if 2 ^ d < 2 * (m % 2 ^ d) ∨ (2 ^ d = 2 * (m % 2 ^ d) ∧ m / 2 ^ d % 2 = 1) then 1 else 0)

theorem rnd_big {m d : Nat} (h : 2 * m < 2 ^ d) : rnd m d = 0 := by
  have h1 : m / 2 ^ d = 0 := Nat.div_eq_of_lt (by omega)
  have h2 : m % 2 ^ d = m := Nat.mod_eq_of_lt (by omega)
  unfold rnd
  rw [h1, h2, if_neg (by omega)]

theorem lt_two_log {m : Nat} : m < 2 ^ (m.log2 + 1) := Nat.lt_log2_self

theorem cut_eq (neg : Bool) (m d : Nat) : Toward.even.cut neg m d = rnd m d := by
  have key : ∀ d', Nat.add (m / 2 ^ d') (Bool.toNat (decide (2 ^ d' < 2 * (m % 2 ^ d')) || (2 ^ d' == 2 * (m % 2 ^ d') && m / 2 ^ d' % 2 == 1))) = rnd m d' := by
    intro d'
    unfold rnd
    by_cases h1 : 2 ^ d' < 2 * (m % 2 ^ d')
    · simp [h1]
    · by_cases h2 : 2 ^ d' = 2 * (m % 2 ^ d') ∧ m / 2 ^ d' % 2 = 1
      · rw [if_pos (Or.inr h2)]; simp [h2.2, ← h2.1]
      · rw [if_neg (by rintro (h | h); exact h1 h; exact h2 h)]
        have : (2 ^ d' == 2 * (m % 2 ^ d') && m / 2 ^ d' % 2 == 1) = false := by
          rw [Bool.and_eq_false_iff]
          by_cases h3 : 2 ^ d' = 2 * (m % 2 ^ d')
          · right; simp; omega
          · left; simpa using h3
        simp [h1, this]
  unfold Toward.cut
  dsimp only
  rw [Nat.one_shiftLeft]
  refine (key _).trans ?_
  by_cases h : d ≤ m.log2 + 2
  · rw [Nat.min_eq_left h]
  · have hl := @lt_two_log m
    have h3 : 2 ^ (m.log2 + 1) * 2 = 2 ^ (m.log2 + 2) := (Nat.pow_succ ..).symm
    rw [Nat.min_eq_right (by omega), rnd_big (by omega), rnd_big]
    have : 2 ^ (m.log2 + 2) ≤ 2 ^ d := Nat.pow_le_pow_right (by omega) (by omega)
    omega

theorem rnd_scale (m d j : Nat) : rnd (m * 2 ^ j) (d + j) = rnd m d := by
  have hj := Nat.two_pow_pos j
  unfold rnd
  rw [Nat.pow_add, Nat.mul_div_mul_right _ _ hj, Nat.mul_mod_mul_right, ← Nat.mul_assoc]
  simp only [Nat.mul_lt_mul_right hj, Nat.mul_right_cancel_iff hj]

theorem rnd_zero (m : Nat) : rnd m 0 = m := by simp [rnd, Nat.mod_one]

theorem rnd_exact (m d : Nat) : rnd (m * 2 ^ d) d = m := by
  have := rnd_scale m 0 d
  rw [Nat.zero_add, rnd_zero] at this
  exact this

/-- The rung nearest to 'mag * 2 ^ place'. -/
def near (mag : Nat) (place : Int) : Nat :=
  if mag = 0 then 0 else
  min ((max (place + mag.log2 - 52) (-1074) - (-1074)).toNat * 4503599627370496 + rnd (mag <<< (place - max (place + mag.log2 - 52) (-1074)).toNat) ((max (place + mag.log2 - 52) (-1074)) - place).toNat) 9218868437227405312

theorem nearest_eq (neg : Bool) (mag : Nat) (place : Int) : double.nearest neg mag place = double.word neg (near mag place) := by
  unfold Format.nearest near
  by_cases h : mag = 0
  · simp [h]
  · rw [if_neg h, if_neg h, dbl_least, dbl_inf, dbl_bin]
    simp only [cut_eq]
    rfl

theorem log2_scale (m j : Nat) (h : m ≠ 0) : (m * 2 ^ j).log2 = m.log2 + j := by
  rw [Nat.log2_eq_iff (by have := Nat.two_pow_pos j; exact Nat.mul_ne_zero h (by omega))]
  have h1 := Nat.log2_self_le h
  have h2 := @lt_two_log m
  have hj := Nat.two_pow_pos j
  constructor
  · rw [Nat.pow_add]; exact Nat.mul_le_mul_right _ h1
  · rw [show m.log2 + j + 1 = (m.log2 + 1) + j by omega, Nat.pow_add]; exact Nat.mul_lt_mul_of_pos_right h2 hj

theorem near_scale (m j : Nat) (p : Int) : near (m * 2 ^ j) (p - j) = near m p := by
  unfold near
  by_cases h : m = 0
  · simp [h]
  · have hj := Nat.two_pow_pos j
    rw [if_neg h, if_neg (Nat.mul_ne_zero h (by omega)), log2_scale m j h]
    have e1 : p - (j : Int) + ((m.log2 + j : Nat) : Int) - 52 = p + (m.log2 : Int) - 52 := by omega
    rw [e1]
    generalize max (p + (m.log2 : Int) - 52) (-1074) = L
    congr 2
    simp only [Nat.shiftLeft_eq]
    by_cases h1 : L ≤ p
    · have d1 : (L - p).toNat = 0 := by omega
      rw [d1, rnd_zero]
      by_cases h2 : L ≤ p - j
      · have d2 : (L - (p - j)).toNat = 0 := by omega
        rw [d2, rnd_zero, Nat.mul_assoc, ← Nat.pow_add]
        congr 2; omega
      · have d2 : (p - j - L).toNat = 0 := by omega
        have d3 : j = (p - L).toNat + (L - (p - j)).toNat := by omega
        rw [d2, Nat.pow_zero, Nat.mul_one]
        conv => lhs; rw [show 2 ^ j = 2 ^ ((p - L).toNat + (L - (p - j)).toNat) by rw [← d3]]
        rw [Nat.pow_add, ← Nat.mul_assoc, rnd_exact]
    · have d1 : (p - L).toNat = 0 := by omega
      have d2 : (p - j - L).toNat = 0 := by omega
      have d3 : (L - (p - j)).toNat = (L - p).toNat + j := by omega
      rw [d1, d2, d3, Nat.pow_zero, Nat.mul_one, Nat.mul_one, rnd_scale]

/-- The rung nearest to 'm / 2 ^ k' units of the least place. -/
def rd (m k : Nat) : Nat := near m (-1074 - k)

theorem near_rd (m e k : Nat) : near m (-1074 + e - k) = rd (m * 2 ^ e) k := by
  have := near_scale m e (-1074 + e - k)
  rw [← this]
  unfold rd
  congr 1
  omega

theorem rd_scale (m j k : Nat) : rd (m * 2 ^ j) (k + j) = rd m k := by
  unfold rd
  rw [← near_scale m j]
  congr 1
  omega

theorem rd_zero (k : Nat) : rd 0 k = 0 := by simp [rd, near]

/-- What makes r the rung nearest to 'm / 2 ^ k'. -/
def Nearest (r m k : Nat) : Prop :=
  (r = 0 ∨ (val (r - 1) + val r) * 2 ^ k < 2 * m ∨ ((val (r - 1) + val r) * 2 ^ k = 2 * m ∧ r % 2 = 0)) ∧
  (2 * m < (val r + val (r + 1)) * 2 ^ k ∨ (2 * m = (val r + val (r + 1)) * 2 ^ k ∧ r % 2 = 0))

theorem nearest_unique {r s m k : Nat} (hr : Nearest r m k) (hs : Nearest s m k) : r = s := by
  have main : ∀ {r s : Nat}, Nearest r m k → Nearest s m k → ¬ r < s := by
    intro r s hr hs hlt
    have hp := Nat.two_pow_pos k
    have h1 : (val r + val (r + 1)) * 2 ^ k ≤ (val (s - 1) + val s) * 2 ^ k := Nat.mul_le_mul_right _ (by
      have a := val_le (a := r) (b := s - 1) (by omega)
      have b := val_le (a := r + 1) (b := s) (by omega)
      omega)
    obtain ⟨-, hr⟩ := hr
    obtain ⟨hs, -⟩ := hs
    have he : (val r + val (r + 1)) * 2 ^ k = (val (s - 1) + val s) * 2 ^ k := by omega
    have he' := Nat.eq_of_mul_eq_mul_right hp he
    have a := val_le (a := r) (b := s - 1) (by omega)
    have b := val_le (a := r + 1) (b := s) (by omega)
    have : s = r + 1 := (val_inj (by omega)).symm
    omega
  have h1 := main hr hs
  have h2 := main hs hr
  omega

/-- 'rnd' is to the nearest. -/
theorem rnd_spec (m d : Nat) : (rnd m d = 0 ∨ (2 * rnd m d - 1) * 2 ^ d < 2 * m ∨ ((2 * rnd m d - 1) * 2 ^ d = 2 * m ∧ rnd m d % 2 = 0)) ∧ (2 * m < (2 * rnd m d + 1) * 2 ^ d ∨ (2 * m = (2 * rnd m d + 1) * 2 ^ d ∧ rnd m d % 2 = 0)) := by
  have hd := Nat.two_pow_pos d
  have hm := Nat.div_add_mod m (2 ^ d)
  have hl := Nat.mod_lt m hd
  unfold rnd
  generalize hq : m / 2 ^ d = q at *
  generalize ht : m % 2 ^ d = t at *
  generalize 2 ^ d = g at *
  have e1 : (2 * q + 1) * g = 2 * (g * q) + g := by rw [Nat.add_mul, Nat.one_mul, Nat.mul_assoc, Nat.mul_comm q g]
  by_cases hc : g < 2 * t ∨ g = 2 * t ∧ q % 2 = 1
  · rw [if_pos hc]
    have e2 : (2 * (q + 1) - 1) * g = 2 * (g * q) + g := by rw [show 2 * (q + 1) - 1 = 2 * q + 1 by omega]; exact e1
    have e3 : (2 * (q + 1) + 1) * g = 2 * (g * q) + 3 * g := by rw [show 2 * (q + 1) + 1 = 2 * q + 3 by omega, Nat.add_mul, Nat.mul_assoc, Nat.mul_comm q g]
    rw [e2, e3]
    constructor
    · rcases hc with h | ⟨h, h'⟩
      · right; left; omega
      · right; right; omega
    · left; omega
  · rw [if_neg hc, Nat.add_zero, e1]
    constructor
    · by_cases hz : q = 0
      · left; exact hz
      · right; left
        have e4 : (2 * q - 1) * g = 2 * (g * q) - g := by rw [Nat.sub_mul, Nat.one_mul, Nat.mul_assoc, Nat.mul_comm q g]
        rw [e4]
        have : g ≤ g * q := Nat.le_mul_of_pos_right g (by omega)
        omega
    · by_cases h : g = 2 * t
      · right; omega
      · left; omega

theorem rnd_range {m d : Nat} : m < 2 ^ (53 + d) → rnd m d ≤ 9007199254740992 := by
  intro h
  have hd := Nat.two_pow_pos d
  have : m / 2 ^ d < 2 ^ 53 := by rw [Nat.div_lt_iff_lt_mul hd, ← Nat.pow_add]; exact h
  unfold rnd
  split <;> omega

theorem rnd_low {m d : Nat} : 2 ^ (52 + d) ≤ m → 4503599627370496 ≤ rnd m d := by
  intro h
  have hd := Nat.two_pow_pos d
  have : 2 ^ 52 ≤ m / 2 ^ d := by rw [Nat.le_div_iff_mul_le hd, ← Nat.pow_add]; exact h
  unfold rnd
  omega

theorem pow52 : (2 : Nat) ^ 52 = 4503599627370496 := by simp
theorem pow53 : (2 : Nat) ^ 53 = 9007199254740992 := by simp

theorem rd_form {m k : Nat} (h : m ≠ 0) : rd m k = min ((m.log2 - (k + 52)) * 4503599627370496 + rnd m (m.log2 - (k + 52) + k)) 9218868437227405312 := by
  unfold rd near
  rw [if_neg h]
  generalize m.log2 = L
  obtain ⟨e, he⟩ : ∃ e, e = L - (k + 52) := ⟨_, rfl⟩
  rw [← he]
  have d1 : max (-1074 - (k : Int) + (L : Int) - 52) (-1074) = -1074 + (e : Int) := by omega
  rw [d1]
  have d2 : (-1074 + (e : Int) - -1074).toNat = e := by omega
  have d3 : (-1074 - (k : Int) - (-1074 + (e : Int))).toNat = 0 := by omega
  have d4 : (-1074 + (e : Int) - (-1074 - (k : Int))).toNat = e + k := by omega
  rw [d2, d3, d4, Nat.shiftLeft_zero]

theorem near_low {e c m k : Nat} (hhi : c ≤ 9007199254740992) (hlo : e = 0 ∨ 4503599627370496 ≤ c) (hm0 : e = 0 ∨ 4503599627370496 * 2 ^ (e + k) ≤ m)
    (hs : c = 0 ∨ (2 * c - 1) * 2 ^ (e + k) < 2 * m ∨ ((2 * c - 1) * 2 ^ (e + k) = 2 * m ∧ c % 2 = 0)) :
    let r := e * 4503599627370496 + c
    (r = 0 ∨ (val (r - 1) + val r) * 2 ^ k < 2 * m ∨ ((val (r - 1) + val r) * 2 ^ k = 2 * m ∧ r % 2 = 0)) := by
  intro r
  have parity : r % 2 = c % 2 := by omega
  have v0 : val r = c * 2 ^ e := val_at e c hhi hlo
  by_cases hr0 : r = 0
  · exact Or.inl hr0
  · right
    rw [parity, v0]
    by_cases hb : c = 4503599627370496 ∧ 0 < e
    · obtain ⟨hc, hep⟩ := hb
      left
      have v1 : val (r - 1) < c * 2 ^ e := by rw [← v0]; exact val_lt (by omega)
      have hm2 : 4503599627370496 * 2 ^ (e + k) ≤ m := by omega
      have h3 : (val (r - 1) + c * 2 ^ e) * 2 ^ k < (c * 2 ^ e + c * 2 ^ e) * 2 ^ k := Nat.mul_lt_mul_of_pos_right (by omega) (Nat.two_pow_pos k)
      have e5 : (c * 2 ^ e + c * 2 ^ e) * 2 ^ k = 2 * (c * 2 ^ (e + k)) := by
        rw [← Nat.two_mul, Nat.mul_assoc, Nat.mul_assoc, Nat.pow_add]
      rw [e5] at h3
      rw [← hc] at hm2
      omega
    · have hc0 : c ≠ 0 := by omega
      have v1 := val_at e (c - 1) (by omega) (by omega)
      rw [show r - 1 = e * 4503599627370496 + (c - 1) by omega, v1]
      have e5 : ((c - 1) * 2 ^ e + c * 2 ^ e) * 2 ^ k = (2 * c - 1) * 2 ^ (e + k) := by
        rw [← Nat.add_mul, Nat.mul_assoc, ← Nat.pow_add, show c - 1 + c = 2 * c - 1 by omega]
      rw [e5]
      rcases hs with h1 | h1
      · exact absurd h1 hc0
      · exact h1

theorem near_high {e c m k : Nat} (hhi : c ≤ 9007199254740992) (hlo : e = 0 ∨ 4503599627370496 ≤ c) (hm1 : m < 9007199254740992 * 2 ^ (e + k))
    (hs : 2 * m < (2 * c + 1) * 2 ^ (e + k) ∨ (2 * m = (2 * c + 1) * 2 ^ (e + k) ∧ c % 2 = 0)) :
    let r := e * 4503599627370496 + c
    (2 * m < (val r + val (r + 1)) * 2 ^ k ∨ (2 * m = (val r + val (r + 1)) * 2 ^ k ∧ r % 2 = 0)) := by
  intro r
  have parity : r % 2 = c % 2 := by omega
  have v0 : val r = c * 2 ^ e := val_at e c hhi hlo
  rw [parity, v0]
  by_cases hb : c = 9007199254740992
  · left
    have v1 : c * 2 ^ e < val (r + 1) := by rw [← v0]; exact val_lt_succ r
    have h3 : (c * 2 ^ e + c * 2 ^ e) * 2 ^ k < (c * 2 ^ e + val (r + 1)) * 2 ^ k := Nat.mul_lt_mul_of_pos_right (by omega) (Nat.two_pow_pos k)
    have e5 : (c * 2 ^ e + c * 2 ^ e) * 2 ^ k = 2 * (c * 2 ^ (e + k)) := by
      rw [← Nat.two_mul, Nat.mul_assoc, Nat.mul_assoc, Nat.pow_add]
    rw [e5] at h3
    rw [← hb] at hm1
    omega
  · have v1 := val_at e (c + 1) (by omega) (by omega)
    rw [show r + 1 = e * 4503599627370496 + (c + 1) by omega, v1]
    have e5 : (c * 2 ^ e + (c + 1) * 2 ^ e) * 2 ^ k = (2 * c + 1) * 2 ^ (e + k) := by
      rw [← Nat.add_mul, Nat.mul_assoc, ← Nat.pow_add, show c + (c + 1) = 2 * c + 1 by omega]
    rw [e5]
    exact hs

/-- The rung that rounding finds is the nearest one. -/
theorem rd_nearest (m k : Nat) : ∃ r, Nearest r m k ∧ rd m k = min r 9218868437227405312 := by
  by_cases h : m = 0
  · subst h
    refine ⟨0, ⟨Or.inl rfl, Or.inl ?_⟩, by rw [rd_zero, Nat.zero_min]⟩
    have : val 1 = 1 := val_small (by omega)
    rw [Nat.zero_add, val_zero, this]
    have := Nat.two_pow_pos k
    omega
  · have hl1 := Nat.log2_self_le h
    have hl2 := @lt_two_log m
    rw [rd_form h]
    generalize m.log2 = L at hl1 hl2
    obtain ⟨e, he⟩ : ∃ e, e = L - (k + 52) := ⟨_, rfl⟩
    rw [← he]
    refine ⟨e * 4503599627370496 + rnd m (e + k), ?_, rfl⟩
    have hspec := rnd_spec m (e + k)
    have hhi : rnd m (e + k) ≤ 9007199254740992 := rnd_range (Nat.lt_of_lt_of_le hl2 (Nat.pow_le_pow_right (by omega) (by omega)))
    have hlo : e = 0 ∨ 4503599627370496 ≤ rnd m (e + k) := by
      by_cases h0 : e = 0
      · exact Or.inl h0
      · right; exact rnd_low (Nat.le_trans (Nat.pow_le_pow_right (by omega) (by omega)) hl1)
    have hm0 : e = 0 ∨ 4503599627370496 * 2 ^ (e + k) ≤ m := by
      by_cases h0 : e = 0
      · exact Or.inl h0
      · right
        rw [← pow52, ← Nat.pow_add]
        exact Nat.le_trans (Nat.pow_le_pow_right (by omega) (by omega)) hl1
    have hm1 : m < 9007199254740992 * 2 ^ (e + k) := by
      rw [← pow53, ← Nat.pow_add]
      exact Nat.lt_of_lt_of_le hl2 (Nat.pow_le_pow_right (by omega) (by omega))
    exact ⟨near_low hhi hlo hm0 hspec.1, near_high hhi hlo hm1 hspec.2⟩

theorem rd_of_nearest {r m k : Nat} (h : Nearest r m k) : rd m k = min r 9218868437227405312 := by
  obtain ⟨s, hs, e⟩ := rd_nearest m k
  rw [e, nearest_unique hs h]

/-- A value that a rung has is that rung. -/
theorem nearest_exact (r k : Nat) : Nearest r (val r * 2 ^ k) k := by
  have hp := Nat.two_pow_pos k
  constructor
  · by_cases h : r = 0
    · exact Or.inl h
    · right; left
      have := val_lt (a := r - 1) (b := r) (by omega)
      have : (val (r - 1) + val r) * 2 ^ k < (2 * val r) * 2 ^ k := Nat.mul_lt_mul_of_pos_right (by omega) hp
      rw [Nat.mul_assoc] at this
      exact this
  · left
    have := val_lt_succ r
    have : (2 * val r) * 2 ^ k < (val r + val (r + 1)) * 2 ^ k := Nat.mul_lt_mul_of_pos_right (by omega) hp
    rw [Nat.mul_assoc] at this
    exact this

theorem rd_exact {r : Nat} (k : Nat) (h : r ≤ 9218868437227405312) : rd (val r * 2 ^ k) k = r := by
  rw [rd_of_nearest (nearest_exact r k)]
  omega

theorem rd_exact0 {r : Nat} (h : r ≤ 9218868437227405312) : rd (val r) 0 = r := by
  have := rd_exact (r := r) 0 h
  simpa using this

theorem rd_le_inf (m k : Nat) : rd m k ≤ 9218868437227405312 := by
  obtain ⟨r, -, e⟩ := rd_nearest m k
  omega

/-- Rounding keeps the order. -/
theorem nearest_mono {r s m n k : Nat} (hr : Nearest r m k) (hs : Nearest s n k) (h : m ≤ n) : r ≤ s := by
  by_cases hlt : s < r
  · exfalso
    have hp := Nat.two_pow_pos k
    have h1 : (val s + val (s + 1)) * 2 ^ k ≤ (val (r - 1) + val r) * 2 ^ k := Nat.mul_le_mul_right _ (by
      have a := val_le (a := s) (b := r - 1) (by omega)
      have b := val_le (a := s + 1) (b := r) (by omega)
      omega)
    obtain ⟨hr1, -⟩ := hr
    obtain ⟨-, hs2⟩ := hs
    have he : (val s + val (s + 1)) * 2 ^ k = (val (r - 1) + val r) * 2 ^ k := by omega
    have he' := Nat.eq_of_mul_eq_mul_right hp he
    have a := val_le (a := s) (b := r - 1) (by omega)
    have b := val_le (a := s + 1) (b := r) (by omega)
    have : r = s + 1 := (val_inj (by omega)).symm
    omega
  · omega

theorem rd_mono {m n k : Nat} (h : m ≤ n) : rd m k ≤ rd n k := by
  obtain ⟨r, hr, e1⟩ := rd_nearest m k
  obtain ⟨s, hs, e2⟩ := rd_nearest n k
  have := nearest_mono hr hs h
  omega

theorem rd_mono2 {m n k l : Nat} (h : m * 2 ^ l ≤ n * 2 ^ k) : rd m k ≤ rd n l := by
  rw [← rd_scale m l k, ← rd_scale n k l, Nat.add_comm l k]
  exact rd_mono h

/-! ### Halving. -/
def hr (r : Nat) : Nat := if 9007199254740992 ≤ r then r - 4503599627370496 else r / 2 + (if r % 4 = 3 then 1 else 0)

theorem rd_half {r : Nat} (h : r ≤ 9218868437227405312) : rd (val r) 1 = hr r := by
  unfold hr
  by_cases hb : 9007199254740992 ≤ r
  · rw [if_pos hb]
    obtain ⟨e, c, rfl, hc, he⟩ := parts r
    have hep : 0 < e := by omega
    have : val (e * 4503599627370496 + c) = val (e * 4503599627370496 + c - 4503599627370496) * 2 ^ 1 := by
      rw [val_at e c (by omega) he, show e * 4503599627370496 + c - 4503599627370496 = (e - 1) * 4503599627370496 + c by omega, val_at (e - 1) c (by omega) (by omega), Nat.mul_assoc, ← Nat.pow_add, show e - 1 + 1 = e by omega]
    rw [this]
    exact rd_exact 1 (by omega)
  · rw [if_neg hb, val_small (by omega)]
    have hn : Nearest (r / 2 + (if r % 4 = 3 then 1 else 0)) r 1 := by
      unfold Nearest
      generalize hs : r / 2 + (if r % 4 = 3 then 1 else 0) = s
      have hs1 : s ≤ 4503599627370496 := by split at hs <;> omega
      rw [val_small (r := s) (by omega), val_small (r := s + 1) (by omega), val_small (r := s - 1) (by omega)]
      split at hs <;> omega
    rw [rd_of_nearest hn]
    split <;> omega

end FP
