/- Plain facts: the ways through the reference's order. -/
import Derived.Test.YtdjilhahafkpfaaFpc
namespace FP
open Ieee

theorem key_zero_word : key 0 = 0 := by decide +kernel
theorem nan_zero : isNaN 0 = false := by decide +kernel

theorem ord_zero (a : Nat) : (double.order a 0 == some .eq) = (!isNaN a && decide (key a = 0)) := by
  rw [eq_eq, nan_zero, key_zero_word]; simp

theorem lr1 {a b : Nat} (h : (double.order a a != some .eq) = true) : false = ltB a b := by
  rw [ordne_self] at h
  rw [← lessRef_eq]; simp [lessRef, h]
theorem lr2 {a b : Nat} (h : (double.order a a != some .eq) = false) (h' : (double.order b b != some .eq) = true) : true = ltB a b := by
  rw [ordne_self] at h h'
  rw [← lessRef_eq]; simp [lessRef, h, h']
theorem lr3 {a b : Nat} (h : (double.order a a != some .eq) = false) (h' : (double.order b b != some .eq) = false) (ha : double.order a 0 = some .eq) (hb : (double.order b 0 == some .eq) = true) :
    (sgn a && !sgn b) = ltB a b := by
  rw [ordne_self] at h h'
  have ha' : (double.order a 0 == some .eq) = true := by rw [ha]; rfl
  rw [ord_zero] at ha' hb
  simp [h, h'] at ha' hb
  rw [← lessRef_eq]; simp [lessRef, h, h', ha', hb]
theorem lr4 {a b : Nat} (h : (double.order a a != some .eq) = false) (h' : (double.order b b != some .eq) = false) (hb : (double.order b 0 == some .eq) = false) :
    (double.order a b == some .lt) = ltB a b := by
  rw [ordne_self] at h h'
  rw [ord_zero] at hb
  simp [h'] at hb
  rw [← lessRef_eq, lt_eq]; simp [lessRef, h, h', hb]
theorem lr5 {a b : Nat} (h : (double.order a a != some .eq) = false) (h' : (double.order b b != some .eq) = false) (ha : ¬ double.order a 0 = some .eq) :
    (double.order a b == some .lt) = ltB a b := by
  rw [ordne_self] at h h'
  have ha' : (double.order a 0 == some .eq) = false := by simpa using ha
  rw [ord_zero] at ha'
  simp [h] at ha'
  rw [← lessRef_eq, lt_eq]; simp [lessRef, h, h', ha']
theorem sgn_and {a b : Nat} {v : Bool} (h : sgn a = true) (hv : (sgn a && !sgn b) = v) : (!sgn b) = v := by rw [← hv, h]; simp
theorem sgn_and' {a b : Nat} {v : Bool} (h : sgn a = false) (hv : (sgn a && !sgn b) = v) : false = v := by rw [← hv, h]; simp
theorem xor_top {b : Nat} (h : b < 18446744073709551616) : b ^^^ 2 ^ 63 = if !sgn b then 9223372036854775808 + rung b else rung b := by
  have hb : b = b / 9223372036854775808 * 9223372036854775808 + b % 9223372036854775808 := by omega
  have hr : b % 9223372036854775808 < 2 ^ 63 := by omega
  by_cases hs : 9223372036854775808 ≤ b
  · rw [sgn_true hs h]
    have e1 : b = 2 ^ 63 * 1 + rung b := by unfold rung; omega
    have e2 := Nat.two_pow_add_eq_or_of_lt (i := 63) (b := rung b) (rung_lt b) 1
    simp only [Bool.not_true, Bool.false_eq_true, if_false]
    have e3 : b = 2 ^ 63 * 1 ||| rung b := e1.trans e2
    have hl := rung_lt b
    generalize rung b = c at e3 hl
    subst e3
    apply Nat.eq_of_testBit_eq
    intro i
    have hb' : ∀ i, 63 ≤ i → c.testBit i = false := fun i hi => Nat.testBit_lt_two_pow (Nat.lt_of_lt_of_le (show c < 2 ^ 63 from hl) (Nat.pow_le_pow_right (Nat.succ_pos 1) hi))
    rw [Nat.mul_one, Nat.testBit_xor, Nat.testBit_or, Nat.testBit_two_pow]
    by_cases hi : 63 = i
    · simp [← hi, hb' 63 (by omega)]
    · simp [hi]
  · rw [sgn_false (by omega)]
    have e1 : rung b = b := rung_pos (by omega)
    simp only [Bool.not_false, if_true]
    rw [e1]
    have e2 := Nat.two_pow_add_eq_or_of_lt (i := 63) (b := b) (by omega) 1
    rw [Nat.mul_one] at e2
    rw [show (9223372036854775808 : Nat) = 2 ^ 63 by decide, e2]
    apply Nat.eq_of_testBit_eq
    intro i
    have hb' : ∀ i, 63 ≤ i → b.testBit i = false := fun i hi => Nat.testBit_lt_two_pow (Nat.lt_of_lt_of_le (show b < 2 ^ 63 by omega) (Nat.pow_le_pow_right (by omega) hi))
    rw [Nat.testBit_xor, Nat.testBit_or, Nat.testBit_two_pow]
    by_cases hi : 63 = i
    · simp [← hi, hb' 63 (by omega)]
    · simp [hi]
theorem gt_max (a : Nat) : (double.order a 9218868437227405311 == some .gt) = (!sgn a && isInf a) := by
  rw [gt_eq, show isNaN 9218868437227405311 = false by decide +kernel, show key 9218868437227405311 = 9218868437227405311 by decide +kernel]
  unfold isNaN isInf key
  rw [Bool.eq_iff_iff]
  cases sgn a <;> simp <;> omega
theorem ofRank_a {r : Int} (h : 9218868437227405312 < r) : 9221120237041090561 = ofRank r := by unfold ofRank; rw [if_pos h]
theorem ofRank_b {r : Int} (h : r < -9218868437227405313) : 18442240474082181120 = ofRank r := by unfold ofRank; rw [if_neg (by omega), if_pos h]
theorem ofRank_c {r : Int} (h : -9218868437227405313 ≤ r) (h' : r < 0) : (-(r + 1) + 9223372036854775808).toNat = ofRank r := by
  unfold ofRank; rw [if_neg (by omega), if_neg (by omega), if_pos h']; omega
theorem ofRank_d {r : Int} (h : r ≤ 9218868437227405312) (h' : 0 ≤ r) : r.toNat = ofRank r := by
  unfold ofRank; rw [if_neg (by omega), if_neg (by omega), if_neg (by omega)]
theorem clamp1 {x lo hi : Nat} (h : ltB x lo = true) : lo = clampB x lo hi := by simp [clampB, h]
theorem clamp2 {x lo hi : Nat} (h : ltB hi lo = true) : lo = clampB x lo hi := by simp [clampB, h]
theorem clamp3 {x lo hi : Nat} (h : ¬ ltB x lo = true) (h2 : ltB hi lo = false) (h3 : ltB hi x = true) : hi = clampB x lo hi := by simp [clampB, h, h2, h3]
theorem clamp4 {x lo hi : Nat} (h : ¬ ltB x lo = true) (h2 : ltB hi lo = false) (h3 : ltB hi x = false) : x = clampB x lo hi := by simp [clampB, h, h2, h3]
theorem half_a {b : Nat} (h : isInf b = true) : b = halfB b := by
  have : rung b = 9218868437227405312 := by simpa [isInf] using h
  unfold halfB; rw [if_neg (by omega)]
theorem half_d {b : Nat} (h : ¬ double.order b b = some .eq) : b = halfB b := by
  have h' : (double.order b b != some .eq) = true := by simpa using h
  rw [ordne_self] at h'
  rw [halfB_nan h']
theorem fin_of {b : Nat} (h : double.order b b = some .eq) (h2 : isInf b = false) : rung b < 9218868437227405312 := by
  have h' : (double.order b b != some .eq) = false := by simp [h]
  rw [ordne_self] at h'
  have := rung_num h'
  have h3 : rung b ≠ 9218868437227405312 := by simpa [isInf] using h2
  omega
theorem top_part {b : Nat} (h : b < 18446744073709551616) : (b : Int) / 9223372036854775808 * 9223372036854775808 = if sgn b then 9223372036854775808 else 0 := by
  by_cases hs : 9223372036854775808 ≤ b
  · rw [sgn_true hs h]; simp; omega
  · rw [sgn_false (by omega)]; simp; omega
theorem half_stop {c : Nat} (hc : c < 18446744073709551616) (h : double.order (halfB c) c = some .eq) : halfB c = c := by
  have h' : (double.order (halfB c) c == some .eq) = true := by rw [h]; rfl
  rw [eq_eq] at h'
  have h2 := h'
  simp at h2
  exact halfB_key hc h2.2
theorem fade_step {c : Nat} {m : Int} (h : 0 < m) : fadeB (m - 1).toNat (halfB c) = fadeB m.toNat c := by
  have : m.toNat = (m - 1).toNat + 1 := by omega
  rw [this]; rfl
theorem fade_end {c : Nat} {m : Int} (h : m ≤ 0) : c = fadeB m.toNat c := by
  have : m.toNat = 0 := by omega
  rw [this]; rfl
theorem rung_fade_succ {b : Nat} (h : rung b < 9218868437227405312) : rung (halfB b) = hr (rung b) := by rw [rung_halfB, if_pos h]
theorem fade_norm : ∀ (j b : Nat), rung b < 9218868437227405312 → rung b < (j + 2) * 4503599627370496 → rung (fadeB j b) < 9007199254740992
  | 0, b, _, h => by simpa [fadeB] using h
  | j + 1, b, hf, h => by
    have h1 := rung_fade_succ hf
    have h2 := hr_le (rung b)
    refine fade_norm j (halfB b) (by omega) ?_
    rw [h1]; unfold hr
    split
    · omega
    · have : 2 * 4503599627370496 ≤ (j + 2) * 4503599627370496 := Nat.mul_le_mul_right _ (by omega)
      split <;> omega
theorem fade_sub : ∀ (j b : Nat), rung b ≤ 2 ^ j → rung b < 9007199254740992 → rung (fadeB (j + 1) b) = 0
  | 0, b, h, hb => by
    show rung (halfB b) = 0
    rw [rung_fade_succ (by omega)]; unfold hr; rw [if_neg (by omega)]
    have : rung b ≤ 1 := h
    split <;> omega
  | j + 1, b, h, hb => by
    have h1 := rung_fade_succ (b := b) (by omega)
    have h2 : hr (rung b) ≤ 2 ^ j := by
      have : 2 ^ (j + 1) = 2 * 2 ^ j := by rw [Nat.pow_succ, Nat.mul_comm]
      have hp := Nat.two_pow_pos j
      unfold hr; rw [if_neg (by omega)]
      split <;> omega
    have h3 := hr_le (rung b)
    exact fade_sub j (halfB b) (by omega) (by omega)
theorem half_zero {b : Nat} (hb : b < 18446744073709551616) (h : rung b = 0) : halfB b = b := by
  unfold halfB; rw [if_pos (by omega), h]
  have := word_parts hb
  rw [h] at this
  exact this
theorem fade_cap {b : Nat} (hb : b < 18446744073709551616) (n : Nat) : fadeB (min n 2200) b = fadeB n b := by
  by_cases hn : n ≤ 2200
  · rw [Nat.min_eq_left hn]
  · rw [Nat.min_eq_right (by omega)]
    by_cases hf : rung b < 9218868437227405312
    · have h1 := fade_norm 2045 b hf (by omega)
      have h2 := fade_sub 53 (fadeB 2045 b) (by rw [pow53]; omega) h1
      rw [← fadeB_add] at h2
      have h3 := half_zero (fadeB_lt hb (2045 + (53 + 1))) h2
      have e1 : 2200 = (2045 + (53 + 1)) + 101 := rfl
      have e2 : n = (2045 + (53 + 1)) + (n - 2099) := by omega
      rw [e1, fadeB_add, fadeB_fix h3]
      conv => rhs; rw [e2, fadeB_add, fadeB_fix h3]
    · have h3 : halfB b = b := by unfold halfB; rw [if_neg hf]
      rw [fadeB_fix h3, fadeB_fix h3]
theorem clampB_lt {x lo hi : Nat} (hx : x < 18446744073709551616) (hl : lo < 18446744073709551616) (hh : hi < 18446744073709551616) : clampB x lo hi < 18446744073709551616 := by
  unfold clampB; split
  · exact hl
  · split
    · exact hh
    · exact hx
theorem clamp_lo {x lo hi : Nat} (h : ltB hi lo = true) : clampB x lo hi = lo := by simp [clampB, h]
theorem clamp_in {x lo hi : Nat} (h : ltB hi lo = false) : ltB (clampB x lo hi) lo = false ∧ ltB hi (clampB x lo hi) = false := by
  unfold clampB
  cases h1 : ltB x lo
  · cases h2 : ltB hi x
    · simp [h, h1, h2]
    · simp [h, ltB_irrefl]
  · simp [ltB_irrefl, h]
theorem sameB_refl (a : Nat) : sameB a a = true := by simp [sameB]
theorem negzero_lt : ltB 9223372036854775808 0 = true := by decide +kernel
theorem ltB_true {a b : Nat} (h : rank a < rank b) : ltB a b = true := by simp [ltB, h]
theorem ltB_false {a b : Nat} (h : ¬ rank a < rank b) : ltB a b = false := by simp [ltB, h]
theorem ltB_iff {a b : Nat} : ltB a b = true ↔ rank a < rank b := by simp [ltB]
theorem ne_key {a b : Nat} (ha : isNaN a = false) (hb : isNaN b = false) {v : Bool} (h : decide (key a = key b) = !v) : (double.order a b != some .eq) = v := by
  rw [ne_eq, ha, hb, h]; simp
theorem lt_key {a b : Nat} (ha : isNaN a = false) (hb : isNaN b = false) {v : Bool} (h : decide (key a < key b) = v) : (double.order a b == some .lt) = v := by
  rw [lt_eq, ha, hb, h]; simp
theorem rank_lt_key {a b : Nat} (ha : isNaN a = false) (hb : isNaN b = false) (h : rank a < rank b) (hne : key a ≠ key b) : key a < key b := by
  rcases (rank_key ha hb).1 h with h1 | h1
  · exact h1
  · exact absurd h1.1 hne
end FP
