/- Plain facts: ranks, the order by ranks, numbers of ranks. -/
import Derived.Test.YtdjilhahafkpfaaFpb
namespace FP
open Ieee

abbrev top64 : Nat := 18446744073709551616

theorem rung_lt (b : Nat) : rung b < 9223372036854775808 := Nat.mod_lt _ (by omega)
theorem sgn_iff {b : Nat} (h : b < 18446744073709551616) : sgn b = true ↔ 9223372036854775808 ≤ b := by
  unfold sgn; simp; omega
theorem sgn_false {b : Nat} (h : b < 9223372036854775808) : sgn b = false := by unfold sgn; simp; omega
theorem sgn_true {b : Nat} (h : 9223372036854775808 ≤ b) (h' : b < 18446744073709551616) : sgn b = true := (sgn_iff h').2 h
theorem rung_neg {b : Nat} (h : 9223372036854775808 ≤ b) (h' : b < 18446744073709551616) : rung b = b - 9223372036854775808 := by unfold rung; omega
theorem rung_pos {b : Nat} (h : b < 9223372036854775808) : rung b = b := by unfold rung; omega

theorem rank_nan {b : Nat} (h : isNaN b = true) : rank b = 9223372036854775807 := by unfold rank; rw [if_pos h]
theorem rank_num {b : Nat} (h : isNaN b = false) : rank b = if sgn b then -(rung b : Int) - 1 else rung b := by unfold rank; rw [if_neg (by simp [h])]
theorem rung_num {b : Nat} (h : isNaN b = false) : rung b ≤ 9218868437227405312 := by simpa [isNaN] using h
theorem rank_bounds (b : Nat) : -9218868437227405313 ≤ rank b ∧ rank b ≤ 9223372036854775807 := by
  cases h : isNaN b
  · have := rung_num h
    rw [rank_num h]; split <;> omega
  · rw [rank_nan h]; omega
theorem rank_num_le {b : Nat} (h : isNaN b = false) : rank b ≤ 9218868437227405312 := by
  have := rung_num h
  rw [rank_num h]; split <;> omega
theorem rank_nan_iff {b : Nat} : isNaN b = true ↔ 9218868437227405312 < rank b := by
  cases h : isNaN b
  · have := rank_num_le h; simp; omega
  · rw [rank_nan h]; simp

def ltB (a b : Nat) : Bool := decide (rank a < rank b)
def sameB (a b : Nat) : Bool := decide (rank a = rank b)

theorem rank_key {x y : Nat} (hx : isNaN x = false) (hy : isNaN y = false) : rank x < rank y ↔ key x < key y ∨ (key x = key y ∧ sgn x = true ∧ sgn y = false) := by
  rw [rank_num hx, rank_num hy]; unfold key
  cases sgn x <;> cases sgn y <;> simp <;> omega

/-- One rank, one number. -/
theorem rank_inj {x y : Nat} (hx : x < 18446744073709551616) (hy : y < 18446744073709551616) (nx : isNaN x = false) (h : rank x = rank y) : x = y := by
  have ny : isNaN y = false := by
    cases e : isNaN y
    · rfl
    · have := rank_num_le nx; rw [h, rank_nan e] at this; omega
  rw [rank_num nx, rank_num ny] at h
  rw [← word_parts hx, ← word_parts hy]
  have hs : sgn x = sgn y ∧ rung x = rung y := by
    cases e1 : sgn x <;> cases e2 : sgn y <;> simp [e1, e2] at h <;> simp <;> omega
  rw [hs.1, hs.2]

/-- The number of a rank. -/
def ofRank (r : Int) : Nat := if 9218868437227405312 < r then 9221120237041090561 else if r < -9218868437227405313 then 18442240474082181120 else if r < 0 then 9223372036854775808 + (-(r + 1)).toNat else r.toNat

theorem ofRank_lt (r : Int) : ofRank r < 18446744073709551616 := by unfold ofRank; split <;> (try split) <;> (try split) <;> omega

theorem rank_pos {b : Nat} (h : b ≤ 9218868437227405312) : rank b = b := by
  have hr : rung b = b := rung_pos (by omega)
  have hn : isNaN b = false := by simp [isNaN, hr]; omega
  rw [rank_num hn, sgn_false (by omega), hr]; simp

theorem rank_neg {m : Nat} (h : m ≤ 9218868437227405312) : rank (9223372036854775808 + m) = -(m : Int) - 1 := by
  have hr : rung (9223372036854775808 + m) = m := by unfold rung; omega
  have hn : isNaN (9223372036854775808 + m) = false := by simp [isNaN, hr]; omega
  rw [rank_num hn, sgn_true (by omega) (by omega), hr]; simp

theorem rank_ofRank {r : Int} (h1 : -9218868437227405313 ≤ r) (h2 : r ≤ 9218868437227405312) : rank (ofRank r) = r := by
  unfold ofRank
  rw [if_neg (by omega), if_neg (by omega)]
  split
  · rw [rank_neg (by omega)]; omega
  · rw [rank_pos (by omega)]; omega

theorem ofRank_rank {b : Nat} (hb : b < 18446744073709551616) (h : isNaN b = false) : ofRank (rank b) = b := by
  have h1 := rank_num_le h
  have h2 := rank_bounds b
  have hn : isNaN (ofRank (rank b)) = false := by
    cases e : isNaN (ofRank (rank b))
    · rfl
    · have := rank_nan_iff.1 e
      rw [rank_ofRank h2.1 h1] at this
      omega
  exact rank_inj (ofRank_lt _) hb hn (rank_ofRank h2.1 h1)

theorem nan_ofRank {r : Int} (h : 9218868437227405312 < r) : isNaN (ofRank r) = true := by
  unfold ofRank; rw [if_pos h]; decide +kernel

/-! Comparisons, as the walk spells them. -/
theorem ordne_self (b : Nat) : (double.order b b != some .eq) = isNaN b := by
  rw [ne_eq]; simp

/-- Less by words is less by ranks. -/
def lessRef (a b : Nat) : Bool := if isNaN a then false else if isNaN b then true else if key a = 0 ∧ key b = 0 then sgn a && !sgn b else decide (key a < key b)

theorem lessRef_eq (a b : Nat) : lessRef a b = ltB a b := by
  unfold lessRef ltB
  cases ha : isNaN a
  · cases hb : isNaN b
    · simp only [Bool.false_eq_true, if_false, rank_key ha hb]
      have h0 : ∀ x, key x = 0 ↔ rung x = 0 := fun x => by unfold key; cases sgn x <;> simp <;> omega
      by_cases hz : key a = 0 ∧ key b = 0
      · rw [if_pos hz]; simp [hz.1, hz.2]
      · rw [if_neg hz]
        by_cases hk : key a < key b
        · simp [hk]
        · simp only [hk, decide_false, false_or]
          symm
          simp only [decide_eq_false_iff_not]
          rintro ⟨h1, h2, h3⟩
          unfold key at h1 hz
          rw [h2, h3] at h1 hz
          simp at h1 hz
          omega
    · have := rank_num_le ha
      rw [rank_nan hb]; simp; omega
  · rw [rank_nan ha]
    have := rank_bounds b
    simp; omega

theorem ltB_irrefl (a : Nat) : ltB a a = false := by simp [ltB]

def clampB (x lo hi : Nat) : Nat := if ltB x lo || ltB hi lo then lo else if ltB hi x then hi else x
def halfB (b : Nat) : Nat := if rung b < 9218868437227405312 then double.word (sgn b) (hr (rung b)) else b
def fadeB : Nat → Nat → Nat
  | 0, b => b
  | n + 1, b => fadeB n (halfB b)

theorem halfB_lt {b : Nat} (h : b < 18446744073709551616) : halfB b < 18446744073709551616 := by
  unfold halfB
  split
  · have h1 := hr_le (rung b)
    rw [word_eq]; split <;> omega
  · exact h

theorem halfB_nan {b : Nat} (h : isNaN b = true) : halfB b = b := by
  have : 9218868437227405312 < rung b := by simpa [isNaN] using h
  unfold halfB; rw [if_neg (by omega)]

theorem rung_halfB {b : Nat} : rung (halfB b) = if rung b < 9218868437227405312 then hr (rung b) else rung b := by
  unfold halfB
  split
  · have h1 := hr_le (rung b)
    exact rung_word (by omega)
  · rfl

theorem sgn_halfB {b : Nat} : sgn (halfB b) = sgn b := by
  unfold halfB
  split
  · have h1 := hr_le (rung b)
    exact sgn_word (by omega)
  · rfl

theorem isNaN_halfB (b : Nat) : isNaN (halfB b) = isNaN b := by
  unfold isNaN
  rw [rung_halfB]
  split
  · have h1 := hr_le (rung b)
    simp; omega
  · rfl

/-- Where halving stops. -/
theorem halfB_key {b : Nat} (h : b < 18446744073709551616) (hk : key (halfB b) = key b) : halfB b = b := by
  by_cases hf : rung b < 9218868437227405312
  · have h1 : rung (halfB b) = hr (rung b) := by rw [rung_halfB, if_pos hf]
    have h2 : rung (halfB b) = rung b := by
      unfold key at hk; rw [sgn_halfB] at hk
      cases e : sgn b <;> simp [e] at hk <;> omega
    have : rung b = 0 := by
      by_cases h0 : 0 < rung b
      · have := hr_lt h0; omega
      · omega
    have e1 := word_parts (halfB_lt h)
    have e2 := word_parts h
    rw [← e1, sgn_halfB, h2, e2]
  · unfold halfB; rw [if_neg hf]

theorem fadeB_fix {b : Nat} (h : halfB b = b) (n : Nat) : fadeB n b = b := by
  induction n with
  | zero => rfl
  | succ n ih => rw [fadeB, h, ih]

theorem fadeB_add (n m b : Nat) : fadeB (n + m) b = fadeB m (fadeB n b) := by
  induction n generalizing b with
  | zero => simp [fadeB]
  | succ n ih => rw [show n + 1 + m = (n + m) + 1 by omega, fadeB, fadeB, ih]

theorem fadeB_lt {b : Nat} (h : b < 18446744073709551616) (n : Nat) : fadeB n b < 18446744073709551616 := by
  induction n generalizing b with
  | zero => exact h
  | succ n ih => exact ih (halfB_lt h)

theorem fadeB_succ (n b : Nat) : fadeB (n + 1) b = halfB (fadeB n b) := by
  rw [fadeB_add]; rfl

end FP
