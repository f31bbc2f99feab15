/- Plain facts: halving and bringing right keep the order. -/
import Derived.Test.YtfkbdijgdhddaaaHc
import Derived.Test.YtfkbdijgdhddaaaPk
namespace Go.Proofs.Ytfkbdijgdhddaaa
open Go.RowKit
theorem hr_mono {r s : Nat} (h : r ≤ s) : FP.hr r ≤ FP.hr s := by
  unfold FP.hr
  by_cases h1 : 9007199254740992 ≤ r <;> by_cases h2 : 9007199254740992 ≤ s <;> by_cases h3 : r % 4 = 3 <;> by_cases h4 : s % 4 = 3 <;> simp only [h1, h2, h3, h4, if_true, if_false] <;> omega
theorem half_mono {a b : Nat} (ha : FP.isNaN a = false) (hb : FP.isNaN b = false) (h : FP.rank a ≤ FP.rank b) : FP.rank (FP.halfB a) ≤ FP.rank (FP.halfB b) := by
  have ra := FP.rung_num ha
  have rb := FP.rung_num hb
  have na : FP.isNaN (FP.halfB a) = false := by rw [FP.isNaN_halfB]; exact ha
  have nb : FP.isNaN (FP.halfB b) = false := by rw [FP.isNaN_halfB]; exact hb
  rw [FP.rank_num ha, FP.rank_num hb] at h
  rw [FP.rank_num na, FP.rank_num nb, FP.sgn_halfB, FP.sgn_halfB, FP.rung_halfB, FP.rung_halfB]
  have m1 := @hr_mono (FP.rung a) (FP.rung b)
  have m2 := @hr_mono (FP.rung b) (FP.rung a)
  have l1 := FP.hr_le (FP.rung a)
  have l2 := FP.hr_le (FP.rung b)
  cases e1 : FP.sgn a <;> cases e2 : FP.sgn b <;> simp only [e1, e2, if_true, Bool.false_eq_true, if_false] at h ⊢ <;> split <;> split <;> omega
theorem fade_mono : ∀ (n : Nat) {a b : Nat}, FP.isNaN a = false → FP.isNaN b = false → FP.rank a ≤ FP.rank b → FP.rank (FP.fadeB n a) ≤ FP.rank (FP.fadeB n b)
  | 0, _, _, _, _, h => h
  | n + 1, a, b, ha, hb, h => fade_mono n (by rw [FP.isNaN_halfB]; exact ha) (by rw [FP.isNaN_halfB]; exact hb) (half_mono ha hb h)
theorem fade_keeps : ∀ (n : Nat) {a : Nat}, FP.isNaN a = false → FP.isNaN (FP.fadeB n a) = false
  | 0, _, h => h
  | n + 1, a, h => fade_keeps n (by rw [FP.isNaN_halfB]; exact h)
theorem right_num (x : Nat) : FP.isNaN (rightB x) = false := by
  unfold rightB
  split
  · exact FP.nan_zero
  · split
    · exact FP.nan_zero
    · rename_i h _; simpa using h
theorem key_rank {x : Nat} (h : FP.isNaN x = false) : FP.key x = 0 ↔ FP.rank x = 0 ∨ FP.rank x = -1 := by
  rw [FP.rank_num h]; unfold FP.key
  cases FP.sgn x <;> simp <;> omega
theorem rank_right {x : Nat} (h : FP.isNaN x = false) : FP.rank (rightB x) = if FP.rank x = -1 then 0 else FP.rank x := by
  have hk := key_rank h
  have h0 : FP.rank 0 = 0 := by decide +kernel
  unfold rightB
  rw [if_neg (by simp [h])]
  by_cases hz : FP.key x = 0
  · rw [if_pos hz, h0]
    rcases hk.1 hz with h1 | h1 <;> simp [h1]
  · rw [if_neg hz]
    rw [if_neg (fun e => hz (hk.2 (Or.inr e)))]
theorem right_mono {a b : Nat} (ha : FP.isNaN a = false) (hb : FP.isNaN b = false) (h : FP.rank a ≤ FP.rank b) : FP.rank (rightB a) ≤ FP.rank (rightB b) := by
  rw [rank_right ha, rank_right hb]
  split <;> split <;> omega
theorem right_idem (x : Nat) : rightB (rightB x) = rightB x := by
  have hn := right_num x
  unfold rightB at hn ⊢
  split
  · simp only [FP.nan_zero, FP.key_zero_word]; simp
  · split
    · simp only [FP.nan_zero, FP.key_zero_word]; simp
    · rfl
theorem addR_right (x y : Nat) : rightB (addR x y) = addR x y := by
  unfold addR; split
  · exact right_idem _
  · decide +kernel
/-- Of two heats the colder one stays so. -/
theorem colder_stays {half i : Int} {v1 v2 : Nat} (h1 : rightB v1 = v1) (h2 : rightB v2 = v2) (hh : 1 < half) (_hi : 0 ≤ i) (hm : i % half = 0) (hw : FP.ltB (heatOf half 2 (v1, 1)) (heatOf half 2 (v2, 2)) = true) :
    FP.ltB (heatOf half (2 + i) (v2, 2)) (heatOf half (2 + i) (v1, 1)) = false := by
  have n1 : FP.isNaN v1 = false := by rw [← h1]; exact right_num v1
  have n2 : FP.isNaN v2 = false := by rw [← h2]; exact right_num v2
  have e0 : ((2 : Int) - 1) / half = 0 := Int.ediv_eq_zero_of_lt (by omega) (by omega)
  have e1 : ((2 : Int) - 2) / half = 0 := by simp
  have e2 : (2 + i - 2) / half = i / half := by congr 1; omega
  have e3 : (2 + i - 1) / half = i / half := by
    have hd : i = half * (i / half) := by have := Int.mul_ediv_add_emod i half; omega
    have : 2 + i - 1 = 1 + half * (i / half) := by omega
    rw [this, Int.add_mul_ediv_left _ _ (by omega), Int.ediv_eq_zero_of_lt (by omega) (by omega)]
    omega
  unfold heatOf at hw ⊢
  simp only [e0, e1, e2, e3] at hw ⊢
  simp only [Int.toNat_zero, FP.fadeB, h1, h2] at hw
  have hl := FP.ltB_iff.1 hw
  refine FP.ltB_false ?_
  have := right_mono (fade_keeps (i / half).toNat n1) (fade_keeps (i / half).toNat n2) (fade_mono (i / half).toNat n1 n2 (by omega))
  omega
end Go.Proofs.Ytfkbdijgdhddaaa
