/- Contract of the reference's Coldest. -/
import Derived.Test.YtfkbdijgdhddaaaHm
namespace Go.Proofs.Ytfkbdijgdhddaaa
open Go.RowKit Go.Deep
set_option maxRecDepth 100000
def pickC (f : Int → Nat) (best k : Int) : Int := if FP.ltB (f k) (f best) || (FP.sameB (f k) (f best) && decide (k < best)) then k else best
theorem pick_fold (f : Int → Nat) : ∀ (l : List Int) (k : Int), (l.foldl (stepC f) (k, f k)) = (l.foldl (pickC f) k, f (l.foldl (pickC f) k))
  | [], k => rfl
  | j :: l, k => by
    simp only [List.foldl_cons]
    have : stepC f (k, f k) j = (pickC f k j, f (pickC f k j)) := by
      have h3 : (!FP.ltB (f j) (f k)) = true → (!FP.ltB (f k) (f j)) = FP.sameB (f j) (f k) := by
        intro h
        have a : ¬ FP.rank (f j) < FP.rank (f k) := fun e => by rw [FP.ltB_true e] at h; cases h
        by_cases b : FP.rank (f k) < FP.rank (f j)
        · rw [FP.ltB_true b]; simp [FP.sameB]; omega
        · rw [FP.ltB_false b]; simp [FP.sameB]; omega
      unfold stepC pickC
      simp only
      cases h1 : FP.ltB (f j) (f k)
      · rw [h3 (by rw [h1]; rfl)]
        by_cases h4 : (FP.sameB (f j) (f k) && decide (j < k)) = true <;> simp only [Bool.false_or, h4, if_true, if_false, Bool.false_eq_true]
      · simp
    rw [this]
    exact pick_fold f l _
def coldR (f : Int → Nat) (l : List Int) : Int := (l.tail).foldl (pickC f) (l.getD 0 0)
theorem cold_ref (f : Int → Nat) (l : List Int) (h : l ≠ []) : (coldF f l).1 = coldR f l := by
  cases l with
  | nil => exact absurd rfl h
  | cons k l => simp only [coldF, coldR]; rw [pick_fold]; rfl
theorem coldR_snoc (f : Int → Nat) (l : List Int) (i : Nat) (hi : i < l.length) (h0 : 0 < i) : coldR f (l.take (i + 1)) = pickC f (coldR f (l.take i)) (l.getD i 0) := by
  rw [FP.take_getD l i 0 hi]
  cases l with
  | nil => simp at hi
  | cons a r =>
    obtain ⟨m, rfl⟩ : ∃ m, i = m + 1 := ⟨i - 1, by omega⟩
    simp [coldR, List.foldl_append]
theorem refColdest_none (v : Value) (w : World) (a : Option Addr) (cap : Nat) : Calls Try.prog 15 #[v, .slice a 0 cap] w fun e w' => e = .returned (.tuple #[.int .i64 0, .bool false]) ∧ w = w' := by
  go_enter Try.func15, Try.ntmps15
  go_wp2
  go_ret2
  exact ⟨rfl, rfl⟩
theorem refColdest_gen (f : Int → Nat) (hf : ∀ k, f k < 18446744073709551616) (v : Value) (w : World) (b off cap : Nat) (ks : List Int) (hne : 0 < ks.length) (hb : b < w.heap.size) (hcap : ks.length ≤ cap) (hmax : cap ≤ maxLen) (hc : ∀ i, i < ks.length → w.cell? ⟨b, off + i, none⟩ = some (.int .i64 (ks.getD i 0)))
    (hof : ∀ k w1, Below w.heap.size w w1 → Calls Try.prog 25 #[v, .int .i64 k] w1 fun e w' => e = .returned (.float .f64 (f k)) ∧ Below w1.heap.size w1 w') :
    Calls Try.prog 15 #[v, .slice (some ⟨b, off, none⟩) ks.length cap] w fun e w' => e = .returned (.tuple #[.int .i64 (coldR f ks), .bool true]) ∧ Below w.heap.size w w' := by
  unfold maxLen at hmax
  have h00 := hc 0 hne
  rw [Nat.add_zero] at h00
  have hz : ((ks.length : Int) == 0) = false := by rw [beq_eq_false_iff_ne]; omega
  have H0 : Hid (coldR f (ks.take 1) = ks.getD 0 0) := by
    cases ks with
    | nil => simp at hne
    | cons a r => simp [Hid, coldR, List.getD]
  generalize ks.getD 0 0 = k0 at h00 H0
  have HC := Lib.hid hc; clear hc
  have HO := Lib.hid hof; clear hof
  have HF := Lib.hid hf; clear hf
  go_enter Try.func15, Try.ntmps15
  go_wp2
  go_loopw [6, 7] (fun bst iv wr => ∃ j : Nat, ∃ bb : Int, iv = .int .i64 j ∧ bst = .int .i64 bb ∧ 1 ≤ j ∧ j ≤ ks.length ∧ Hid (coldR f (ks.take j) = bb) ∧ Below w.heap.size w wr) (fun _ iv _ => ks.length - (intOf iv).toNat)
  case atStart => exact ⟨1, k0, rfl, rfl, by omega, by omega, H0.out, Below.refl _ _⟩
  case round =>
    obtain ⟨j, bb, rfl, rfl, j1, j2, HR, hB⟩ := hrel
    by_cases hlt : j < ks.length
    · have hcx : wr.cell? ⟨b, off + j, none⟩ = some (.int .i64 (ks.getD j 0)) := by rw [hB.cell (p := ⟨b, off + j, none⟩) hb]; exact HC.out j hlt
      have hbw : b < wr.heap.size := Nat.lt_of_lt_of_le hb hB.size
      have Hs := Lib.hid (coldR_snoc f ks j hlt (by omega))
      rw [HR.out] at Hs
      generalize ks.getD j 0 = k at hcx Hs
      have HO1 := Lib.hid (HO.out k wr hB)
      have HO2 : Hid (∀ w3, Below wr.heap.size wr w3 → Calls Try.prog 25 #[v, .int .i64 bb] w3 fun e w' => e = .returned (.float .f64 (f bb)) ∧ Below w3.heap.size w3 w') := fun w3 h3 => HO.out bb w3 (below_chain hB h3)
      have Hx := Lib.hid (HF.out k)
      have Hy := Lib.hid (HF.out bb)
      have Hs2 : Hid (coldR f (ks.take (j + 1)) = if FP.ltB (f k) (f bb) || (FP.sameB (f k) (f bb) && decide (k < bb)) then k else bb) := Hs.out
      clear Hs
      generalize f k = x at HO1 Hx Hs2
      generalize f bb = y at HO2 Hy Hs2
      go_wp2_with fail
      refine HO1.out.mono ?_
      rintro e w3 ⟨rfl, hB3⟩
      go_wp2_with fail
      refine (HO2.out w3 hB3).mono ?_
      rintro e w4 ⟨rfl, hB4⟩
      have hB34 := below_chain hB3 hB4
      have hB5 := below_chain hB hB34
      have hcx4 := (hB34.cell (p := ⟨b, off + j, none⟩) hbw).trans hcx
      clear hB3 hB4 hB34
      go_wp2_with (first | (go_at_call 16; refine (refLess_any _ _ _ (by first | exact Hid.out (by assumption) | omega) (by first | exact Hid.out (by assumption) | omega)).mono ?_; rintro e w' ⟨rfl, rfl⟩) | (go_at_call 22; refine (same_any _ _ _ (by first | exact Hid.out (by assumption) | omega) (by first | exact Hid.out (by assumption) | omega)).mono ?_; rintro e w' ⟨rfl, rfl⟩))
      all_goals
        go_roundw
        case rel => exact ⟨j + 1, _, by go_num, rfl, by omega, by omega, by show coldR f _ = _; rw [Hs2.out]; first | (simp [*]; done) | (simp [*]; intro h; omega), hB5⟩
        case measure => simp [intOf]; omega
    · have hall : ks.take j = ks := List.take_of_length_le (by omega)
      have Hr : Hid (coldR f ks = bb) := by have := HR.out; rw [hall] at this; exact this
      clear hall
      go_wp2
      go_ret2
      exact ⟨by rw [Hr.out]; rfl, hB⟩
end Go.Proofs.Ytfkbdijgdhddaaa
