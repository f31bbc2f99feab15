/- Contracts: the kinds of numbers. -/
import Derived.Test.YtjbpodpnefboiaaRc
import Derived.Handy
namespace Go.Proofs.Ytjbpodpnefboiaa
open Go.RowKit
set_option maxRecDepth 100000
def classB (b : Nat) : Int := if FP.isNaN b then 0 else if FP.rank b = -9218868437227405313 then 1 else if FP.rank b ≤ -4503599627370497 then 2 else if FP.rank b < -1 then 3 else if FP.rank b = -1 then 4 else if FP.rank b = 0 then 5 else if FP.rank b < 4503599627370496 then 6 else if FP.rank b < 9218868437227405312 then 7 else 8
theorem cls_nan {b : Nat} (hN : FP.isNaN b = true) : 0 = classB b := by unfold classB; rw [if_pos hN]
theorem cls_num {b : Nat} (hN : FP.isNaN b = false) {k : Int} (h : k = (if FP.rank b = -9218868437227405313 then 1 else if FP.rank b ≤ -4503599627370497 then 2 else if FP.rank b < -1 then 3 else if FP.rank b = -1 then 4 else if FP.rank b = 0 then 5 else if FP.rank b < 4503599627370496 then 6 else if FP.rank b < 9218868437227405312 then 7 else 8)) : k = classB b := by
  unfold classB; rw [if_neg (by simp [hN])]; exact h
theorem beqf {a b : Int} (h : (a == b) = false) : ¬ a = b := by simpa using h
theorem beqt {a b : Int} (h : (a == b) = true) : a = b := by simpa using h
theorem cls1 {b : Nat} (hN : FP.isNaN b = false) (h : (FP.rank b == -9218868437227405313) = true) : 1 = classB b := cls_num hN (by rw [if_pos (beqt h)])
theorem cls2 {b : Nat} (hN : FP.isNaN b = false) (h0 : (FP.rank b == -9218868437227405313) = false) (h : FP.rank b ≤ -4503599627370497) : 2 = classB b := cls_num hN (by rw [if_neg (beqf h0), if_pos h])
theorem cls3 {b : Nat} (hN : FP.isNaN b = false) (h0 : (FP.rank b == -9218868437227405313) = false) (h1 : -4503599627370497 < FP.rank b) (h : FP.rank b < -1) : 3 = classB b := cls_num hN (by rw [if_neg (beqf h0), if_neg (by omega), if_pos h])
theorem cls4 {b : Nat} (hN : FP.isNaN b = false) (h : (FP.rank b == -1) = true) : 4 = classB b := by
  have h' := beqt h
  exact cls_num hN (by rw [if_neg (by omega), if_neg (by omega), if_neg (by omega), if_pos h'])
theorem cls5 {b : Nat} (hN : FP.isNaN b = false) (h : (FP.rank b == 0) = true) : 5 = classB b := by
  have h' := beqt h
  exact cls_num hN (by rw [if_neg (by omega), if_neg (by omega), if_neg (by omega), if_neg (by omega), if_pos h'])
theorem cls6 {b : Nat} (hN : FP.isNaN b = false) (h2 : -1 ≤ FP.rank b) (h3 : (FP.rank b == -1) = false) (h4 : (FP.rank b == 0) = false) (h : FP.rank b < 4503599627370496) : 6 = classB b := by
  have h3' := beqf h3
  have h4' := beqf h4
  exact cls_num hN (by rw [if_neg (by omega), if_neg (by omega), if_neg (by omega), if_neg h3', if_neg h4', if_pos h])
theorem cls7 {b : Nat} (hN : FP.isNaN b = false) (h5 : 4503599627370496 ≤ FP.rank b) (h : FP.rank b < 9218868437227405312) : 7 = classB b :=
  cls_num hN (by rw [if_neg (by omega), if_neg (by omega), if_neg (by omega), if_neg (by omega), if_neg (by omega), if_neg (by omega), if_pos h])
theorem cls8 {b : Nat} (hN : FP.isNaN b = false) (h : 9218868437227405312 ≤ FP.rank b) : 8 = classB b :=
  cls_num hN (by rw [if_neg (by omega), if_neg (by omega), if_neg (by omega), if_neg (by omega), if_neg (by omega), if_neg (by omega), if_neg (by omega)])
theorem class_go (b : Nat) (hb : b < 18446744073709551616) (hN : FP.isNaN b = false) (w : World) : Calls Try.prog 29 #[.float .f64 b] w fun e w' => e = .returned (.int .i64 (classB b)) ∧ Below w.heap.size w w' := by
  have h0 : FP.rank 18442240474082181120 = -9218868437227405313 := by decide +kernel
  have h1 : FP.rank 9227875636482146304 = -4503599627370497 := by decide +kernel
  have h2 : FP.rank 9223372036854775808 = -1 := by decide +kernel
  have h3 : FP.rank 0 = 0 := by decide +kernel
  have h4 : FP.rank 4503599627370496 = 4503599627370496 := by decide +kernel
  have h5 : FP.rank 9218868437227405312 = 9218868437227405312 := by decide +kernel
  have hnan := nan_ne hN
  have HN := Lib.hid hN; clear hN
  have Hb := Lib.hid hb; clear hb
  go_enter Try.func29, Try.ntmps29
  go_wp2_with (first | (first | (go_at_call 14; refine (rank_any _ _ (by first | exact Hid.out (by assumption) | omega)).mono ?_; rintro e w' ⟨rfl, rfl⟩) | (go_at_call 16; refine (negzero _).mono ?_; rintro e w' ⟨rfl, rfl⟩)) | (go_at_call 34; (first | (with_reducible refine (inf_up _ (by omega) _).mono ?_) | (with_reducible refine (inf_down _ (by omega) _).mono ?_)); rintro e w' ⟨rfl, rfl⟩))
  all_goals go_ret
  all_goals refine ⟨ret_i64 ?_, by go_grown⟩
  · exact cls1 HN.out (by assumption)
  · exact cls2 HN.out (by assumption) (by assumption)
  · exact cls3 HN.out (by assumption) (by assumption) (by assumption)
  · exact cls4 HN.out (by assumption)
  · exact cls5 HN.out (by assumption)
  · exact cls6 HN.out (by assumption) (by assumption) (by assumption) (by assumption)
  · exact cls7 HN.out (by assumption) (by assumption)
  · exact cls8 HN.out (by assumption)
theorem class_nan (b : Nat) (hb : b < 18446744073709551616) (hN : FP.isNaN b = true) (w : World) : Calls Try.prog 29 #[.float .f64 b] w fun e w' => e = .returned (.int .i64 (classB b)) ∧ Below w.heap.size w w' := by
  have hnan := nan_ne hN
  have HN := Lib.hid hN; clear hN
  have Hb := Lib.hid hb; clear hb
  go_enter Try.func29, Try.ntmps29
  go_wp2_with (first | (go_at_call 14; refine (rank_any _ _ (by first | exact Hid.out (by assumption) | omega)).mono ?_; rintro e w' ⟨rfl, rfl⟩))
  go_ret
  exact ⟨ret_i64 (cls_nan HN.out), Below.refl _ _⟩
theorem class_any (b : Nat) (hb : b < 18446744073709551616) (w : World) : Calls Try.prog 29 #[.float .f64 b] w fun e w' => e = .returned (.int .i64 (classB b)) ∧ Below w.heap.size w w' := by
  cases hN : FP.isNaN b
  · exact class_go b hb hN w
  · exact class_nan b hb hN w
theorem below_chain {W0 w w' : World} (h : Below W0.heap.size W0 w) (k : Below w.heap.size w w') : Below W0.heap.size W0 w' := h.trans (k.mono h.size)
theorem class_from {W0 : World} (b : Nat) (hb : b < 18446744073709551616) (w : World) (hW : Below W0.heap.size W0 w) : Calls Try.prog 29 #[.float .f64 b] w fun e w' => e = .returned (.int .i64 (classB b)) ∧ Below W0.heap.size W0 w' :=
  (class_any b hb w).mono fun _ _ ⟨h1, h2⟩ => ⟨h1, below_chain hW h2⟩
/-- A word's parts: sign, exponent, fraction. -/
structure Parts (b : Nat) (s e r : Int) : Prop where
  s01 : s = 0 ∨ s = 1
  e0 : 0 ≤ e
  e1 : e ≤ 2047
  r0 : 0 ≤ r
  r1 : r < 4503599627370496
  sum : (b : Int) = s * 9223372036854775808 + e * 4503599627370496 + r
theorem Parts.rung {b : Nat} {s e r : Int} (h : Parts b s e r) : (FP.rung b : Int) = e * 4503599627370496 + r := by
  obtain ⟨h1, h2, h3, h4, h5, h6⟩ := h
  unfold FP.rung; omega
theorem Parts.nan {b : Nat} {s e r : Int} (h : Parts b s e r) (he : e = 2047) (hr : r ≠ 0) : FP.isNaN b = true := by
  have hr' := h.rung
  have := h.r0
  unfold FP.isNaN; simp; omega
theorem Parts.num {b : Nat} {s e r : Int} (h : Parts b s e r) (hn : e = 2047 → r = 0) : FP.isNaN b = false := by
  have hr' := h.rung
  have := h.r1
  have := h.e1
  unfold FP.isNaN; simp
  by_cases he : e = 2047
  · have := hn he; omega
  · omega
theorem Parts.rank_neg {b : Nat} {s e r : Int} (h : Parts b s e r) (hn : e = 2047 → r = 0) (hs : s = 1) : FP.rank b = -(e * 4503599627370496 + r) - 1 := by
  have h6 := h.sum
  have h5 := h.r1
  have h4 := h.e1
  have h3 := h.r0
  have h2 := h.e0
  rw [FP.rank_num (h.num hn), FP.sgn_true (by omega) (by omega), h.rung]; rfl
theorem Parts.rank_pos {b : Nat} {s e r : Int} (h : Parts b s e r) (hn : e = 2047 → r = 0) (hs : s = 0) : FP.rank b = e * 4503599627370496 + r := by
  have h6 := h.sum
  have h5 := h.r1
  have h4 := h.e1
  have h3 := h.r0
  have h2 := h.e0
  rw [FP.rank_num (h.num hn), FP.sgn_false (by omega), h.rung]; rfl
theorem bnot_eq {a b : Int} (h : (!a == b) = true) : ¬ a = b := by simpa using h
theorem bnot_ne {a b : Int} (h : (!a == b) = false) : a = b := by simpa using h
theorem rc_rank {b : Nat} {k : Int} (hN : FP.isNaN b = false) {R : Int} (hR : FP.rank b = R) (h : k = (if R = -9218868437227405313 then 1 else if R ≤ -4503599627370497 then 2 else if R < -1 then 3 else if R = -1 then 4 else if R = 0 then 5 else if R < 4503599627370496 then 6 else if R < 9218868437227405312 then 7 else 8)) : k = classB b :=
  cls_num hN (by rw [hR]; exact h)
theorem refClass_at (b : Nat) (n s e f : Int) (r : Int) (HP : Hid (Parts b s e r ∧ f = r * 4096)) (hbits : ∀ w, (callFunc 15 #[.float .f64 b]).run Try.prog w = .ok (.value (.int .u64 n)) w)
    (hE : wrap64 (bits BinOp.and IntKind.u64 (n / 4503599627370496) 2047) = e) (hF : IntKind.u64.wrap (n * 4096) = f) (hS : n / 9223372036854775808 = s) (w : World) : Calls Try.prog 30 #[.float .f64 b] w fun e w' => e = .returned (.int .i64 (classB b)) ∧ w = w' := by
  go_enter Try.func30, Try.ntmps30
  go_wp2
  all_goals go_ret
  all_goals refine ⟨ret_i64 ?_, rfl⟩
  all_goals obtain ⟨hP, hf⟩ := HP.out
  all_goals have q1 := hP.e0
  all_goals have q2 := hP.e1
  all_goals have q3 := hP.r0
  all_goals have q4 := hP.r1
  · have h1 : e = 2047 := by assumption
    have h2 := bnot_eq (show (!f == 0) = true by assumption)
    exact cls_nan (hP.nan h1 (by omega))
  · have h1 : e = 2047 := by assumption
    have h2 := bnot_ne (show (!f == 0) = false by assumption)
    have h3 := beqt (show (s == 1) = true by assumption)
    exact rc_rank (hP.num (by omega)) (hP.rank_neg (by omega) h3) (by rw [if_pos (by omega)])
  · have h1 : e = 2047 := by assumption
    have h2 := bnot_ne (show (!f == 0) = false by assumption)
    have h3 := beqf (show (s == 1) = false by assumption)
    exact rc_rank (hP.num (by omega)) (hP.rank_pos (by omega) (by have := hP.s01; omega)) (by rw [if_neg (by omega), if_neg (by omega), if_neg (by omega), if_neg (by omega), if_neg (by omega), if_neg (by omega), if_neg (by omega)])
  · have h1 : e = 0 := by assumption
    have h2 := beqt (show (f == 0) = true by assumption)
    have h3 := beqt (show (s == 1) = true by assumption)
    exact rc_rank (hP.num (by omega)) (hP.rank_neg (by omega) h3) (by rw [if_neg (by omega), if_neg (by omega), if_neg (by omega), if_pos (by omega)])
  · have h1 : e = 0 := by assumption
    have h2 := beqt (show (f == 0) = true by assumption)
    have h3 := beqf (show (s == 1) = false by assumption)
    exact rc_rank (hP.num (by omega)) (hP.rank_pos (by omega) (by have := hP.s01; omega)) (by rw [if_neg (by omega), if_neg (by omega), if_neg (by omega), if_neg (by omega), if_pos (by omega)])
  · have h1 : e = 0 := by assumption
    have h2 := beqf (show (f == 0) = false by assumption)
    have h3 := beqt (show (s == 1) = true by assumption)
    exact rc_rank (hP.num (by omega)) (hP.rank_neg (by omega) h3) (by rw [if_neg (by omega), if_neg (by omega), if_pos (by omega)])
  · have h1 : e = 0 := by assumption
    have h2 := beqf (show (f == 0) = false by assumption)
    have h3 := beqf (show (s == 1) = false by assumption)
    exact rc_rank (hP.num (by omega)) (hP.rank_pos (by omega) (by have := hP.s01; omega)) (by rw [if_neg (by omega), if_neg (by omega), if_neg (by omega), if_neg (by omega), if_neg (by omega), if_pos (by omega)])
  · have h1 : ¬ e = 2047 := by assumption
    have h2 : ¬ e = 0 := by assumption
    have h3 := beqt (show (s == 1) = true by assumption)
    exact rc_rank (hP.num (by omega)) (hP.rank_neg (by omega) h3) (by rw [if_neg (by omega), if_pos (by omega)])
  · have h1 : ¬ e = 2047 := by assumption
    have h2 : ¬ e = 0 := by assumption
    have h3 := beqf (show (s == 1) = false by assumption)
    exact rc_rank (hP.num (by omega)) (hP.rank_pos (by omega) (by have := hP.s01; omega)) (by rw [if_neg (by omega), if_neg (by omega), if_neg (by omega), if_neg (by omega), if_neg (by omega), if_neg (by omega), if_pos (by omega)])
theorem refClass_any (b : Nat) (hb : b < 18446744073709551616) (w : World) : Calls Try.prog 30 #[.float .f64 b] w fun e w' => e = .returned (.int .i64 (classB b)) ∧ w = w' := by
  refine refClass_at b b ((b : Int) / 9223372036854775808) ((b : Int) / 4503599627370496 % 2048) ((b : Int) % 4503599627370496 * 4096) ((b : Int) % 4503599627370496) ⟨⟨by omega, by omega, by omega, by omega, by omega, by omega⟩, rfl⟩ (run_bits b) ?_ ?_ rfl w
  · rw [and11 _ (by omega) (by omega)]
    simp only [wrap64]; omega
  · rw [IntKind.wrap_u64]; omega
end Go.Proofs.Ytjbpodpnefboiaa
