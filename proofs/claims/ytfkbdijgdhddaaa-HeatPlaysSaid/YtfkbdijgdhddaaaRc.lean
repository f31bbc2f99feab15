/- Contracts: bringing between, steps, halving and fading. -/
import Derived.Test.YtfkbdijgdhddaaaRb
import Derived.Handy
namespace Go.Proofs.Ytfkbdijgdhddaaa
open Go.RowKit
set_option maxRecDepth 100000
theorem half_up {m : Int} (h₀ : 0 ≤ m) (h₁ : m < 9007199254740992) (h : m % 2 = 1) (h2 : (m / 2 % 2 == 1) = true) : m / 2 + 1 = FP.hr m.toNat := by
  have h2' : m / 2 % 2 = 1 := by simpa using h2
  unfold FP.hr; rw [if_neg (by omega), if_pos (by omega)]; omega
theorem half_down {m : Int} (h₀ : 0 ≤ m) (h₁ : m < 9007199254740992) (h : ¬ m % 2 = 1 ∨ (m / 2 % 2 == 1) = false) : m / 2 = FP.hr m.toNat := by
  have h2' : ¬ m % 2 = 1 ∨ ¬ m / 2 % 2 = 1 := by simpa using h
  unfold FP.hr; rw [if_neg (by omega), if_neg (by omega)]; omega
theorem half_any (m : Int) (h₀ : 0 ≤ m) (h₁ : m < 9007199254740992) (w : World) : Calls Try.prog 35 #[.int .u64 m] w fun e w' => e = .returned (.int .u64 (FP.hr m.toNat)) ∧ w = w' := by
  go_enter Try.func35, Try.ntmps35
  go_wp2
  all_goals go_ret
  · exact ⟨ret_u64 (half_up h₀ h₁ (by assumption) (by assumption)), rfl⟩
  · exact ⟨ret_u64 (half_down h₀ h₁ (Or.inr (by assumption))), rfl⟩
  · exact ⟨ret_u64 (half_down h₀ h₁ (Or.inl (by assumption))), rfl⟩
theorem half_b {b : Nat} {n m : Int} (hn : n = b) (hb : b < 18446744073709551616) (hm : m = n % 9223372036854775808) (hf : FP.rung b < 9218868437227405312) (h2 : 2 ≤ m / 4503599627370496) :
    (bits BinOp.or IntKind.u64 (IntKind.u64.wrap (n / 9223372036854775808 * 9223372036854775808)) (IntKind.u64.wrap (m - 4503599627370496))).toNat = FP.halfB b := by
  have hr : m = FP.rung b := by rw [hm, hn]; unfold FP.rung; omega
  have ht := FP.top_part hb
  rw [← hn] at ht
  rw [ht]
  unfold FP.halfB
  rw [if_pos hf, FP.word_eq]
  have hh : FP.hr (FP.rung b) = FP.rung b - 4503599627370496 := by unfold FP.hr; rw [if_pos (by omega)]
  rw [hh, hr]
  cases FP.sgn b <;> simp only [IntKind.wrap_u64, Bool.false_eq_true, if_true, if_false]
  · rw [or_low _ _ (by omega) (by omega) (by omega)]; omega
  · rw [or_low _ _ (by omega) (by omega) (by omega)]; omega
theorem half_c {b : Nat} {n m : Int} (hn : n = b) (hb : b < 18446744073709551616) (hm : m = n % 9223372036854775808) (hf : FP.rung b < 9218868437227405312) :
    (bits BinOp.or IntKind.u64 (IntKind.u64.wrap (n / 9223372036854775808 * 9223372036854775808)) (FP.hr m.toNat)).toNat = FP.halfB b := by
  have hr : m.toNat = FP.rung b := by rw [hm, hn]; unfold FP.rung; omega
  have ht := FP.top_part hb
  rw [← hn] at ht
  rw [ht]
  unfold FP.halfB
  rw [if_pos hf, FP.word_eq, hr]
  have hl := FP.hr_le (FP.rung b)
  cases FP.sgn b <;> simp only [IntKind.wrap_u64, Bool.false_eq_true, if_true, if_false]
  · rw [or_low _ _ (by omega) (by omega) (by omega)]; omega
  · rw [or_low _ _ (by omega) (by omega) (by omega)]; omega
theorem refHalf_any (b : Nat) (hb : b < 18446744073709551616) (w : World) : Calls Try.prog 30 #[.float .f64 b] w fun e w' => e = .returned (.float .f64 (FP.halfB b)) ∧ w = w' := by
  obtain ⟨n, hn⟩ : ∃ n : Int, n = b := ⟨_, rfl⟩
  obtain ⟨m, hm⟩ : ∃ m : Int, m = n % 9223372036854775808 := ⟨_, rfl⟩
  have hbits := run_bits_at hn
  have hfrom := run_frombits
  have hand : bits .andNot .u64 n 9223372036854775808 = m := by rw [hm]; exact andNot_top n (by omega) (by omega)
  have hm0 : 0 ≤ m := by omega
  have Hb := Lib.hid hb; clear hb
  have Hn := Lib.hid hn; clear hn
  have Hm := Lib.hid hm; clear hm
  go_enter Try.func30, Try.ntmps30
  go_wp2_with (first | (go_at_call 33; refine (isInf_any _ _ Hb.out _).mono ?_; rintro e w' ⟨rfl, rfl⟩) | (go_at_call 35; refine (half_any _ hm0 (by omega) _).mono ?_; rintro e w' ⟨rfl, rfl⟩))
  all_goals go_ret
  · exact ⟨ret_f64 (FP.half_a (by assumption)), rfl⟩
  · exact ⟨ret_f64 (half_b Hn.out Hb.out Hm.out (FP.fin_of (by assumption) (by assumption)) (by assumption)), rfl⟩
  · exact ⟨ret_f64 (half_c Hn.out Hb.out Hm.out (FP.fin_of (by assumption) (by assumption))), rfl⟩
  · exact ⟨ret_f64 (FP.half_d (by assumption)), rfl⟩
theorem quo_two {c : Nat} (hc : c < 18446744073709551616) (hN : FP.isNaN c = false) (t : TypeId) (w : World) : (binOp .quo t (.float .f64 c) (.float .f64 4611686018427387904)).run Try.prog w = .ok (.float .f64 (FP.halfB c)) w := by
  refine run_float_arith w .quo t .f64 c _ _ ?_
  show Ieee.double.div c 4611686018427387904 = _
  by_cases h : FP.rung c < 9218868437227405312
  · rw [FP.div_two_fin h]; unfold FP.halfB; rw [if_pos h]
  · have hr := FP.rung_num hN
    have he : FP.rung c = 9218868437227405312 := by omega
    rw [FP.div_two_inf he]; unfold FP.halfB; rw [if_neg h, ← he, FP.word_parts hc]
theorem cut_nan (x y q : Nat) : (Question.nanBits .f64 x y).cut q < 18446744073709551616 ∧ FP.isNaN ((Question.nanBits .f64 x y).cut q) = true := by
  have e : (Question.nanBits .f64 x y).cut q = (q % 2) * 9223372036854775808 + 9218868437227405312 + 1 + (q / 2) % 4503599627370495 := rfl
  rw [e]
  have h1 : q % 2 = 0 ∨ q % 2 = 1 := by omega
  have h2 : (q / 2) % 4503599627370495 < 4503599627370495 := Nat.mod_lt _ (by omega)
  generalize (q / 2) % 4503599627370495 = t at h2
  unfold FP.isNaN FP.rung
  rcases h1 with h | h <;> rw [h] <;> simp <;> omega
theorem floatArith_none {P : Program} {op : BinOp} {x y : Nat} (hop : op = .add ∨ op = .sub ∨ op = .mul ∨ op = .quo) (h : floatBits op .f64 x y = none) (w : World) :
    (Op.floatArith op .f64 x y).run P w = .ok (.float .f64 ((Question.nanBits .f64 x y).cut (w.tape w.drawn (.nanBits .f64 x y)))) w.drew := by
  unfold floatBits at h
  rcases hop with rfl | rfl | rfl | rfl <;> simp only at h <;> unfold Op.floatArith <;> simp only [h, pure_bind, Sem.run_bind, run_choose, Question.forced] <;> rfl
theorem binOp_float {op : BinOp} {x y : Nat} (hop : op = .add ∨ op = .sub ∨ op = .mul ∨ op = .quo) (t : TypeId) : binOp op t (.float .f64 x) (.float .f64 y) = Op.floatArith op .f64 x y := by
  rcases hop with rfl | rfl | rfl | rfl <;> simp only [binOp] <;> rw [if_neg (by simp)]
/-- An operation that has no answer gives some no number; an answer is drawn. -/
theorem run_float_none {op : BinOp} {x y : Nat} (hop : op = .add ∨ op = .sub ∨ op = .mul ∨ op = .quo) (h : floatBits op .f64 x y = none) (t : TypeId) (w : World) :
    ∃ r, r < 18446744073709551616 ∧ FP.isNaN r = true ∧ (binOp op t (.float .f64 x) (.float .f64 y)).run Try.prog w = .ok (.float .f64 r) w.drew := by
  refine ⟨(Question.nanBits .f64 x y).cut (w.tape w.drawn (.nanBits .f64 x y)), (cut_nan _ _ _).1, (cut_nan _ _ _).2, ?_⟩
  rw [binOp_float hop, floatArith_none hop h]
theorem quo_two_nan {c : Nat} (hN : FP.isNaN c = true) (t : TypeId) (w : World) : ∃ r, FP.isNaN r = true ∧ (binOp .quo t (.float .f64 c) (.float .f64 4611686018427387904)).run Try.prog w = .ok (.float .f64 r) w.drew := by
  obtain ⟨r, -, h1, h2⟩ := run_float_none (op := .quo) (x := c) (y := 4611686018427387904) (by simp) (by show Ieee.double.div _ _ = none; exact FP.div_two_nan (by simpa [FP.isNaN] using hN)) t w
  exact ⟨r, h1, h2⟩
theorem nan_eq {b : Nat} {v : Bool} (h : FP.isNaN b = !v) : (FloatKind.f64.format.order b b == some Ordering.eq) = v := by
  have := FP.eq_eq b b
  rw [show FloatKind.f64.format = Ieee.double from rfl, this, h]; simp
theorem nan_ne_any {r b : Nat} (h : FP.isNaN r = true) : (FloatKind.f64.format.order r b != some Ordering.eq) = true := by
  rw [show FloatKind.f64.format = Ieee.double from rfl, FP.order_nan_l h]; rfl
theorem fade_nan (b : Nat) (n : Int) (hN : FP.isNaN b = true) (w : World) : Calls Try.prog 28 #[.float .f64 b, .int .i64 n] w fun e w' => e = .returned (.float .f64 b) ∧ ∃ k, w' = w.drewN k := by
  have h1 := nan_eq (b := b) (v := false) (by simp [hN])
  obtain ⟨r, hr, hq⟩ := quo_two_nan hN 23 w
  have h2 := nan_ne_any (b := b) hr
  clear hr
  have HN := Lib.hid hN; clear hN
  go_enter Try.func28, Try.ntmps28
  go_wp2
  refine wp_loop_rounds 1 ?_
  rw [rounds_succ]
  go_wp2
  · go_ret
    exact ⟨rfl, 1, rfl⟩
  · go_ret
    exact ⟨rfl, 0, rfl⟩
theorem fade_num (b : Nat) (n : Int) (hb : b < 18446744073709551616) (hN : FP.isNaN b = false) (h₁ : n ≤ 9223372036854775807) (w : World) : Calls Try.prog 28 #[.float .f64 b, .int .i64 n] w fun e w' => e = .returned (.float .f64 (FP.fadeB n.toNat b)) ∧ w = w' := by
  have Hb := Lib.hid hb; clear hb
  have HN := Lib.hid hN; clear hN
  go_enter Try.func28, Try.ntmps28
  go_wp2
  go_loop [0, 1] (fun x i => ∃ (c : Nat) (m : Int), x = .float .f64 c ∧ i = .int .i64 m ∧ m ≤ n ∧ Hid (c < 18446744073709551616 ∧ FP.isNaN c = false ∧ FP.fadeB m.toNat c = FP.fadeB n.toNat b)) (fun _ i => (intOf i).toNat)
  case atStart => exact ⟨b, n, rfl, rfl, Int.le_refl _, ⟨Hb.out, HN.out, rfl⟩⟩
  case round =>
    obtain ⟨c, m, rfl, rfl, hm, HR⟩ := hrel
    have hq := quo_two HR.out.1 HR.out.2.1 23
    have h1 := nan_eq (b := c) (v := true) (by simp [HR.out.2.1])
    go_wp2
    · go_ret
      have hs : FP.halfB c = c := FP.half_stop HR.out.1 (by assumption)
      exact ⟨ret_f64 (by rw [← HR.out.2.2, FP.fadeB_fix hs]), rfl⟩
    · have hm0 : 0 < m := by assumption
      go_round
      case rel => exact ⟨FP.halfB c, m - 1, rfl, rfl, by omega, ⟨FP.halfB_lt HR.out.1, by rw [FP.isNaN_halfB]; exact HR.out.2.1, by rw [← HR.out.2.2]; exact FP.fade_step hm0⟩⟩
      case measure => simp [intOf]; omega
    · exfalso
      simp_all
    · go_ret
      exact ⟨ret_f64 (by rw [← HR.out.2.2]; exact FP.fade_end (by assumption)), rfl⟩
theorem refFade_any (b : Nat) (n : Int) (hb : b < 18446744073709551616) (h₁ : n ≤ 9223372036854775807) (w : World) : Calls Try.prog 21 #[.float .f64 b, .int .i64 n] w fun e w' => e = .returned (.float .f64 (FP.fadeB n.toNat b)) ∧ w = w' := by
  have Hb := Lib.hid hb; clear hb
  go_enter Try.func21, Try.ntmps21
  go_wp2
  go_loop [0, 5] (fun x i => ∃ (k : Nat), x = .float .f64 (FP.fadeB k b) ∧ i = .int .i64 k ∧ k ≤ 2200 ∧ k ≤ n.toNat) (fun _ i => 2200 - (intOf i).toNat)
  case atStart => exact ⟨0, rfl, rfl, by omega, by omega⟩
  case round =>
    obtain ⟨k, rfl, rfl, hk, hk2⟩ := hrel
    go_wp2_with (go_at_call 30; refine (refHalf_any _ (FP.fadeB_lt Hb.out _) _).mono ?_; rintro e w' ⟨rfl, rfl⟩)
    · go_round
      case rel => exact ⟨k + 1, by rw [FP.fadeB_succ], by go_num, by omega, by omega⟩
      case measure => simp [intOf]; omega
    · have h1 : 2200 ≤ (k : Int) := by assumption
      go_ret
      refine ⟨ret_f64 ?_, rfl⟩
      rw [← FP.fade_cap Hb.out n.toNat, Nat.min_eq_right (by omega), show k = 2200 by omega]
    · have h1 : n ≤ (k : Int) := by assumption
      go_ret
      exact ⟨ret_f64 (by rw [show k = n.toNat by omega]), rfl⟩
theorem fade_three (w : World) : Calls Try.prog 28 #[.float .f64 4613937818241073152, .int .i64 1] w fun e w' => e = .returned (.float .f64 4609434218613702656) ∧ w = w' :=
  (fade_num 4613937818241073152 1 (by omega) (by decide +kernel) (by omega) w).mono fun _ _ ⟨h1, h2⟩ => ⟨h1.trans (ret_f64 (by decide +kernel)), h2⟩
theorem grown_drewN {W w' : World} (h : Grown W w') (n : Nat) : Grown W (w'.drewN n) := h
theorem fade_any (b : Nat) (n : Int) (hb : b < 18446744073709551616) (h₁ : n ≤ 9223372036854775807) (w : World) : Calls Try.prog 28 #[.float .f64 b, .int .i64 n] w fun e w' => e = .returned (.float .f64 (FP.fadeB n.toNat b)) ∧ ∃ k, w' = w.drewN k := by
  cases hN : FP.isNaN b
  · exact (fade_num b n hb hN h₁ w).mono fun _ _ ⟨h1, h2⟩ => ⟨h1, 0, h2.symm⟩
  · exact (fade_nan b n hN w).mono fun _ _ ⟨h1, h2⟩ => ⟨h1.trans (ret_f64 (FP.fadeB_fix (FP.halfB_nan hN) _).symm), h2⟩
end Go.Proofs.Ytfkbdijgdhddaaa
