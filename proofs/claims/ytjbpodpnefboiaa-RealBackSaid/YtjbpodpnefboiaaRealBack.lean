/- RealBack: for every number and rank the law returns true. -/
import Derived.Test.YtjbpodpnefboiaaRc
namespace Go.Proofs.Ytjbpodpnefboiaa.realBack
open Go.ChangeShapes Go.WideShapes Go.ChangeAt Go.RowKit
set_option maxRecDepth 100000
theorem in_nan (a : Nat) (r : Int) (Ha : Hid (a < 18446744073709551616)) (hN : FP.isNaN a = true) (w : World) :
    Calls Try.prog 10 #[.float .f64 a, .int .i64 r] w fun e w' => e = .returned (.bool true) ∧ Grown w w' := by
  have h1 : FP.rank a = 9223372036854775807 := FP.rank_nan hN
  have h2 : FP.ofRank 9223372036854775807 = 9221120237041090561 := by decide +kernel
  have h3 : (FloatKind.f64.format.order 9221120237041090561 9221120237041090561 != some Ordering.eq) = true := by decide +kernel
  have h4 := nan_ne hN
  have H := Lib.hid hN; clear hN
  go_enter Try.func10, Try.ntmps10
  go_wp2_with (first | (go_at_call 14; refine (rank_any _ _ (by first | exact Hid.out (by assumption) | omega)).mono ?_; rintro e w' ⟨rfl, rfl⟩) | (go_at_call 24; refine (of_any _ (by omega) (by omega) _).mono ?_; rintro e w' ⟨rfl, rfl⟩) | (go_at_call 28; refine (isInf_any _ _ (by first | exact Hid.out (by assumption) | omega) _).mono ?_; rintro e w' ⟨rfl, rfl⟩))
  all_goals go_ret
  all_goals exact ⟨rfl, Grown.refl _⟩
theorem num_mid (a : Nat) (r n : Int) (hbits : ∀ w, (callFunc 15 #[.float .f64 a]).run Try.prog w = .ok (.value (.int .u64 n)) w) (Ha : Hid (a < 18446744073709551616)) (bd : -9223372036854775808 ≤ r ∧ r ≤ 9223372036854775807) (bR : -9223372036854775808 ≤ FP.rank a ∧ FP.rank a ≤ 9223372036854775807) (Hr : Hid (FP.ofRank r < 18446744073709551616))
    (hna : (FloatKind.f64.format.order a a != some Ordering.eq) = false) (hb : FP.ofRank (FP.rank a) = a) (hm : FP.rank (FP.ofRank r) = r) (w : World) :
    Calls Try.prog 10 #[.float .f64 a, .int .i64 r] w fun e w' => e = .returned (.bool true) ∧ Grown w w' := by
  obtain ⟨bd1, bd2⟩ := bd
  obtain ⟨bR1, bR2⟩ := bR
  go_enter Try.func10, Try.ntmps10
  go_wp2_with (first | (go_at_call 14; refine (rank_any _ _ (by first | exact Hid.out (by assumption) | omega)).mono ?_; rintro e w' ⟨rfl, rfl⟩) | (go_at_call 24; refine (of_any _ (by omega) (by omega) _).mono ?_; rintro e w' ⟨rfl, rfl⟩) | (go_at_call 28; refine (isInf_any _ _ (by first | exact Hid.out (by assumption) | omega) _).mono ?_; rintro e w' ⟨rfl, rfl⟩))
  all_goals go_ret
  all_goals exact ⟨rfl, Grown.refl _⟩
theorem num_high (a : Nat) (r n : Int) (hbits : ∀ w, (callFunc 15 #[.float .f64 a]).run Try.prog w = .ok (.value (.int .u64 n)) w) (Ha : Hid (a < 18446744073709551616)) (bd : 9218868437227405312 < r ∧ r ≤ 9223372036854775807) (bR : -9223372036854775808 ≤ FP.rank a ∧ FP.rank a ≤ 9223372036854775807)
    (hna : (FloatKind.f64.format.order a a != some Ordering.eq) = false) (hb : FP.ofRank (FP.rank a) = a) (hm : FP.ofRank r = 9221120237041090561) (w : World) :
    Calls Try.prog 10 #[.float .f64 a, .int .i64 r] w fun e w' => e = .returned (.bool true) ∧ Grown w w' := by
  obtain ⟨bd1, bd2⟩ := bd
  obtain ⟨bR1, bR2⟩ := bR
  have h1 : FP.rank 9221120237041090561 = 9223372036854775807 := by decide +kernel
  have h3 : (FloatKind.f64.format.order 9221120237041090561 9221120237041090561 != some Ordering.eq) = true := by decide +kernel
  go_enter Try.func10, Try.ntmps10
  go_wp2_with (first | (go_at_call 14; refine (rank_any _ _ (by first | exact Hid.out (by assumption) | omega)).mono ?_; rintro e w' ⟨rfl, rfl⟩) | (go_at_call 24; refine (of_any _ (by omega) (by omega) _).mono ?_; rintro e w' ⟨rfl, rfl⟩) | (go_at_call 28; refine (isInf_any _ _ (by first | exact Hid.out (by assumption) | omega) _).mono ?_; rintro e w' ⟨rfl, rfl⟩))
  all_goals go_ret
  all_goals exact ⟨rfl, Grown.refl _⟩
theorem num_low (a : Nat) (r n : Int) (hbits : ∀ w, (callFunc 15 #[.float .f64 a]).run Try.prog w = .ok (.value (.int .u64 n)) w) (Ha : Hid (a < 18446744073709551616)) (bd : r < -9218868437227405313 ∧ -9223372036854775808 ≤ r) (bR : -9223372036854775808 ≤ FP.rank a ∧ FP.rank a ≤ 9223372036854775807)
    (hna : (FloatKind.f64.format.order a a != some Ordering.eq) = false) (hb : FP.ofRank (FP.rank a) = a) (hm : FP.ofRank r = 18442240474082181120) (w : World) :
    Calls Try.prog 10 #[.float .f64 a, .int .i64 r] w fun e w' => e = .returned (.bool true) ∧ Grown w w' := by
  obtain ⟨bd1, bd2⟩ := bd
  obtain ⟨bR1, bR2⟩ := bR
  have h1 : FP.rank 18442240474082181120 = -9218868437227405313 := by decide +kernel
  have h3 : (FloatKind.f64.format.order 18442240474082181120 18442240474082181120 != some Ordering.eq) = false := by decide +kernel
  have h4 : infB 18442240474082181120 (-1) = true := by decide +kernel
  go_enter Try.func10, Try.ntmps10
  go_wp2_with (first | (go_at_call 14; refine (rank_any _ _ (by first | exact Hid.out (by assumption) | omega)).mono ?_; rintro e w' ⟨rfl, rfl⟩) | (go_at_call 24; refine (of_any _ (by omega) (by omega) _).mono ?_; rintro e w' ⟨rfl, rfl⟩) | (go_at_call 28; refine (isInf_any _ _ (by first | exact Hid.out (by assumption) | omega) _).mono ?_; rintro e w' ⟨rfl, rfl⟩))
  all_goals go_ret
  all_goals exact ⟨rfl, Grown.refl _⟩
theorem walk (a : Nat) (r : Int) (w0 : a < 18446744073709551616) (w1 : (Lit.int .i64 r).wf = true) (w : World) :
    Calls Try.prog 10 #[.float .f64 a, .int .i64 r] w fun e w' => e = .returned (.bool true) ∧ Grown w w' := by
  have bd := bounds_i64 w1
  have bR := FP.rank_bounds a
  have Ha := Lib.hid w0
  cases hN : FP.isNaN a
  · have hb := FP.ofRank_rank w0 hN
    have hna := nan_ne hN
    by_cases c1 : 9218868437227405312 < r
    · exact num_high a r _ (run_bits a) Ha ⟨c1, bd.2⟩ (by omega) hna hb (FP.ofRank_a c1).symm w
    · by_cases c2 : r < -9218868437227405313
      · exact num_low a r _ (run_bits a) Ha ⟨c2, bd.1⟩ (by omega) hna hb (FP.ofRank_b c2).symm w
      · exact num_mid a r _ (run_bits a) Ha bd (by omega) (FP.ofRank_lt r) hna hb (FP.rank_ofRank (by omega) (by omega)) w
  · exact in_nan a r Ha hN w

/-! The row's step. -/
theorem own : ownKnob Try.prog.godebug = none := by kernel_rfl
set_option linter.unusedVariables false
set_option maxRecDepth 100000 in
theorem lifted (os : Os) (started : os.Started) (H : Type) (enc : TypeId × Value → H) :
    ReturnsInHanded {} Try.checked os 10 .any (Rows.realBackSpec.pre6 enc Try.prog Try.f10 Rows.realBackRow.domain false) (Rows.realBackSpec.post enc Try.prog Try.f10 false true false false) := by
  refine returnsInHanded_of_change (C := Try.checked) own started (by kernel_rfl) Try.func10
    (ChangeSpec.witness6 (enc := enc) (C := Try.checked) false ⟨#[], #[.float .f64 0, .int .i64 0], []⟩ 8 (by kernel_rfl) (by kernel_rfl) (by kernel_rfl) (by kernel_rfl)) ?_
  intro W base args ds gs before hval0 hW hcnd _
  have hval : ∀ (j : Nat) t v, Try.f10.params[j]? = some t → args[j]? = some v → Value.okWide Try.prog W .any base t v := hval0
  have hW' := hW
  obtain ⟨p, q, hA0, hV, rfl, hfz, hnd⟩ := hW
  have hA : DataW.TrodAll enc Try.prog W 0 (fun _ => true) true Try.f10.params.toList args.toList ds p := hA0
  rw [Try.params10] at hA hval
  obtain ⟨v0, vs0, d0, ds0, p0, q0, hargs, rfl, rfl, h0, r0⟩ := trodAll_cons hA
  obtain ⟨v1, vs1, d1, ds1, p1, q1, rfl, rfl, rfl, h1, r1⟩ := trodAll_cons r0
  obtain ⟨rfl, rfl, rfl⟩ := trodAll_nil r1
  obtain rfl : args = #[v0, v1] := by cases args; simp_all
  obtain ⟨rfl, rfl⟩ := trodVars_none hV
  obtain ⟨a0, rfl, rfl, rfl, w0⟩ := open_float Try.underlying22 (hval 0 22 v0 rfl rfl) h0
  obtain ⟨a1, rfl, rfl, rfl, w1⟩ := open_int Try.underlying2 (hval 1 2 v1 rfl rfl) h1
  clear hA0 hval0
  simp only [List.append_nil] at hW'
  refine (walk a0 a1 (float_lt w0) w1 W).mono fun e W' ⟨he, hg⟩ => ?_
  subst he
  exact ⟨_, rfl, post_of_same (pa := []) (pv := []) hW' (fun _ _ _ => (trodAll_cons_mk (shut_bool Try.underlying4 _) trodAll_mk0)) (fun sp _ => (trodAll_cons_mk (shut_float Try.underlying22 w0) (trodAll_cons_mk (shut_int Try.underlying2 w1) trodAll_mk0))) (fun _ _ => rfl) rfl
    (hg.frame _) hg.2.1 (ok_one (by kernel_rfl) rfl (okWide_bool_mk Try.underlying4 _))⟩

theorem over : Rows.realBackRow.holds Try.pinned (OpenSpec.ofChange Rows.realBackSpec) :=
  OpenClaim.holds_of_wide 10 Try.f10 rfl rfl rfl rfl rfl rfl rfl ⟨rfl, rfl, rfl, rfl, rfl⟩ rfl rfl rfl rfl rfl (by kernel_rfl) Try.func10 (by kernel_rfl)
    (of_decide_eq_true (by kernel_rfl)) (by unfold Func.isWrapper; first | (rw [if_pos (by decide +kernel)]; kernel_rfl) | (rw [if_neg (by decide +kernel)]; exact ⟨rfl, rfl⟩))
    (fun os started H enc _ => lifted os started H enc)

/-- THE STATEMENT. -/
theorem proved : Rows.RealBackSaid := over

#print axioms proved
end Go.Proofs.Ytjbpodpnefboiaa.realBack
