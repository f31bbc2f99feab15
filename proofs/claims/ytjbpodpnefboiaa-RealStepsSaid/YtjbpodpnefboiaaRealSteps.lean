/- RealSteps: for every three numbers the law returns true. -/
import Derived.Test.YtjbpodpnefboiaaRc
namespace Go.Proofs.Ytjbpodpnefboiaa.realSteps
open Go.ChangeShapes Go.WideShapes Go.ChangeAt Go.RowKit
set_option maxRecDepth 100000
theorem walk (a b c : Nat) (w0 : a < 18446744073709551616) (w1 : b < 18446744073709551616) (w2 : c < 18446744073709551616) (w : World) :
    Calls Try.prog 7 #[.float .f64 a, .float .f64 b, .float .f64 c] w fun e w' => e = .returned (.bool true) ∧ Grown w w' := by
  have Ha := Lib.hid w0; clear w0
  have Hb := Lib.hid w1; clear w1
  have Hc := Lib.hid w2; clear w2
  have ba := FP.rank_bounds a
  have bb := FP.rank_bounds b
  have bc := FP.rank_bounds c
  by_cases h : FP.rank a < FP.rank b
  · have hab := FP.ltB_true h
    have hw := wrap_diff (x := FP.rank a) (y := FP.rank b) (by omega) (by omega) (by omega)
    by_cases h2 : FP.rank b < FP.rank c
    · have hbc := FP.ltB_true h2
      go_enter Try.func7, Try.ntmps7
      go_wp2_with (first | (go_at_call 22; refine (refRank_any _ _ (by first | exact Hid.out (by assumption) | omega)).mono ?_; rintro e w' ⟨rfl, rfl⟩) | (go_at_call 23; (first | (with_reducible refine (steps_zero _).mono ?_) | refine (steps_lt _ _ (by first | exact Hid.out (by assumption) | omega) (by first | exact Hid.out (by assumption) | omega) (by omega) _).mono ?_ | refine (steps_ge _ _ (by first | exact Hid.out (by assumption) | omega) (by first | exact Hid.out (by assumption) | omega) (by omega) _).mono ?_); rintro e w' ⟨rfl, rfl⟩) | (go_at_call 16; refine (negzero _).mono ?_; rintro e w' ⟨rfl, rfl⟩) | (go_at_call 13; refine (refLess_any _ _ _ (by first | exact Hid.out (by assumption) | omega) (by first | exact Hid.out (by assumption) | omega)).mono ?_; rintro e w' ⟨rfl, rfl⟩))
      all_goals go_ret
      all_goals exact ⟨ret_bool (by rw [beq_iff_eq]; omega), Grown.refl _⟩
    · have hbc := FP.ltB_false (a := b) (b := c) h2
      go_enter Try.func7, Try.ntmps7
      go_wp2_with (first | (go_at_call 22; refine (refRank_any _ _ (by first | exact Hid.out (by assumption) | omega)).mono ?_; rintro e w' ⟨rfl, rfl⟩) | (go_at_call 23; (first | (with_reducible refine (steps_zero _).mono ?_) | refine (steps_lt _ _ (by first | exact Hid.out (by assumption) | omega) (by first | exact Hid.out (by assumption) | omega) (by omega) _).mono ?_ | refine (steps_ge _ _ (by first | exact Hid.out (by assumption) | omega) (by first | exact Hid.out (by assumption) | omega) (by omega) _).mono ?_); rintro e w' ⟨rfl, rfl⟩) | (go_at_call 16; refine (negzero _).mono ?_; rintro e w' ⟨rfl, rfl⟩) | (go_at_call 13; refine (refLess_any _ _ _ (by first | exact Hid.out (by assumption) | omega) (by first | exact Hid.out (by assumption) | omega)).mono ?_; rintro e w' ⟨rfl, rfl⟩))
      all_goals go_ret
      all_goals exact ⟨rfl, Grown.refl _⟩
  · have hab := FP.ltB_false (a := a) (b := b) h
    have hw := wrap_diff (x := FP.rank b) (y := FP.rank a) (by omega) (by omega) (by omega)
    by_cases h2 : FP.rank b < FP.rank a
    · go_enter Try.func7, Try.ntmps7
      go_wp2_with (first | (go_at_call 22; refine (refRank_any _ _ (by first | exact Hid.out (by assumption) | omega)).mono ?_; rintro e w' ⟨rfl, rfl⟩) | (go_at_call 23; (first | (with_reducible refine (steps_zero _).mono ?_) | refine (steps_lt _ _ (by first | exact Hid.out (by assumption) | omega) (by first | exact Hid.out (by assumption) | omega) (by omega) _).mono ?_ | refine (steps_ge _ _ (by first | exact Hid.out (by assumption) | omega) (by first | exact Hid.out (by assumption) | omega) (by omega) _).mono ?_); rintro e w' ⟨rfl, rfl⟩) | (go_at_call 16; refine (negzero _).mono ?_; rintro e w' ⟨rfl, rfl⟩) | (go_at_call 13; refine (refLess_any _ _ _ (by first | exact Hid.out (by assumption) | omega) (by first | exact Hid.out (by assumption) | omega)).mono ?_; rintro e w' ⟨rfl, rfl⟩))
      all_goals go_ret
      all_goals exact ⟨rfl, Grown.refl _⟩
    · go_enter Try.func7, Try.ntmps7
      go_wp2_with (first | (go_at_call 22; refine (refRank_any _ _ (by first | exact Hid.out (by assumption) | omega)).mono ?_; rintro e w' ⟨rfl, rfl⟩) | (go_at_call 23; (first | (with_reducible refine (steps_zero _).mono ?_) | refine (steps_lt _ _ (by first | exact Hid.out (by assumption) | omega) (by first | exact Hid.out (by assumption) | omega) (by omega) _).mono ?_ | refine (steps_ge _ _ (by first | exact Hid.out (by assumption) | omega) (by first | exact Hid.out (by assumption) | omega) (by omega) _).mono ?_); rintro e w' ⟨rfl, rfl⟩) | (go_at_call 16; refine (negzero _).mono ?_; rintro e w' ⟨rfl, rfl⟩) | (go_at_call 13; refine (refLess_any _ _ _ (by first | exact Hid.out (by assumption) | omega) (by first | exact Hid.out (by assumption) | omega)).mono ?_; rintro e w' ⟨rfl, rfl⟩))
      all_goals go_ret
      all_goals exact ⟨rfl, Grown.refl _⟩

/-! The row's step. -/
theorem own : ownKnob Try.prog.godebug = none := by kernel_rfl
set_option linter.unusedVariables false
set_option maxRecDepth 100000 in
theorem lifted (os : Os) (started : os.Started) (H : Type) (enc : TypeId × Value → H) :
    ReturnsInHanded {} Try.checked os 7 .any (Rows.realStepsSpec.pre6 enc Try.prog Try.f7 Rows.realStepsRow.domain false) (Rows.realStepsSpec.post enc Try.prog Try.f7 false true false false) := by
  refine returnsInHanded_of_change (C := Try.checked) own started (by kernel_rfl) Try.func7
    (ChangeSpec.witness6 (enc := enc) (C := Try.checked) false ⟨#[], #[.float .f64 0, .float .f64 0, .float .f64 0], []⟩ 8 (by kernel_rfl) (by kernel_rfl) (by kernel_rfl) (by kernel_rfl)) ?_
  intro W base args ds gs before hval0 hW hcnd _
  have hval : ∀ (j : Nat) t v, Try.f7.params[j]? = some t → args[j]? = some v → Value.okWide Try.prog W .any base t v := hval0
  have hW' := hW
  obtain ⟨p, q, hA0, hV, rfl, hfz, hnd⟩ := hW
  have hA : DataW.TrodAll enc Try.prog W 0 (fun _ => true) true Try.f7.params.toList args.toList ds p := hA0
  rw [Try.params7] at hA hval
  obtain ⟨v0, vs0, d0, ds0, p0, q0, hargs, rfl, rfl, h0, r0⟩ := trodAll_cons hA
  obtain ⟨v1, vs1, d1, ds1, p1, q1, rfl, rfl, rfl, h1, r1⟩ := trodAll_cons r0
  obtain ⟨v2, vs2, d2, ds2, p2, q2, rfl, rfl, rfl, h2, r2⟩ := trodAll_cons r1
  obtain ⟨rfl, rfl, rfl⟩ := trodAll_nil r2
  obtain rfl : args = #[v0, v1, v2] := by cases args; simp_all
  obtain ⟨rfl, rfl⟩ := trodVars_none hV
  obtain ⟨a0, rfl, rfl, rfl, w0⟩ := open_float Try.underlying22 (hval 0 22 v0 rfl rfl) h0
  obtain ⟨a1, rfl, rfl, rfl, w1⟩ := open_float Try.underlying22 (hval 1 22 v1 rfl rfl) h1
  obtain ⟨a2, rfl, rfl, rfl, w2⟩ := open_float Try.underlying22 (hval 2 22 v2 rfl rfl) h2
  clear hA0 hval0
  simp only [List.append_nil] at hW'
  refine (walk a0 a1 a2 (float_lt w0) (float_lt w1) (float_lt w2) W).mono fun e W' ⟨he, hg⟩ => ?_
  subst he
  exact ⟨_, rfl, post_of_same (pa := []) (pv := []) hW' (fun _ _ _ => (trodAll_cons_mk (shut_bool Try.underlying4 _) trodAll_mk0)) (fun sp _ => (trodAll_cons_mk (shut_float Try.underlying22 w0) (trodAll_cons_mk (shut_float Try.underlying22 w1) (trodAll_cons_mk (shut_float Try.underlying22 w2) trodAll_mk0)))) (fun _ _ => rfl) rfl
    (hg.frame _) hg.2.1 (ok_one (by kernel_rfl) rfl (okWide_bool_mk Try.underlying4 _))⟩

theorem over : Rows.realStepsRow.holds Try.pinned (OpenSpec.ofChange Rows.realStepsSpec) :=
  OpenClaim.holds_of_wide 7 Try.f7 rfl rfl rfl rfl rfl rfl rfl ⟨rfl, rfl, rfl, rfl, rfl⟩ rfl rfl rfl rfl rfl (by kernel_rfl) Try.func7 (by kernel_rfl)
    (of_decide_eq_true (by kernel_rfl)) (by unfold Func.isWrapper; first | (rw [if_pos (by decide +kernel)]; kernel_rfl) | (rw [if_neg (by decide +kernel)]; exact ⟨rfl, rfl⟩))
    (fun os started H enc _ => lifted os started H enc)

/-- THE STATEMENT. -/
theorem proved : Rows.RealStepsSaid := over

#print axioms proved
end Go.Proofs.Ytjbpodpnefboiaa.realSteps
