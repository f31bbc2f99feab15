/- RealFades: for every number and every two counts the law returns true. -/
import Derived.Test.YtjbpodpnefboiaaRc
namespace Go.Proofs.Ytjbpodpnefboiaa.realFades
open Go.ChangeShapes Go.WideShapes Go.ChangeAt Go.RowKit
set_option maxRecDepth 100000
theorem walk (a : Nat) (n m : Int) (w0 : a < 18446744073709551616) (w1 : (Lit.int .i64 n).wf = true) (w2 : (Lit.int .i64 m).wf = true) (w : World) :
    Calls Try.prog 5 #[.float .f64 a, .int .i64 n, .int .i64 m] w fun e w' => e = .returned (.bool true) ∧ Grown w w' := by
  have bn := bounds_i64 w1
  have bm := bounds_i64 w2
  clear w1 w2
  have hy := FP.fadeB_lt w0 n.toNat
  have hs := FP.sameB_refl (FP.fadeB n.toNat a)
  have Ha := Lib.hid w0; clear w0
  have Hy := Lib.hid hy; clear hy
  have h15 : (FloatKind.f64.format.order 4609434218613702656 4609434218613702656 == some Ordering.eq) = true := by decide +kernel
  by_cases hc : 0 ≤ n ∧ 0 ≤ m ∧ n ≤ 5000 ∧ m ≤ 5000
  · obtain ⟨c1, c2, c3, c4⟩ := hc
    have hadd : FP.fadeB m.toNat (FP.fadeB n.toNat a) = FP.fadeB (n + m).toNat a := by
      rw [← FP.fadeB_add]; congr 1; omega
    have hz := Lib.hid (FP.fadeB_lt Ha.out (n + m).toNat)
    have hs2 := FP.sameB_refl (FP.fadeB (n + m).toNat a)
    go_enter Try.func5, Try.ntmps5
    go_wp2_with (first | (go_at_call 17; with_reducible refine (fade_three _).mono ?_; rintro e w' ⟨rfl, rfl⟩) | (go_at_call 17; refine (fade_any _ _ (by first | exact Hid.out (by assumption) | omega) (by omega) _).mono ?_; rintro e w' ⟨rfl, k, rfl⟩) | (go_at_call 19; refine (refFade_any _ _ (by first | exact Hid.out (by assumption) | omega) (by omega) _).mono ?_; rintro e w' ⟨rfl, rfl⟩) | (go_at_call 18; refine (same_any _ _ _ (by first | exact Hid.out (by assumption) | omega) (by first | exact Hid.out (by assumption) | omega)).mono ?_; rintro e w' ⟨rfl, rfl⟩))
    all_goals go_ret
    all_goals exact ⟨rfl, grown_drewN (Grown.refl _) _⟩
  · go_enter Try.func5, Try.ntmps5
    go_wp2_with (first | (go_at_call 17; with_reducible refine (fade_three _).mono ?_; rintro e w' ⟨rfl, rfl⟩) | (go_at_call 17; refine (fade_any _ _ (by first | exact Hid.out (by assumption) | omega) (by omega) _).mono ?_; rintro e w' ⟨rfl, k, rfl⟩) | (go_at_call 19; refine (refFade_any _ _ (by first | exact Hid.out (by assumption) | omega) (by omega) _).mono ?_; rintro e w' ⟨rfl, rfl⟩) | (go_at_call 18; refine (same_any _ _ _ (by first | exact Hid.out (by assumption) | omega) (by first | exact Hid.out (by assumption) | omega)).mono ?_; rintro e w' ⟨rfl, rfl⟩))
    all_goals go_ret
    all_goals exact ⟨rfl, grown_drewN (Grown.refl _) _⟩

/-! The row's step. -/
theorem own : ownKnob Try.prog.godebug = none := by kernel_rfl
set_option linter.unusedVariables false
set_option maxRecDepth 100000 in
theorem lifted (os : Os) (started : os.Started) (H : Type) (enc : TypeId × Value → H) :
    ReturnsInHanded {} Try.checked os 5 .any (Rows.realFadesSpec.pre6 enc Try.prog Try.f5 Rows.realFadesRow.domain false) (Rows.realFadesSpec.post enc Try.prog Try.f5 false true false false) := by
  refine returnsInHanded_of_change (C := Try.checked) own started (by kernel_rfl) Try.func5
    (ChangeSpec.witness6 (enc := enc) (C := Try.checked) false ⟨#[], #[.float .f64 0, .int .i64 0, .int .i64 0], []⟩ 8 (by kernel_rfl) (by kernel_rfl) (by kernel_rfl) (by kernel_rfl)) ?_
  intro W base args ds gs before hval0 hW hcnd _
  have hval : ∀ (j : Nat) t v, Try.f5.params[j]? = some t → args[j]? = some v → Value.okWide Try.prog W .any base t v := hval0
  have hW' := hW
  obtain ⟨p, q, hA0, hV, rfl, hfz, hnd⟩ := hW
  have hA : DataW.TrodAll enc Try.prog W 0 (fun _ => true) true Try.f5.params.toList args.toList ds p := hA0
  rw [Try.params5] at hA hval
  obtain ⟨v0, vs0, d0, ds0, p0, q0, hargs, rfl, rfl, h0, r0⟩ := trodAll_cons hA
  obtain ⟨v1, vs1, d1, ds1, p1, q1, rfl, rfl, rfl, h1, r1⟩ := trodAll_cons r0
  obtain ⟨v2, vs2, d2, ds2, p2, q2, rfl, rfl, rfl, h2, r2⟩ := trodAll_cons r1
  obtain ⟨rfl, rfl, rfl⟩ := trodAll_nil r2
  obtain rfl : args = #[v0, v1, v2] := by cases args; simp_all
  obtain ⟨rfl, rfl⟩ := trodVars_none hV
  obtain ⟨a0, rfl, rfl, rfl, w0⟩ := open_float Try.underlying22 (hval 0 22 v0 rfl rfl) h0
  obtain ⟨a1, rfl, rfl, rfl, w1⟩ := open_int Try.underlying3 (hval 1 3 v1 rfl rfl) h1
  obtain ⟨a2, rfl, rfl, rfl, w2⟩ := open_int Try.underlying3 (hval 2 3 v2 rfl rfl) h2
  clear hA0 hval0
  simp only [List.append_nil] at hW'
  refine (walk a0 a1 a2 (float_lt w0) w1 w2 W).mono fun e W' ⟨he, hg⟩ => ?_
  subst he
  exact ⟨_, rfl, post_of_same (pa := []) (pv := []) hW' (fun _ _ _ => (trodAll_cons_mk (shut_bool Try.underlying4 _) trodAll_mk0)) (fun sp _ => (trodAll_cons_mk (shut_float Try.underlying22 w0) (trodAll_cons_mk (shut_int Try.underlying3 w1) (trodAll_cons_mk (shut_int Try.underlying3 w2) trodAll_mk0)))) (fun _ _ => rfl) rfl
    (hg.frame _) hg.2.1 (ok_one (by kernel_rfl) rfl (okWide_bool_mk Try.underlying4 _))⟩

theorem over : Rows.realFadesRow.holds Try.pinned (OpenSpec.ofChange Rows.realFadesSpec) :=
  OpenClaim.holds_of_wide 5 Try.f5 rfl rfl rfl rfl rfl rfl rfl ⟨rfl, rfl, rfl, rfl, rfl⟩ rfl rfl rfl rfl rfl (by kernel_rfl) Try.func5 (by kernel_rfl)
    (of_decide_eq_true (by kernel_rfl)) (by unfold Func.isWrapper; first | (rw [if_pos (by decide +kernel)]; kernel_rfl) | (rw [if_neg (by decide +kernel)]; exact ⟨rfl, rfl⟩))
    (fun os started H enc _ => lifted os started H enc)

/-- THE STATEMENT. -/
theorem proved : Rows.RealFadesSaid := over

#print axioms proved
end Go.Proofs.Ytjbpodpnefboiaa.realFades
