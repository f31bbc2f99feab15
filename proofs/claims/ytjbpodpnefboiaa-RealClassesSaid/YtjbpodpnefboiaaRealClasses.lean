/- RealClasses: for every two numbers the law returns true. -/
import Derived.Test.YtjbpodpnefboiaaRcl
namespace Go.Proofs.Ytjbpodpnefboiaa.realClasses
open Go.ChangeShapes Go.WideShapes Go.ChangeAt Go.RowKit
set_option maxRecDepth 100000
theorem class_bd (b : Nat) : 0 ≤ classB b ∧ classB b ≤ 8 := by
  unfold classB; repeat' split
  all_goals omega
theorem class_zero {b : Nat} : classB b = 0 ↔ FP.isNaN b = true := by
  unfold classB
  constructor
  · intro h
    cases hN : FP.isNaN b
    · rw [if_neg (by simp [hN])] at h
      repeat' split at h
      all_goals omega
    · rfl
  · intro h; rw [if_pos h]
theorem class_num {b : Nat} (hN : FP.isNaN b = false) : classB b = (if FP.rank b = -9218868437227405313 then 1 else if FP.rank b ≤ -4503599627370497 then 2 else if FP.rank b < -1 then 3 else if FP.rank b = -1 then 4 else if FP.rank b = 0 then 5 else if FP.rank b < 4503599627370496 then 6 else if FP.rank b < 9218868437227405312 then 7 else 8) := by
  unfold classB; rw [if_neg (by simp [hN])]
theorem class_mono {a b : Nat} (ha : FP.isNaN a = false) (hb : FP.isNaN b = false) (h : FP.rank a < FP.rank b) : classB a ≤ classB b := by
  have b1 := FP.rank_bounds a
  have b2 := FP.rank_bounds b
  rw [class_num ha, class_num hb]
  repeat' split
  all_goals omega
theorem rank_negB {a : Nat} (ha : FP.isNaN a = false) : FP.isNaN (negB a) = false ∧ FP.rank (negB a) = -FP.rank a - 1 := by
  have h1 : FP.isNaN (negB a) = false := by
    rw [← ha]; unfold FP.isNaN; rw [rung_negB]
  refine ⟨h1, ?_⟩
  rw [FP.rank_num h1, FP.rank_num ha, rung_negB, sgn_negB]
  cases FP.sgn a <;> simp <;> omega
theorem class_neg {a : Nat} (h : 0 < classB a) : classB (negB a) = 9 - classB a := by
  have hN : FP.isNaN a = false := by
    cases e : FP.isNaN a
    · rfl
    · rw [class_zero.2 e] at h; omega
  obtain ⟨h1, h2⟩ := rank_negB hN
  have b1 := FP.rank_bounds a
  have b2 := FP.rank_num_le hN
  rw [class_num h1, class_num hN, h2]
  repeat' split
  all_goals omega
theorem walk (a b : Nat) (w0 : a < 18446744073709551616) (w1 : b < 18446744073709551616) (w : World) :
    Calls Try.prog 11 #[.float .f64 a, .float .f64 b] w fun e w' => e = .returned (.bool true) ∧ Below w.heap.size w w' := by
  have Ha := Lib.hid w0; clear w0
  have Hb := Lib.hid w1; clear w1
  have hneg := fun w => run_neg_f64 Ha.out w
  have c1 : (classB 4607182418800017408 != 7) = false := by decide +kernel
  have ba := class_bd a
  have bb := class_bd b
  have hz := @class_neg a
  have hm : FP.ltB a b = true → ¬ classB a = 0 → ¬ classB b = 0 → classB a ≤ classB b := fun h h1 h2 => class_mono (by simpa using mt class_zero.2 h1) (by simpa using mt class_zero.2 h2) (FP.ltB_iff.1 h)
  generalize hx : classB a = x at ba hz hm
  generalize hy : classB b = y at bb hm
  generalize hzz : classB (negB a) = z at hz
  have Hm := Lib.hid hm; clear hm
  have hB0 := Below.refl w.heap.size w
  obtain ⟨x0, x1⟩ := ba
  obtain ⟨y0, y1⟩ := bb
  by_cases hp : 0 < x
  · have hz' : (z != 9 - x) = false := by rw [hz hp]; simp
    clear hz
    go_enter Try.func11, Try.ntmps11
    go_wp2_with (first | (go_at_call 29; refine (class_from _ (by first | exact Hid.out (by assumption) | omega | exact negB_lt Ha.out) _ (by assumption)).mono ?_; rintro e w' ⟨rfl, hb⟩) | (go_at_call 30; refine (refClass_any _ (by first | exact Hid.out (by assumption) | omega) _).mono ?_; rintro e w' ⟨rfl, rfl⟩) | (go_at_call 13; refine (refLess_any _ _ _ (by first | exact Hid.out (by assumption) | omega) (by first | exact Hid.out (by assumption) | omega)).mono ?_; rintro e w' ⟨rfl, rfl⟩))
    all_goals go_ret
    all_goals refine ⟨ret_bool ?_, by assumption⟩
    all_goals first | rfl | (have h1 := Hm.out (by assumption) (by assumption) (by assumption); simp; omega)
  · clear hz
    go_enter Try.func11, Try.ntmps11
    go_wp2_with (first | (go_at_call 29; refine (class_from _ (by first | exact Hid.out (by assumption) | omega | exact negB_lt Ha.out) _ (by assumption)).mono ?_; rintro e w' ⟨rfl, hb⟩) | (go_at_call 30; refine (refClass_any _ (by first | exact Hid.out (by assumption) | omega) _).mono ?_; rintro e w' ⟨rfl, rfl⟩) | (go_at_call 13; refine (refLess_any _ _ _ (by first | exact Hid.out (by assumption) | omega) (by first | exact Hid.out (by assumption) | omega)).mono ?_; rintro e w' ⟨rfl, rfl⟩))
    all_goals go_ret
    all_goals refine ⟨ret_bool ?_, by assumption⟩
    all_goals first | rfl | (have h1 := Hm.out (by assumption) (by assumption) (by assumption); simp; omega)

/-! The row's step. -/
theorem own : ownKnob Try.prog.godebug = none := by kernel_rfl
set_option linter.unusedVariables false
set_option maxRecDepth 100000 in
theorem lifted (os : Os) (started : os.Started) (H : Type) (enc : TypeId × Value → H) :
    ReturnsInHanded {} Try.checked os 11 .any (Rows.realClassesSpec.pre6 enc Try.prog Try.f11 Rows.realClassesRow.domain false) (Rows.realClassesSpec.post enc Try.prog Try.f11 false true false false) := by
  refine returnsInHanded_of_change (C := Try.checked) own started (by kernel_rfl) Try.func11
    (ChangeSpec.witness6 (enc := enc) (C := Try.checked) false ⟨#[], #[.float .f64 0, .float .f64 0], []⟩ 8 (by kernel_rfl) (by kernel_rfl) (by kernel_rfl) (by kernel_rfl)) ?_
  intro W base args ds gs before hval0 hW hcnd _
  have hval : ∀ (j : Nat) t v, Try.f11.params[j]? = some t → args[j]? = some v → Value.okWide Try.prog W .any base t v := hval0
  have hW' := hW
  obtain ⟨p, q, hA0, hV, rfl, hfz, hnd⟩ := hW
  have hA : DataW.TrodAll enc Try.prog W 0 (fun _ => true) true Try.f11.params.toList args.toList ds p := hA0
  rw [Try.params11] at hA hval
  obtain ⟨v0, vs0, d0, ds0, p0, q0, hargs, rfl, rfl, h0, r0⟩ := trodAll_cons hA
  obtain ⟨v1, vs1, d1, ds1, p1, q1, rfl, rfl, rfl, h1, r1⟩ := trodAll_cons r0
  obtain ⟨rfl, rfl, rfl⟩ := trodAll_nil r1
  obtain rfl : args = #[v0, v1] := by cases args; simp_all
  obtain ⟨rfl, rfl⟩ := trodVars_none hV
  obtain ⟨a0, rfl, rfl, rfl, w0⟩ := open_float Try.underlying22 (hval 0 22 v0 rfl rfl) h0
  obtain ⟨a1, rfl, rfl, rfl, w1⟩ := open_float Try.underlying22 (hval 1 22 v1 rfl rfl) h1
  clear hA0 hval0
  simp only [List.append_nil] at hW'
  refine (walk a0 a1 (float_lt w0) (float_lt w1) W).mono fun e W' ⟨he, bel⟩ => ?_
  subst he
  exact ⟨_, rfl, _, _, _, [], _, [], hW', trodAll_mk1 (shut_bool Try.underlying4 _), (trodAll_cons_mk (shut_float Try.underlying22 w0) (trodAll_cons_mk (shut_float Try.underlying22 w1) trodAll_mk0)), rfl, bel.frame _, fun h => by cases h⟩

theorem over : Rows.realClassesRow.holds Try.pinned (OpenSpec.ofChange Rows.realClassesSpec) :=
  OpenClaim.holds_of_wide 11 Try.f11 rfl rfl rfl rfl rfl rfl rfl ⟨rfl, rfl, rfl, rfl, rfl⟩ rfl rfl rfl rfl rfl (by kernel_rfl) Try.func11 (by kernel_rfl)
    (of_decide_eq_true (by kernel_rfl)) (by unfold Func.isWrapper; first | (rw [if_pos (by decide +kernel)]; kernel_rfl) | (rw [if_neg (by decide +kernel)]; exact ⟨rfl, rfl⟩))
    (fun os started H enc _ => lifted os started H enc)

/-- THE STATEMENT. -/
theorem proved : Rows.RealClassesSaid := over

#print axioms proved
end Go.Proofs.Ytjbpodpnefboiaa.realClasses
