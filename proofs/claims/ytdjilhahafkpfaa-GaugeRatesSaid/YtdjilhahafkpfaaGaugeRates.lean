/- GaugeRates: for every two ints the law returns true. -/
import Derived.Test.YtdjilhahafkpfaaLn
import Derived.Test.YtdjilhahafkpfaaLs
import Derived.Test.YtdjilhahafkpfaaFpl
import Derived.ProofKit
import Derived.OpenShut
import Derived.SizedLaws
namespace Go.Proofs.Ytdjilhahafkpfaa.gaugeRates
open Go.ChangeShapes Go.WideShapes Go.ChangeAt Go.RowKit
set_option maxRecDepth 100000
theorem rate_bad (a b : Int) (h : a < 0 ∨ b < 0 ∨ 4503599627370496 < a ∨ 4503599627370496 < b ∨ (a = 0 ∧ b = 0)) (w : World) : Calls Try.prog 17 #[.int .i64 a, .int .i64 b] w fun e w' => e = .returned (.float .f64 9221120237041090561) ∧ w = w' := by
  by_cases h1 : a < 0
  · clear h
    go_enter Try.func17, Try.ntmps17
    go_wp2_with (go_at_call 25; refine (nan_any _).mono ?_; rintro e w' ⟨rfl, rfl⟩)
    go_ret
    exact ⟨rfl, rfl⟩
  · by_cases h2 : b < 0
    · clear h
      go_enter Try.func17, Try.ntmps17
      go_wp2_with (go_at_call 25; refine (nan_any _).mono ?_; rintro e w' ⟨rfl, rfl⟩)
      go_ret
      exact ⟨rfl, rfl⟩
    · by_cases h3 : 4503599627370496 < a
      · clear h
        go_enter Try.func17, Try.ntmps17
        go_wp2_with (go_at_call 25; refine (nan_any _).mono ?_; rintro e w' ⟨rfl, rfl⟩)
        go_ret
        exact ⟨rfl, rfl⟩
      · by_cases h4 : 4503599627370496 < b
        · clear h
          go_enter Try.func17, Try.ntmps17
          go_wp2_with (go_at_call 25; refine (nan_any _).mono ?_; rintro e w' ⟨rfl, rfl⟩)
          go_ret
          exact ⟨rfl, rfl⟩
        · obtain ⟨rfl, rfl⟩ : a = 0 ∧ b = 0 := by omega
          clear h h1 h2 h3 h4
          go_enter Try.func17, Try.ntmps17
          go_wp2_with (go_at_call 25; refine (nan_any _).mono ?_; rintro e w' ⟨rfl, rfl⟩)
          go_ret
          exact ⟨rfl, rfl⟩
/-- A part of a whole. -/
theorem part (a b : Nat) (ha : a ≤ 4503599627370496) (hb : b ≤ 4503599627370496) (h0 : 0 < a + b) : ∃ q, floatBits .quo .f64 (floatOfInt .f64 (a : Int)) (floatOfInt .f64 ((a : Int) + (b : Int))) = some q ∧ q ≤ 4607182418800017408 := by
  have e : ((a : Int) + (b : Int)) = ((a + b : Nat) : Int) := by omega
  rw [e, foi, foi]
  have hp := FP.near_pos (n := a + b) (by omega) (by omega)
  have hm := FP.near_mono (a := a) (n := a + b) (by omega)
  exact FP.div_le_one (by omega) hp.2 hp.1 hm
theorem rate_good (a b : Nat) (q : Nat) (ha : a ≤ 4503599627370496) (hb : b ≤ 4503599627370496) (h0 : 0 < a + b) (hq : floatBits .quo .f64 (floatOfInt .f64 (a : Int)) (floatOfInt .f64 ((a : Int) + (b : Int))) = some q) (w : World) : Calls Try.prog 17 #[.int .i64 a, .int .i64 b] w fun e w' => e = .returned (.float .f64 q) ∧ w = w' := by
  have hqq := fun t w => run_fquo hq t w
  have a0 : (0 : Int) ≤ (a : Int) := Int.natCast_nonneg _
  have b0 : (0 : Int) ≤ (b : Int) := Int.natCast_nonneg _
  have a1 : (a : Int) ≤ 4503599627370496 := by omega
  have b1 : (b : Int) ≤ 4503599627370496 := by omega
  have hs : ((a : Int) + (b : Int) == 0) = false := by rw [beq_eq_false_iff_ne]; omega
  clear hq ha hb h0
  go_enter Try.func17, Try.ntmps17
  go_wp2
  go_ret
  exact ⟨rfl, rfl⟩
theorem pos_cmp {q : Nat} (h : q ≤ 4607182418800017408) : FP.isNaN q = false ∧ (Ieee.double.order q q == some Ordering.eq) = true ∧ (Ieee.double.order q 0 == some Ordering.lt) = false ∧ (Ieee.double.order q 4607182418800017408 == some Ordering.gt) = false ∧ ((Ieee.double.order q 0 == some Ordering.gt) || (Ieee.double.order q 0 == some Ordering.eq)) = true ∧ ((Ieee.double.order q 4607182418800017408 == some Ordering.lt) || (Ieee.double.order q 4607182418800017408 == some Ordering.eq)) = true := by
  have hn : FP.isNaN q = false := by unfold FP.isNaN; rw [FP.rung_pos (by omega)]; simp; omega
  have k : FP.key q = q := by unfold FP.key; rw [FP.sgn_false (by omega), FP.rung_pos (by omega)]; simp
  have k0 : FP.key 0 = 0 := by decide +kernel
  have k1 : FP.key 4607182418800017408 = 4607182418800017408 := by decide +kernel
  have n0 : FP.isNaN 0 = false := by decide +kernel
  have n1 : FP.isNaN 4607182418800017408 = false := by decide +kernel
  rw [FP.eq_eq, FP.lt_eq, FP.gt_eq, FP.gt_eq, FP.eq_eq, FP.lt_eq, FP.eq_eq, hn, k, k0, k1, n0, n1]
  refine ⟨rfl, by simp, by simp, by simp; omega, ?_, ?_⟩
  · simp; omega
  · simp; omega
set_option maxHeartbeats 1000000 in
theorem walk (W : World) (a : Int) (ha : (Lit.int .i64 a).wf = true) (b : Int) (hb : (Lit.int .i64 b).wf = true) :
    Calls Try.prog 5 #[.int .i64 a, .int .i64 b] W fun e w' => e = .returned (.bool true) ∧ Below W.heap.size W w' := by
  have HA := Lib.hid (awake_ok W)
  clear ha hb
  have hne : (FloatKind.f64.format.order 9221120237041090561 9221120237041090561 != some Ordering.eq) = true := by decide +kernel
  by_cases h : a < 0 ∨ b < 0 ∨ 4503599627370496 < a ∨ 4503599627370496 < b ∨ (a = 0 ∧ b = 0)
  · have HR := Lib.hid fun w => rate_bad a b h w
    rcases h with h | h | h | h | ⟨rfl, rfl⟩
    · go_enter Try.func5, Try.ntmps5
      go_wp2_with (first | (go_at_call 17; refine (HR.out _).mono ?_; rintro e w' ⟨rfl, rfl⟩) | (go_at_call 10; refine HA.out.mono ?_; rintro e w' ⟨rfl, hB⟩))
      all_goals
        go_ret
        exact ⟨rfl, hB⟩
    · by_cases h1 : a < 0
      all_goals
        go_enter Try.func5, Try.ntmps5
        go_wp2_with (first | (go_at_call 17; refine (HR.out _).mono ?_; rintro e w' ⟨rfl, rfl⟩) | (go_at_call 10; refine HA.out.mono ?_; rintro e w' ⟨rfl, hB⟩))
        all_goals
          go_ret
          exact ⟨rfl, hB⟩
    · have h1 : ¬ a < 0 := by omega
      by_cases h2 : b < 0
      all_goals
        go_enter Try.func5, Try.ntmps5
        go_wp2_with (first | (go_at_call 17; refine (HR.out _).mono ?_; rintro e w' ⟨rfl, rfl⟩) | (go_at_call 10; refine HA.out.mono ?_; rintro e w' ⟨rfl, hB⟩))
        all_goals
          go_ret
          exact ⟨rfl, hB⟩
    · have h2 : ¬ b < 0 := by omega
      by_cases h1 : a < 0
      · go_enter Try.func5, Try.ntmps5
        go_wp2_with (first | (go_at_call 17; refine (HR.out _).mono ?_; rintro e w' ⟨rfl, rfl⟩) | (go_at_call 10; refine HA.out.mono ?_; rintro e w' ⟨rfl, hB⟩))
        all_goals
          go_ret
          exact ⟨rfl, hB⟩
      · by_cases h3 : 4503599627370496 < a
        all_goals
          go_enter Try.func5, Try.ntmps5
          go_wp2_with (first | (go_at_call 17; refine (HR.out _).mono ?_; rintro e w' ⟨rfl, rfl⟩) | (go_at_call 10; refine HA.out.mono ?_; rintro e w' ⟨rfl, hB⟩))
          all_goals
            go_ret
            exact ⟨rfl, hB⟩
    · go_enter Try.func5, Try.ntmps5
      go_wp2_with (first | (go_at_call 17; refine (HR.out _).mono ?_; rintro e w' ⟨rfl, rfl⟩) | (go_at_call 10; refine HA.out.mono ?_; rintro e w' ⟨rfl, hB⟩))
      all_goals
        go_ret
        exact ⟨rfl, hB⟩
  · obtain ⟨m, rfl⟩ : ∃ m : Nat, a = m := ⟨a.toNat, by omega⟩
    obtain ⟨n, rfl⟩ : ∃ n : Nat, b = n := ⟨b.toNat, by omega⟩
    obtain ⟨q, hq, hq1⟩ := part m n (by omega) (by omega) (by omega)
    have HR := Lib.hid fun w => rate_good m n q (by omega) (by omega) (by omega) hq w
    have hqq := fun t w => run_fquo hq t w
    have hc := pos_cmp hq1
    have o1 : (FloatKind.f64.format.order q q == some Ordering.eq) = true := hc.2.1
    have o2 : (FloatKind.f64.format.order q 0 == some Ordering.lt) = false := hc.2.2.1
    have o3 : (FloatKind.f64.format.order q 4607182418800017408 == some Ordering.gt) = false := hc.2.2.2.1
    have o4 : ((FloatKind.f64.format.order q 0 == some Ordering.gt) || (FloatKind.f64.format.order q 0 == some Ordering.eq)) = true := hc.2.2.2.2.1
    have o5 : ((FloatKind.f64.format.order q 4607182418800017408 == some Ordering.lt) || (FloatKind.f64.format.order q 4607182418800017408 == some Ordering.eq)) = true := hc.2.2.2.2.2
    have m0 : (0 : Int) ≤ (m : Int) := Int.natCast_nonneg _
    have n0 : (0 : Int) ≤ (n : Int) := Int.natCast_nonneg _
    have m1 : (m : Int) ≤ 4503599627370496 := by omega
    have n1 : (n : Int) ≤ 4503599627370496 := by omega
    have HZ := Lib.hid h
    clear hc hq hq1
    by_cases hm0 : (m : Int) = 0
    · have hz1 : ((m : Int) == 0) = true := by rw [beq_iff_eq]; exact hm0
      have hz2 : ((n : Int) == 0) = false := by rw [beq_eq_false_iff_ne]; omega
      clear hm0 h
      go_enter Try.func5, Try.ntmps5
      go_wp2_with (first | (go_at_call 17; refine (HR.out _).mono ?_; rintro e w' ⟨rfl, rfl⟩) | (go_at_call 10; refine HA.out.mono ?_; rintro e w' ⟨rfl, hB⟩))
      go_ret
      exact ⟨rfl, hB⟩
    · have hz1 : ((m : Int) == 0) = false := by rw [beq_eq_false_iff_ne]; exact hm0
      clear hm0 h
      go_enter Try.func5, Try.ntmps5
      go_wp2_with (first | (go_at_call 17; refine (HR.out _).mono ?_; rintro e w' ⟨rfl, rfl⟩) | (go_at_call 10; refine HA.out.mono ?_; rintro e w' ⟨rfl, hB⟩))
      go_ret
      exact ⟨rfl, hB⟩

/-! The row's step. -/
theorem own : ownKnob Try.prog.godebug = none := by kernel_rfl
theorem laidOut : laidOutB Try.prog = true := by kernel_rfl
set_option linter.unusedVariables false
set_option maxRecDepth 100000 in
theorem lifted (os : Os) (started : os.Started) (H : Type) (enc : TypeId × Value → H) :
    ReturnsInHanded {} Try.checked os 5 .any (Rows.gaugeRatesSpec.pre6 enc Try.prog Try.f5 Rows.gaugeRatesRow.domain false) (Rows.gaugeRatesSpec.post enc Try.prog Try.f5 false true false false) := by
  refine returnsInHanded_of_change_sized (C := Try.checked) own started (by kernel_rfl) Try.func5
    (ChangeSpec.witness6 (enc := enc) (C := Try.checked) false ⟨#[], #[.int .i64 0, .int .i64 0], []⟩ 8 (by kernel_rfl) (by kernel_rfl) (by kernel_rfl) (by kernel_rfl)) ?_
  intro W base args ds gs before hval0 hW _ hsz0 _
  have hsz : (DataW.weightsEach Try.prog (Try.f5.params.toList ++ Rows.gaugeRatesSpec.plain.varTypes Try.prog) (ds ++ gs)).all (· ≤ reachBytes) = true := hsz0
  clear hsz0
  have hval : ∀ (j : Nat) t v, Try.f5.params[j]? = some t → args[j]? = some v → Value.okWide Try.prog W .any base t v := hval0
  have hW' := hW
  obtain ⟨p, q, hA0, hV, rfl, hfz, hnd⟩ := hW
  have hA : DataW.TrodAll enc Try.prog W 0 (fun _ => true) true Try.f5.params.toList args.toList ds p := hA0
  rw [Try.params5] at hA hval hsz
  obtain ⟨v0, vs0, d0, ds0, p0, q0, hargs, rfl, rfl, h0, r0⟩ := trodAll_cons hA
  obtain ⟨v1, vs1, d1, ds1, p1, q1, rfl, rfl, rfl, h1, r1⟩ := trodAll_cons r0
  obtain ⟨rfl, rfl, rfl⟩ := trodAll_nil r1
  obtain rfl : args = #[v0, v1] := by cases args; simp_all
  obtain ⟨rfl, rfl⟩ := trodVars_none hV
  obtain ⟨a0, rfl, rfl, rfl, w0⟩ := open_int Try.underlying3 (hval 0 3 v0 rfl rfl) h0
  obtain ⟨a1, rfl, rfl, rfl, w1⟩ := open_int Try.underlying3 (hval 1 3 v1 rfl rfl) h1
  clear hA0 hval0
  refine (walk W a0 w0 a1 w1).mono fun e W' ⟨he, bel⟩ => ?_
  subst he
  exact ⟨_, rfl, _, _, _, [], _, [], hW', trodAll_mk1 (shut_bool Try.underlying4 _), (trodAll_cons_mk (shut_int Try.underlying3 w0) (trodAll_cons_mk (shut_int Try.underlying3 w1) trodAll_mk0)), rfl, bel.frame _, fun h => by cases h⟩

theorem over : Rows.gaugeRatesRow.holds Try.pinned (OpenSpec.ofChange Rows.gaugeRatesSpec) :=
  OpenClaim.holds_of_wide 5 Try.f5 rfl rfl rfl rfl rfl rfl rfl ⟨rfl, rfl, rfl, rfl, rfl⟩ rfl rfl rfl rfl rfl (by kernel_rfl) Try.func5 (by kernel_rfl)
    (of_decide_eq_true (by kernel_rfl)) (by unfold Func.isWrapper; first | (rw [if_pos (by decide +kernel)]; kernel_rfl) | (rw [if_neg (by decide +kernel)]; exact ⟨rfl, rfl⟩))
    (fun os started H enc _ => lifted os started H enc)

/-- THE STATEMENT. -/
theorem proved : Rows.GaugeRatesSaid := over

#print axioms proved
end Go.Proofs.Ytdjilhahafkpfaa.gaugeRates
