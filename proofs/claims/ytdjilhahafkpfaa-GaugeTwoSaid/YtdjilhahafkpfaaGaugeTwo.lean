/- GaugeTwo: for every two numbers the law returns true. -/
import Derived.Test.YtdjilhahafkpfaaLu
import Derived.ProofKit
import Derived.OpenShut
import Derived.SizedLaws
namespace Go.Proofs.Ytdjilhahafkpfaa.gaugeTwo
open Go.ChangeShapes Go.WideShapes Go.ChangeAt Go.RowKit
set_option maxRecDepth 100000
theorem same_nan (y : Nat) (h : FP.isNaN y = true) : FP.sameB 9221120237041090561 y = true := by
  unfold FP.sameB; rw [FP.rank_nan h, FP.rank_dnan]; simp
set_option maxHeartbeats 1000000 in
theorem walk (W : World) (a : Nat) (ha : a < 18446744073709551616) (b : Nat) (hb : b < 18446744073709551616) :
    Calls Try.prog 4 #[.float .f64 a, .float .f64 b] W fun e w' => e = .returned (.bool true) ∧ Below W.heap.size W w' := by
  have hw : ∀ x ∈ [a, b], x < 18446744073709551616 := by intro n hn; simp at hn; rcases hn with rfl | rfl <;> assumption
  have hlim : Lim (gsOf [a, b]).V := (heldOf hw).lim (by simp)
  have HO : Hid (∀ w : World, Calls Try.prog 16 #[.slice (some ⟨w.heap.size, 0, none⟩) 2 2] (w.alloc (.cells #[.float .f64 a, .float .f64 b] 23)) fun e w' => ∃ p, e = .returned (.pointer (some ⟨p, 0, none⟩)) ∧ GA w' p (gsOf [a, b]) ∧ Below w.heap.size w w') := fun w => by
    have hI : IsF (w.alloc (.cells #[.float .f64 a, .float .f64 b] 23)) (some ⟨w.heap.size, 0, none⟩) 2 2 [a, b] := isF_alloc w _ hw 2 rfl (by omega)
    refine (of_ex _ _ _ _ _ hI (by omega)).mono ?_
    rintro e w' ⟨p, -, rfl, hg, hB⟩
    exact ⟨p, rfl, hg, below_chain ((Below.refl _ _).alloc (Nat.le_refl _) _) hB⟩
  have HS := Lib.hid fun w' p hg => gsum_any w' p (gsOf [a, b]) hg hlim
  have HT := two_S a b ha hb
  generalize sumOf (gsOf [a, b]) = S at HS HT
  generalize gsOf [a, b] = G at HO HS
  clear hw hlim ha hb
  rcases HT with ⟨r, h1, h2, h3, h4, h5⟩ | ⟨h1, h2⟩
  · have had := fun t w => run_add_some h1 t w
    by_cases hk : FP.key r = 0
    · have hS := h4 hk
      subst hS
      have hz : (FloatKind.f64.format.order r 0 == some Ordering.eq) = true := by
        show (Ieee.double.order r 0 == some Ordering.eq) = true
        rw [FP.ord_zero, h3, hk]; rfl
      have had0 := fun t w => run_add_some FP.add_zero_zero t w
      have HSm : Hid (∀ w' : World, Calls Try.prog 14 #[.float .f64 0, .float .f64 0] w' fun e w'' => e = .returned (.bool true) ∧ w' = w'') := fun w' => by
        have h := same_any 0 0 w' (by omega) (by omega)
        rwa [FP.sameB_refl] at h
      clear h1 h2 h3 h4 h5 hk
      go_enter Try.func4, Try.ntmps4
      go_wp2_with (first | (go_at_call 16; refine (HO.out _).mono ?_; rintro e w2 ⟨p, rfl, hg, hb2⟩; have HG := Lib.hid hg; have HB2 := Lib.hid hb2; clear hg hb2) | (go_at_call 15; refine (HS.out _ _ HG.out).mono ?_; rintro e w3 ⟨rfl, hb3⟩) | (go_at_call 14; refine (HSm.out _).mono ?_; rintro e w' ⟨rfl, rfl⟩) | (go_at_call 10; refine (awake_ok _).mono ?_; rintro e w4 ⟨rfl, hb4⟩))
      go_ret
      exact ⟨rfl, below_chain (below_chain HB2.out hb3) hb4⟩
    · have hS := h5 hk
      subst hS
      have hz : (FloatKind.f64.format.order S 0 == some Ordering.eq) = false := by
        show (Ieee.double.order S 0 == some Ordering.eq) = false
        rw [FP.ord_zero, h3]; simp [hk]
      have had0 := fun t w => run_add_some (FP.add_zero_r h2 h3 hk) t w
      have HSm : Hid (∀ w' : World, Calls Try.prog 14 #[.float .f64 S, .float .f64 S] w' fun e w'' => e = .returned (.bool true) ∧ w' = w'') := fun w' => by
        have h := same_any S S w' h2 h2
        rwa [FP.sameB_refl] at h
      clear h1 h2 h3 h4 h5 hk
      go_enter Try.func4, Try.ntmps4
      go_wp2_with (first | (go_at_call 16; refine (HO.out _).mono ?_; rintro e w2 ⟨p, rfl, hg, hb2⟩; have HG := Lib.hid hg; have HB2 := Lib.hid hb2; clear hg hb2) | (go_at_call 15; refine (HS.out _ _ HG.out).mono ?_; rintro e w3 ⟨rfl, hb3⟩) | (go_at_call 14; refine (HSm.out _).mono ?_; rintro e w' ⟨rfl, rfl⟩) | (go_at_call 10; refine (awake_ok _).mono ?_; rintro e w4 ⟨rfl, hb4⟩))
      go_ret
      exact ⟨rfl, below_chain (below_chain HB2.out hb3) hb4⟩
  · have had := run_add_none h1 23 W
    have hn := nanOf_spec a b W
    subst h2
    obtain ⟨y, hy⟩ : ∃ y, nanOf a b W = y := ⟨_, rfl⟩
    rw [hy] at had hn
    have hz : (FloatKind.f64.format.order y 0 == some Ordering.eq) = false := by
      show (Ieee.double.order y 0 == some Ordering.eq) = false
      rw [FP.ord_zero, hn.2]; rfl
    have had0 := fun t w => run_add_none (FP.add_nan_l (y := 0) hn.2) t w
    have HSm : Hid (∀ w u : World, Calls Try.prog 14 #[.float .f64 9221120237041090561, .float .f64 (nanOf y 0 u)] w fun e w'' => e = .returned (.bool true) ∧ w = w'') := fun w u => by
      have h := same_any 9221120237041090561 (nanOf y 0 u) w (by omega) (nanOf_spec _ _ _).1
      rwa [same_nan _ (nanOf_spec _ _ _).2] at h
    clear h1 hn hy
    go_enter Try.func4, Try.ntmps4
    go_wp2_with (first | (go_at_call 16; refine (HO.out W.drew).mono ?_; rintro e w2 ⟨p, rfl, hg, hb2⟩; have HG := Lib.hid hg; have HB2 := Lib.hid hb2; clear hg hb2) | (go_at_call 15; refine (HS.out _ _ HG.out).mono ?_; rintro e w3 ⟨rfl, hb3⟩) | (go_at_call 14; refine (HSm.out _ _).mono ?_; rintro e w' ⟨rfl, rfl⟩) | (go_at_call 10; refine (awake_ok _).mono ?_; rintro e w4 ⟨rfl, hb4⟩))
    go_ret
    have hB5 : Below W.heap.size W w2 := (show Below W.heap.size W W.drew from ⟨rfl, rfl, rfl, Nat.le_refl _, fun _ _ => rfl⟩).trans HB2.out
    exact ⟨rfl, below_chain (below_chain (below_chain hB5 hb3) (show Below w3.heap.size w3 w3.drew from ⟨rfl, rfl, rfl, Nat.le_refl _, fun _ _ => rfl⟩)) hb4⟩

/-! The row's step. -/
theorem own : ownKnob Try.prog.godebug = none := by kernel_rfl
theorem laidOut : laidOutB Try.prog = true := by kernel_rfl
set_option linter.unusedVariables false
set_option maxRecDepth 100000 in
theorem lifted (os : Os) (started : os.Started) (H : Type) (enc : TypeId × Value → H) :
    ReturnsInHanded {} Try.checked os 4 .any (Rows.gaugeTwoSpec.pre6 enc Try.prog Try.f4 Rows.gaugeTwoRow.domain false) (Rows.gaugeTwoSpec.post enc Try.prog Try.f4 false true false false) := by
  refine returnsInHanded_of_change_sized (C := Try.checked) own started (by kernel_rfl) Try.func4
    (ChangeSpec.witness6 (enc := enc) (C := Try.checked) false ⟨#[], #[.float .f64 0, .float .f64 0], []⟩ 8 (by kernel_rfl) (by kernel_rfl) (by kernel_rfl) (by kernel_rfl)) ?_
  intro W base args ds gs before hval0 hW _ hsz0 _
  have hsz : (DataW.weightsEach Try.prog (Try.f4.params.toList ++ Rows.gaugeTwoSpec.plain.varTypes Try.prog) (ds ++ gs)).all (· ≤ reachBytes) = true := hsz0
  clear hsz0
  have hval : ∀ (j : Nat) t v, Try.f4.params[j]? = some t → args[j]? = some v → Value.okWide Try.prog W .any base t v := hval0
  have hW' := hW
  obtain ⟨p, q, hA0, hV, rfl, hfz, hnd⟩ := hW
  have hA : DataW.TrodAll enc Try.prog W 0 (fun _ => true) true Try.f4.params.toList args.toList ds p := hA0
  rw [Try.params4] at hA hval hsz
  obtain ⟨v0, vs0, d0, ds0, p0, q0, hargs, rfl, rfl, h0, r0⟩ := trodAll_cons hA
  obtain ⟨v1, vs1, d1, ds1, p1, q1, rfl, rfl, rfl, h1, r1⟩ := trodAll_cons r0
  obtain ⟨rfl, rfl, rfl⟩ := trodAll_nil r1
  obtain rfl : args = #[v0, v1] := by cases args; simp_all
  obtain ⟨rfl, rfl⟩ := trodVars_none hV
  obtain ⟨a0, rfl, rfl, rfl, w0⟩ := open_float Try.underlying23 (hval 0 23 v0 rfl rfl) h0
  obtain ⟨a1, rfl, rfl, rfl, w1⟩ := open_float Try.underlying23 (hval 1 23 v1 rfl rfl) h1
  clear hA0 hval0
  refine (walk W a0 (float_lt w0) a1 (float_lt w1)).mono fun e W' ⟨he, bel⟩ => ?_
  subst he
  exact ⟨_, rfl, _, _, _, [], _, [], hW', trodAll_mk1 (shut_bool Try.underlying4 _), (trodAll_cons_mk (shut_float Try.underlying23 w0) (trodAll_cons_mk (shut_float Try.underlying23 w1) trodAll_mk0)), rfl, bel.frame _, fun h => by cases h⟩

theorem over : Rows.gaugeTwoRow.holds Try.pinned (OpenSpec.ofChange Rows.gaugeTwoSpec) :=
  OpenClaim.holds_of_wide 4 Try.f4 rfl rfl rfl rfl rfl rfl rfl ⟨rfl, rfl, rfl, rfl, rfl⟩ rfl rfl rfl rfl rfl (by kernel_rfl) Try.func4 (by kernel_rfl)
    (of_decide_eq_true (by kernel_rfl)) (by unfold Func.isWrapper; first | (rw [if_pos (by decide +kernel)]; kernel_rfl) | (rw [if_neg (by decide +kernel)]; exact ⟨rfl, rfl⟩))
    (fun os started H enc _ => lifted os started H enc)

/-- THE STATEMENT. -/
theorem proved : Rows.GaugeTwoSaid := over

#print axioms proved
end Go.Proofs.Ytdjilhahafkpfaa.gaugeTwo
