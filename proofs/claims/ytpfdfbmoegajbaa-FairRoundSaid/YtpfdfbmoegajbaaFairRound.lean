/- FairRound: for every n, weight and number of rounds the law returns true. -/
import Derived.Test.YtpfdfbmoegajbaaGi
import Derived.Test.YtpfdfbmoegajbaaPk
import Derived.ProofKit
import Derived.OpenShut
import Derived.SizedLaws
namespace Go.Proofs.Ytpfdfbmoegajbaa.fairRound
open Go.ChangeShapes Go.WideShapes Go.ChangeAt Go.RowKit
set_option maxRecDepth 100000
theorem weight_c {w0 w : World} {p g cap n i x : Nat} (h : Row2 w0 w p g cap (setupT n (wOf x) i)) (hx : x < 18446744073709551616) (hi : i < n) : Calls Try.prog 11 #[.pointer (some ⟨p, 0, none⟩), .int .i64 (i : Nat), .float .f64 x] w fun e w' => e = .returned (.int .i64 0) ∧ Row2 w0 w' p g cap (midT n (wOf x) i) := by
  have hs := setup_weight x hi
  refine (weight_any w p g cap _ h.r i x hx).mono ?_
  rintro e w' ⟨rfl, hr, hg⟩
  rw [hs.1] at hr; rw [hs.2]; exact ⟨rfl, h.step hr hg⟩
theorem wake_c {w0 w : World} {p g cap n i x : Nat} (h : Row2 w0 w p g cap (midT n (wOf x) i)) (hx : x < 18446744073709551616) (hi : i < n) : Calls Try.prog 12 #[.pointer (some ⟨p, 0, none⟩), .int .i64 (i : Nat)] w fun e w' => e = .returned (.int .i64 0) ∧ Row2 w0 w' p g cap (setupT n (wOf x) (i + 1)) := by
  have hs := mid_wake (W := wOf x) hi
  have hw := wOf_in hx
  refine (wake_any w p g cap _ h.r (midT_fit hw.1 hw.2) i).mono ?_
  rintro e w' ⟨rfl, hr, hg⟩
  rw [hs.1] at hr; rw [hs.2]; exact ⟨rfl, h.step hr hg⟩
theorem turn_eq (n W i : Nat) (hn : 0 < n) : roundT n W (i / n) (i % n + 1) = roundT n W ((i + 1) / n) ((i + 1) % n) := by
  have hd := Nat.div_add_mod i n
  have hm := Nat.mod_lt i hn
  by_cases h : i % n + 1 = n
  · have e : i + 1 = n * (i / n + 1) := by rw [Nat.mul_add]; omega
    have e1 : (i + 1) / n = i / n + 1 := by rw [e, Nat.mul_div_cancel_left _ hn]
    have e2 : (i + 1) % n = 0 := by rw [e]; exact Nat.mul_mod_right _ _
    rw [e1, e2, h, roundT_end]
  · have e1 : (i + 1) / n = i / n := by
      rw [show i + 1 = n * (i / n) + (i % n + 1) by omega, Nat.mul_add_div hn, Nat.div_eq_of_lt (a := i % n + 1) (by omega)]; rfl
    have e2 : (i + 1) % n = i % n + 1 := by
      rw [show i + 1 = n * (i / n) + (i % n + 1) by omega, Nat.mul_add_mod, Nat.mod_eq_of_lt (by omega)]
    rw [e1, e2]
theorem next_c {w0 w : World} {p g cap n i x : Nat} (h : Row2 w0 w p g cap (roundT n (wOf x) (i / n) (i % n))) (hx : x < 18446744073709551616) (hn : 0 < n) (hi : i < 256) : Calls Try.prog 13 #[.pointer (some ⟨p, 0, none⟩)] w fun e w' => e = .returned (.tuple #[.int .i64 ((i % n : Nat) : Int), .bool true]) ∧ Row2 w0 w' p g cap (roundT n (wOf x) ((i + 1) / n) ((i + 1) % n)) := by
  have hw := wOf_in hx
  have hr := Nat.div_le_self i n
  have hs := roundT_next (n := n) (r := i / n) (k := i % n) hw.1 hw.2 (by omega) (Nat.mod_lt _ hn)
  refine (next_any w p g cap _ h.r (roundT_fit hw.1 hw.2 (by omega))).mono ?_
  rintro e w' ⟨rfl, hr, hg⟩
  rw [hs.2.2, turn_eq _ _ _ hn] at hr; rw [hs.1, hs.2.1]; exact ⟨rfl, h.step hr hg⟩
set_option maxHeartbeats 1000000 in
theorem walk (W : World) (n0 : Int) (hn0 : (Lit.int .i64 n0).wf = true) (x : Nat) (hx : x < 18446744073709551616) (rr : Int) (hrr : (Lit.int .u8 rr).wf = true) :
    Calls Try.prog 3 #[.int .i64 n0, .float .f64 x, .int .u8 rr] W fun e w' => e = .returned (.bool true) ∧ Below W.heap.size W w' := by
  have HP := Lib.hid fun w => pick_any n0 8 (by omega) (by omega) (bounds_i64 hn0) w
  obtain ⟨m, hm⟩ : ∃ m : Nat, n0 % 8 = m := ⟨(n0 % 8).toNat, by have := Int.emod_nonneg n0 (show (8 : Int) ≠ 0 by omega); omega⟩
  have hm8 : m < 8 := by have := Int.emod_lt_of_pos n0 (show (0 : Int) < 8 by omega); omega
  rw [hm] at HP
  clear hm hn0
  obtain ⟨n, hn⟩ : ∃ n : Nat, n = m + 1 := ⟨_, rfl⟩
  have hn1 : 1 ≤ n := by omega
  have hn8 : n ≤ 8 := by omega
  obtain ⟨rb, hre, hrb⟩ : ∃ rb : Nat, rr = rb ∧ rb < 256 := by
    have h := bounds_u8 hrr
    exact ⟨rr.toNat, by omega, by omega⟩
  subst hre
  clear hrr
  have e0 : wrap64 (1 + (m : Int)) = (n : Int) := by rw [IntWalk.wrap64_in _ (by omega)]; omega
  have e1 : IntKind.i64.wrap (1 + (m : Int)) = (n : Int) := by rw [IntWalk.i64_in _ (by omega)]; omega
  have e2 : IntKind.i64.wrap (rb : Int) = (rb : Int) := IntWalk.i64_in _ (by omega)
  have e3 : wrap64 (rb : Int) = (rb : Int) := IntWalk.wrap64_in _ (by omega)
  have HN := Lib.hid fun w => fnew_at w n hn1 hn8
  have HX := Lib.hid hx
  clear hx hn hm8
  go_enter Try.func3, Try.ntmps3
  go_wp2_with (first | (go_at_call 9; refine (HP.out _).mono ?_; rintro e w' ⟨rfl, rfl⟩) | (go_at_call 10; refine (HN.out _).mono ?_; rintro e w1 ⟨g, cap, rfl, hr, hg, hB⟩))
  have HR : Hid (Row2 w1 w1 W.heap.size g cap (setupT n (wOf x) 0)) := ⟨by rw [setupT_zero]; exact hr, Fr.refl _ _⟩
  have HB := Lib.hid hB
  clear hr hB e0 e1
  go_loopw [9] (fun t wr => ∃ i : Nat, t = .int .i64 i ∧ i ≤ n ∧ Hid (Row2 w1 wr W.heap.size g cap (setupT n (wOf x) i))) (fun t _ => n - (intOf t).toNat)
  case atStart => exact ⟨0, rfl, Nat.zero_le _, HR⟩
  case round =>
    obtain ⟨i, rfl, j1, hR⟩ := hrel
    have hi0 : (0 : Int) ≤ (i : Int) := Int.natCast_nonneg _
    by_cases hlt : i < n
    · have hlt' : (i : Int) < (n : Int) := by omega
      go_wp2_with (first | (go_at_call 11; refine (weight_c hR.out HX.out hlt).mono ?_; rintro e w2 ⟨rfl, h2⟩; replace h2 := Lib.hid h2) | (go_at_call 12; refine (wake_c h2.out HX.out hlt).mono ?_; rintro e w3 ⟨rfl, h3⟩; replace h3 := Lib.hid h3))
      go_roundw
      case rel => exact ⟨i + 1, by go_num, by omega, h3⟩
      case measure => simp only [intOf]; omega
    · obtain rfl : i = n := by omega
      have HS : Hid (Row2 w1 wr W.heap.size g cap (roundT i (wOf x) (0 / i) (0 % i))) := by
        have h := hR.out
        rw [setupT_end] at h
        unfold Hid
        rw [Nat.zero_div, Nat.zero_mod]; exact h
      clear HR hR
      go_wp2
      go_loopw [10] (fun t wr => ∃ j : Nat, t = .int .i64 j ∧ j ≤ rb ∧ Hid (Row2 w1 wr W.heap.size g cap (roundT i (wOf x) (j / i) (j % i)))) (fun t _ => rb - (intOf t).toNat)
      case atStart => exact ⟨0, rfl, Nat.zero_le _, HS⟩
      case round =>
        obtain ⟨j, rfl, j2, hR⟩ := hrel
        have hj0 : (0 : Int) ≤ (j : Int) := Int.natCast_nonneg _
        by_cases hlt2 : j < rb
        · have hlt2' : (j : Int) < (rb : Int) := by omega
          have hz : ((i : Int) == 0) = false := by rw [beq_eq_false_iff_ne]; omega
          have hz2 : ¬ (i : Int) = 0 := by omega
          have htm : (j : Int).tmod (i : Int) = ((j % i : Nat) : Int) := by rw [Int.tmod_eq_emod_of_nonneg hj0]; rfl
          go_wp2_with (first | (go_at_call 13; refine (next_c hR.out HX.out hn1 (by omega)).mono ?_; rintro e w2 ⟨rfl, h2⟩; replace h2 := Lib.hid h2))
          go_roundw
          case rel => exact ⟨j + 1, by go_num, by omega, h2⟩
          case measure => simp only [intOf]; omega
        · obtain rfl : j = rb := by omega
          go_wp2_with (go_at_call 14; refine (awake_ok _).mono ?_; rintro e w2 ⟨rfl, hB2⟩)
          go_ret
          exact ⟨rfl, below_chain (HB.out.trans (hR.out.f.below HB.out.size fun q hq => by omega)) hB2⟩

/-! The row's step. -/
theorem own : ownKnob Try.prog.godebug = none := by kernel_rfl
theorem laidOut : laidOutB Try.prog = true := by kernel_rfl
set_option linter.unusedVariables false
set_option maxRecDepth 100000 in
theorem lifted (os : Os) (started : os.Started) (H : Type) (enc : TypeId × Value → H) :
    ReturnsInHanded {} Try.checked os 3 .any (Rows.fairRoundSpec.pre6 enc Try.prog Try.f3 Rows.fairRoundRow.domain false) (Rows.fairRoundSpec.post enc Try.prog Try.f3 false true false false) := by
  refine returnsInHanded_of_change_sized (C := Try.checked) own started (by kernel_rfl) Try.func3
    (ChangeSpec.witness6 (enc := enc) (C := Try.checked) false ⟨#[], #[.int .i64 0, .float .f64 0, .int .u8 0], []⟩ 8 (by kernel_rfl) (by kernel_rfl) (by kernel_rfl) (by kernel_rfl)) ?_
  intro W base args ds gs before hval0 hW _ hsz0 _
  have hsz : (DataW.weightsEach Try.prog (Try.f3.params.toList ++ Rows.fairRoundSpec.plain.varTypes Try.prog) (ds ++ gs)).all (· ≤ reachBytes) = true := hsz0
  clear hsz0
  have hval : ∀ (j : Nat) t v, Try.f3.params[j]? = some t → args[j]? = some v → Value.okWide Try.prog W .any base t v := hval0
  have hW' := hW
  obtain ⟨p, q, hA0, hV, rfl, hfz, hnd⟩ := hW
  have hA : DataW.TrodAll enc Try.prog W 0 (fun _ => true) true Try.f3.params.toList args.toList ds p := hA0
  rw [Try.params3] at hA hval hsz
  obtain ⟨v0, vs0, d0, ds0, p0, q0, hargs, rfl, rfl, h0, r0⟩ := trodAll_cons hA
  obtain ⟨v1, vs1, d1, ds1, p1, q1, rfl, rfl, rfl, h1, r1⟩ := trodAll_cons r0
  obtain ⟨v2, vs2, d2, ds2, p2, q2, rfl, rfl, rfl, h2, r2⟩ := trodAll_cons r1
  obtain ⟨rfl, rfl, rfl⟩ := trodAll_nil r2
  obtain rfl : args = #[v0, v1, v2] := by cases args; simp_all
  obtain ⟨rfl, rfl⟩ := trodVars_none hV
  obtain ⟨a0, rfl, rfl, rfl, w0⟩ := open_int Try.underlying3 (hval 0 3 v0 rfl rfl) h0
  obtain ⟨a1, rfl, rfl, rfl, w1⟩ := open_float Try.underlying22 (hval 1 22 v1 rfl rfl) h1
  obtain ⟨a2, rfl, rfl, rfl, w2⟩ := open_int Try.underlying5 (hval 2 5 v2 rfl rfl) h2
  clear hA0 hval0
  refine (walk W a0 w0 a1 (float_lt w1) a2 w2).mono fun e W' ⟨he, bel⟩ => ?_
  subst he
  exact ⟨_, rfl, _, _, _, [], _, [], hW', trodAll_mk1 (shut_bool Try.underlying4 _), (trodAll_cons_mk (shut_int Try.underlying3 w0) (trodAll_cons_mk (shut_float Try.underlying22 w1) (trodAll_cons_mk (shut_int Try.underlying5 w2) trodAll_mk0))), rfl, bel.frame _, fun h => by cases h⟩

theorem over : Rows.fairRoundRow.holds Try.pinned (OpenSpec.ofChange Rows.fairRoundSpec) :=
  OpenClaim.holds_of_wide 3 Try.f3 rfl rfl rfl rfl rfl rfl rfl ⟨rfl, rfl, rfl, rfl, rfl⟩ rfl rfl rfl rfl rfl (by kernel_rfl) Try.func3 (by kernel_rfl)
    (of_decide_eq_true (by kernel_rfl)) (by unfold Func.isWrapper; first | (rw [if_pos (by decide +kernel)]; kernel_rfl) | (rw [if_neg (by decide +kernel)]; exact ⟨rfl, rfl⟩))
    (fun os started H enc _ => lifted os started H enc)

/-- THE STATEMENT. -/
theorem proved : Rows.FairRoundSaid := over

#print axioms proved
end Go.Proofs.Ytpfdfbmoegajbaa.fairRound
