/- HeatFades: for every half, every two numbers and every count the law returns true. -/
import Derived.Test.YtfkbdijgdhddaaaHd
namespace Go.Proofs.Ytfkbdijgdhddaaa.heatFades
open Go.ChangeShapes Go.WideShapes Go.ChangeAt Go.RowKit
set_option maxRecDepth 100000
/-- Two spots that stay while others are touched. -/
structure Two (w : World) (p : Nat) (half now : Int) (b : Nat) (v1 v2 : Nat) : Prop where
  ex : ∃ L, HeatAt w p half now b L ∧ spotOf L 1 = (v1, 1) ∧ spotOf L 2 = (v2, 2)
theorem two_touch {w : World} {p b : Nat} {half now : Int} {v1 v2 : Nat} (h : Two w p half now b v1 v2) (hn : now < 1000000000) (x : Nat) :
    Calls Try.prog 9 #[.pointer (some ⟨p, 0, none⟩), .int .i64 3, .float .f64 x] w fun e w' => e = .returned (.tuple #[]) ∧ Two w' p half (now + 1) b v1 v2 ∧ Fr (fun q => q = p ∨ q = b) w w' := by
  obtain ⟨L, hL, s1, s2⟩ := h.ex
  refine (touch_at w p b half now L hL hn 3 x).mono fun e w' ⟨he, h', hf⟩ => ⟨he, ⟨_, h', ?_, ?_⟩, hf⟩
  · rw [spot_upd, if_neg (by omega)]; exact s1
  · rw [spot_upd, if_neg (by omega)]; exact s2
theorem two_of1 {w : World} {p b : Nat} {half now : Int} {v1 v2 : Nat} (h : Two w p half now b v1 v2) :
    Calls Try.prog 12 #[.pointer (some ⟨p, 0, none⟩), .int .i64 1] w fun e w' => e = .returned (.float .f64 (heatOf half now (v1, 1))) ∧ Below w.heap.size w w' ∧ Two w' p half now b v1 v2 := by
  obtain ⟨L, hL, s1, s2⟩ := h.ex
  refine (of_at w p b half now L hL 1).mono fun e w' ⟨he, hB⟩ => ⟨?_, hB, ⟨L, hL.later hB, s1, s2⟩⟩
  rw [he, s1]
theorem two_of2 {w : World} {p b : Nat} {half now : Int} {v1 v2 : Nat} (h : Two w p half now b v1 v2) :
    Calls Try.prog 12 #[.pointer (some ⟨p, 0, none⟩), .int .i64 2] w fun e w' => e = .returned (.float .f64 (heatOf half now (v2, 2))) ∧ Below w.heap.size w w' ∧ Two w' p half now b v1 v2 := by
  obtain ⟨L, hL, s1, s2⟩ := h.ex
  refine (of_at w p b half now L hL 2).mono fun e w' ⟨he, hB⟩ => ⟨?_, hB, ⟨L, hL.later hB, s1, s2⟩⟩
  rw [he, s2]
theorem two_lt {w : World} {p b : Nat} {half now : Int} {v1 v2 : Nat} (h : Two w p half now b v1 v2) : v1 < 18446744073709551616 ∧ v2 < 18446744073709551616 := by
  obtain ⟨L, hL, s1, s2⟩ := h.ex
  have h1 := (hL.sp 1).1
  have h2 := (hL.sp 2).1
  rw [s1] at h1; rw [s2] at h2
  exact ⟨h1, h2⟩
set_option maxHeartbeats 2000000 in
theorem walk (W : World) (hf : Int) (wh : (Lit.int .i64 hf).wf = true) (a : Nat) (_wa : a < 18446744073709551616) (b : Nat) (_wb : b < 18446744073709551616) (n : Int) (wn : (Lit.int .i64 n).wf = true) :
    Calls Try.prog 7 #[.int .i64 hf, .float .f64 a, .float .f64 b, .int .i64 n] W fun e w' => e = .returned (.bool true) ∧ Below W.heap.size W w' := by
  have bh := bounds_i64 wh
  have bn := bounds_i64 wn
  have m1 := Int.emod_nonneg hf (show (50 : Int) ≠ 0 by omega)
  have m2 := Int.emod_lt_of_pos hf (show (0 : Int) < 50 by omega)
  have k1 := Int.emod_nonneg n (show (300 : Int) ≠ 0 by omega)
  have k2 := Int.emod_lt_of_pos n (show (0 : Int) < 300 by omega)
  have Pk1 := Lib.hid (pick_any hf 50 (by omega) (by omega) bh)
  have Pk2 := Lib.hid (pick_any n 300 (by omega) (by omega) bn)
  clear wh wn bh bn
  generalize hf % 50 = g at m1 m2 Pk1
  generalize n % 300 = m at k1 k2 Pk2
  go_enter Try.func7, Try.ntmps7
  go_wp2_with fail
  refine (Pk1.out _).mono ?_
  rintro e w' ⟨rfl, rfl⟩
  go_wp2_with fail
  refine (new_good (1 + g) (by omega) (by omega) _).mono ?_
  rintro e w1 ⟨p, q, rfl, h1, hp, hq, hB⟩
  have H1 := Lib.hid h1; clear h1
  go_wp2_with fail
  refine (touch_at w1 p q (1 + g) 0 [] H1.out (by omega) 1 a).mono ?_
  rintro e w2 ⟨rfl, h2, f2⟩
  have H2 := Lib.hid h2
  have hB2 := fr_below hB hp hq f2
  clear h2 f2
  go_wp2_with fail
  refine (touch_at w2 p q (1 + g) 1 _ H2.out (by omega) 2 b).mono ?_
  rintro e w3 ⟨rfl, h3, f3⟩
  have hB3 := fr_below hB2 hp hq f3
  have HT : ∃ v1 v2, rightB v1 = v1 ∧ rightB v2 = v2 ∧ Two w3 p (1 + g) 2 q v1 v2 := ⟨_, _, addR_right _ _, addR_right _ _, ⟨_, h3, rfl, rfl⟩⟩
  clear h3 f3 H1 H2
  obtain ⟨v1, v2, r1, r2, hT⟩ := HT
  have R1 := Lib.hid r1; clear r1
  have R2 := Lib.hid r2; clear r2
  have T3 := Lib.hid hT; clear hT
  have V1 := Lib.hid (two_lt T3.out).1
  have V2 := Lib.hid (two_lt T3.out).2
  have O1 := Lib.hid (heatOf_lt (1 + g) 2 (s := (v1, 1)) V1.out)
  have O2 := Lib.hid (heatOf_lt (1 + g) 2 (s := (v2, 2)) V2.out)
  have E2 : Hid (heatOf (1 + g) 2 (v2, 2) = v2) := by
    unfold Hid heatOf; simp [FP.fadeB, R2.out]
  go_wp2_with fail
  refine (Pk2.out _).mono ?_
  rintro e w' ⟨rfl, rfl⟩
  go_wp2_with fail
  refine (two_of1 T3.out).mono ?_
  rintro e w4 ⟨rfl, b4, t4⟩
  have hB4 := below_chain hB3 b4
  have T4 := Lib.hid t4; clear t4 b4
  go_wp2_with fail
  refine (two_of2 T4.out).mono ?_
  rw [E2.out] at O2
  rw [E2.out]
  rintro e w5 ⟨rfl, b5, t5⟩
  have hB5 := below_chain hB4 b5
  have T5 := Lib.hid t5; clear t5 b5
  go_wp2_with fail
  refine (refLess_any _ _ _ O1.out V2.out).mono ?_
  rintro e w' ⟨rfl, rfl⟩
  have HC : Hid (∀ i : Int, 0 ≤ i → 1 < 1 + g → i % (1 + g) = 0 → FP.ltB (heatOf (1 + g) 2 (v1, 1)) v2 = true → FP.ltB (heatOf (1 + g) (2 + i) (v2, 2)) (heatOf (1 + g) (2 + i) (v1, 1)) = false) :=
    fun i hi hh hm hw => colder_stays R1.out R2.out hh hi hm (by rw [E2.out]; exact hw)
  generalize hwv : FP.ltB (heatOf (1 + g) 2 (v1, 1)) v2 = wv at HC
  clear hwv
  go_wp2_with fail
  refine (two_of2 T5.out).mono ?_
  rw [E2.out]
  rintro e w6 ⟨rfl, b6, t6⟩
  have hB6 := below_chain hB5 b6
  have T6 := Lib.hid t6; clear t6 b6
  clear hB hB2 hB3 hB4 hB5 T3 T4 T5
  go_wp2_with fail
  go_loopw [13] (fun v i_ => ∃ i : Int, v = .int .i64 i ∧ 1 ≤ i ∧ i ≤ m + 1 ∧ Hid (Two i_ p (1 + g) (1 + i) q v1 v2) ∧ Below W.heap.size W i_) (fun v _ => (m + 1 - intOf v).toNat)
  case atStart => exact ⟨1, rfl, by omega, by omega, T6.out, hB6⟩
  case round =>
    obtain ⟨i, rfl, i1, i2, T, hB⟩ := hrel
    clear T6 hB6
    by_cases hle : i ≤ m
    · have e0 : 0 ≤ i / (1 + g) := Int.ediv_nonneg (by omega) (by omega)
      have e6 : i / (1 + g) ≤ i := Int.ediv_le_self _ (by omega)
      have e7 : 0 ≤ i % (1 + g) := Int.emod_nonneg _ (by omega)
      have Y := Lib.hid (rightB_lt (FP.fadeB_lt V2.out (i / (1 + g)).toNat))
      have EQ2 : Hid (heatOf (1 + g) (1 + i + 1) (v2, 2) = rightB (FP.fadeB (i / (1 + g)).toNat v2)) := by
        unfold Hid heatOf; rw [show 1 + i + 1 - 2 = i by omega]
      have hsame := FP.sameB_refl (rightB (FP.fadeB (i / (1 + g)).toNat v2))
      have HCi := Lib.hid (HC.out i (by omega))
      rw [show (2 : Int) + i = 1 + i + 1 by omega, EQ2.out] at HCi
      have O1' := Lib.hid (heatOf_lt (1 + g) (1 + i + 1) (s := (v1, 1)) V1.out)
      go_wp2_with fail
      refine (two_touch T.out (by omega) _).mono ?_
      rintro e w7 ⟨rfl, t7, f7⟩
      have hB7 := fr_below hB hp hq f7
      have T7 := Lib.hid t7; clear t7 f7
      go_wp2_with fail
      refine (refFade_any _ _ V2.out (by omega) _).mono ?_
      rintro e w' ⟨rfl, rfl⟩
      go_wp2_with fail
      refine (refRight_any _ _).mono ?_
      rintro e w' ⟨rfl, rfl⟩
      go_wp2_with fail
      refine (two_of2 T7.out).mono ?_
      rw [EQ2.out]
      rintro e w8 ⟨rfl, b8, t8⟩
      have hB8 := below_chain hB7 b8
      have T8 := Lib.hid t8; clear t8 b8
      generalize rightB (FP.fadeB (i / (1 + g)).toNat v2) = y at Y EQ2 hsame HCi
      go_wp2_with fail
      refine (same_any _ _ _ Y.out Y.out).mono ?_
      rintro e w' ⟨rfl, rfl⟩
      clear hB hB7 T T7
      by_cases c1 : i % (1 + g) = 0
      · have c1' : (i % (1 + g) == 0) = true := by rw [beq_iff_eq]; exact c1
        have C1 := Lib.hid c1; clear c1
        by_cases c2 : 1 < 1 + g
        · cases wv with
          | true =>
            have hno := HCi.out c2 C1.out rfl
            go_wp2_with fail
            refine (two_of2 T8.out).mono ?_
            rw [EQ2.out]
            rintro e w9 ⟨rfl, b9, t9⟩
            have hB9 := below_chain hB8 b9
            have T9 := Lib.hid t9; clear t9 b9
            go_wp2_with fail
            refine (two_of1 T9.out).mono ?_
            rintro e w10 ⟨rfl, b10, t10⟩
            have hB10 := below_chain hB9 b10
            have T10 := Lib.hid t10; clear t10 b10
            go_wp2_with fail
            refine (refLess_any _ _ _ Y.out O1'.out).mono ?_
            rw [hno]
            rintro e w' ⟨rfl, rfl⟩
            clear hB8 hB9 T8 T9
            go_wp2
            go_roundw
            case rel => exact ⟨i + 1, rfl, by omega, by omega, by rw [show 1 + (i + 1) = 1 + i + 1 by omega]; exact T10.out, hB10⟩
            case measure => simp [intOf]; omega
          | false =>
            go_wp2
            go_roundw
            case rel => exact ⟨i + 1, rfl, by omega, by omega, by rw [show 1 + (i + 1) = 1 + i + 1 by omega]; exact T8.out, hB8⟩
            case measure => simp [intOf]; omega
        · go_wp2
          go_roundw
          case rel => exact ⟨i + 1, rfl, by omega, by omega, by rw [show 1 + (i + 1) = 1 + i + 1 by omega]; exact T8.out, hB8⟩
          case measure => simp [intOf]; omega
      · have c1' : (i % (1 + g) == 0) = false := by rw [beq_eq_false_iff_ne]; exact c1
        clear c1
        go_wp2
        go_roundw
        case rel => exact ⟨i + 1, rfl, by omega, by omega, by rw [show 1 + (i + 1) = 1 + i + 1 by omega]; exact T8.out, hB8⟩
        case measure => simp [intOf]; omega
    · go_wp2_with (go_at_call 13; refine (awake_any _).mono ?_; rintro e w' ⟨rfl, hBz⟩)
      go_ret
      exact ⟨rfl, below_chain hB hBz⟩

/-! The row's step. -/
theorem own : ownKnob Try.prog.godebug = none := by kernel_rfl
theorem laidOut : laidOutB Try.prog = true := by kernel_rfl
set_option linter.unusedVariables false
set_option maxRecDepth 100000 in
theorem lifted (os : Os) (started : os.Started) (H : Type) (enc : TypeId × Value → H) :
    ReturnsInHanded {} Try.checked os 7 .any (Rows.heatFadesSpec.pre6 enc Try.prog Try.f7 Rows.heatFadesRow.domain false) (Rows.heatFadesSpec.post enc Try.prog Try.f7 false true false false) := by
  refine returnsInHanded_of_change_sized (C := Try.checked) own started (by kernel_rfl) Try.func7
    (ChangeSpec.witness6 (enc := enc) (C := Try.checked) false ⟨#[], #[.int .i64 0, .float .f64 0, .float .f64 0, .int .i64 0], []⟩ 8 (by kernel_rfl) (by kernel_rfl) (by kernel_rfl) (by kernel_rfl)) ?_
  intro W base args ds gs before hval0 hW _ hsz0 _
  have hsz : (DataW.weightsEach Try.prog (Try.f7.params.toList ++ Rows.heatFadesSpec.plain.varTypes Try.prog) (ds ++ gs)).all (· ≤ reachBytes) = true := hsz0
  clear hsz0
  have hval : ∀ (j : Nat) t v, Try.f7.params[j]? = some t → args[j]? = some v → Value.okWide Try.prog W .any base t v := hval0
  have hW' := hW
  obtain ⟨p, q, hA0, hV, rfl, hfz, hnd⟩ := hW
  have hA : DataW.TrodAll enc Try.prog W 0 (fun _ => true) true Try.f7.params.toList args.toList ds p := hA0
  rw [Try.params7] at hA hval hsz
  obtain ⟨v0, vs0, d0, ds0, p0, q0, hargs, rfl, rfl, h0, r0⟩ := trodAll_cons hA
  obtain ⟨v1, vs1, d1, ds1, p1, q1, rfl, rfl, rfl, h1, r1⟩ := trodAll_cons r0
  obtain ⟨v2, vs2, d2, ds2, p2, q2, rfl, rfl, rfl, h2, r2⟩ := trodAll_cons r1
  obtain ⟨v3, vs3, d3, ds3, p3, q3, rfl, rfl, rfl, h3, r3⟩ := trodAll_cons r2
  obtain ⟨rfl, rfl, rfl⟩ := trodAll_nil r3
  obtain rfl : args = #[v0, v1, v2, v3] := by cases args; simp_all
  obtain ⟨rfl, rfl⟩ := trodVars_none hV
  obtain ⟨a0, rfl, rfl, rfl, w0⟩ := open_int Try.underlying3 (hval 0 3 v0 rfl rfl) h0
  obtain ⟨a1, rfl, rfl, rfl, w1⟩ := open_float Try.underlying23 (hval 1 23 v1 rfl rfl) h1
  obtain ⟨a2, rfl, rfl, rfl, w2⟩ := open_float Try.underlying23 (hval 2 23 v2 rfl rfl) h2
  obtain ⟨a3, rfl, rfl, rfl, w3⟩ := open_int Try.underlying3 (hval 3 3 v3 rfl rfl) h3
  clear hA0 hval0
  refine (walk W a0 w0 a1 (float_lt w1) a2 (float_lt w2) a3 w3).mono fun e W' ⟨he, bel⟩ => ?_
  subst he
  exact ⟨_, rfl, _, _, _, [], _, [], hW', trodAll_mk1 (shut_bool Try.underlying4 _), (trodAll_cons_mk (shut_int Try.underlying3 w0) (trodAll_cons_mk (shut_float Try.underlying23 w1) (trodAll_cons_mk (shut_float Try.underlying23 w2) (trodAll_cons_mk (shut_int Try.underlying3 w3) trodAll_mk0)))), rfl, bel.frame _, fun h => by cases h⟩

theorem over : Rows.heatFadesRow.holds Try.pinned (OpenSpec.ofChange Rows.heatFadesSpec) :=
  OpenClaim.holds_of_wide 7 Try.f7 rfl rfl rfl rfl rfl rfl rfl ⟨rfl, rfl, rfl, rfl, rfl⟩ rfl rfl rfl rfl rfl (by kernel_rfl) Try.func7 (by kernel_rfl)
    (of_decide_eq_true (by kernel_rfl)) (by unfold Func.isWrapper; first | (rw [if_pos (by decide +kernel)]; kernel_rfl) | (rw [if_neg (by decide +kernel)]; exact ⟨rfl, rfl⟩))
    (fun os started H enc _ => lifted os started H enc)

/-- THE STATEMENT. -/
theorem proved : Rows.HeatFadesSaid := over

#print axioms proved
end Go.Proofs.Ytfkbdijgdhddaaa.heatFades
