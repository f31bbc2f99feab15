/- HeatRight: for every half and every list of acts the law returns true. -/
import Derived.Test.YtfkbdijgdhddaaaHm
namespace Go.Proofs.Ytfkbdijgdhddaaa.heatRight
open Go.ChangeShapes Go.WideShapes Go.ChangeAt Go.RowKit
set_option maxRecDepth 100000
set_option maxHeartbeats 1000000 in
theorem walk (W : World) (hf : Int) (wh : (Lit.int .i64 hf).wf = true) (a : Option Addr) (len cap : Nat) (zs : List (Int × Int × Nat)) (hI : IsA W a len cap zs) (_r : len * 24 ≤ 140737488351232) :
    Calls Try.prog 6 #[.int .i64 hf, .slice a len cap] W fun e w' => e = .returned (.bool true) ∧ Below W.heap.size W w' := by
  have HL := Lib.hid (laid_any W hf (bounds_i64 wh) a len cap zs hI)
  clear wh
  have hmax := hI.hmax
  have hcap := hI.hcap
  have HI := Lib.hid hI
  have Hlen := Lib.hid hI.hlen
  clear hI
  unfold maxLen at hmax
  have sg0 : FP.sgn 0 = false := by decide +kernel
  go_enter Try.func6, Try.ntmps6
  go_wp2_with fail
  refine HL.out.mono ?_
  rintro e w1 ⟨p, q, r, half, now, rfl, hb, _, hB⟩
  clear HL
  obtain ⟨f, hf1, hf2⟩ := both_of hb
  clear hb
  have F1 := Lib.hid hf1; clear hf1
  have F2 := Lib.hid hf2; clear hf2
  go_wp2_with fail
  go_loopw [7] (fun iv wr => ∃ i : Nat, iv = .int .i64 i ∧ i ≤ len ∧ i ≤ 200 ∧ Below w1.heap.size w1 wr) (fun iv _ => len - (intOf iv).toNat)
  case atStart => exact ⟨0, rfl, by omega, by omega, Below.refl _ _⟩
  case round =>
    obtain ⟨i, rfl, i1, i2, hBr⟩ := hrel
    have hBW := below_chain hB hBr
    by_cases hlt : i < len
    · by_cases h200 : (i : Int) < 200
      · obtain ⟨b, off, ha, hb, hc⟩ : ∃ b off, a = some ⟨b, off, none⟩ ∧ b < W.heap.size ∧ ∀ i, i < zs.length → W.cell? ⟨b, off + i * 3, none⟩ = some (.int .i64 (zs.getD i (0, 0, 0)).1) ∧ W.cell? ⟨b, off + i * 3 + 1, none⟩ = some (.int .i64 (zs.getD i (0, 0, 0)).2.1) ∧ W.cell? ⟨b, off + i * 3 + 2, none⟩ = some (.float .f64 (zs.getD i (0, 0, 0)).2.2) := by
          rcases HI.out.at_ with e | h
          · have := Hlen.out; rw [e] at this; simp at this; omega
          · exact h
        subst ha
        obtain ⟨-, k1, -⟩ := hc i (by have := Hlen.out; omega)
        clear hc
        have k1' := (hBW.cell (p := ⟨b, off + i * 3 + 1, none⟩) hb).trans k1
        clear k1
        generalize (zs.getD i (0, 0, 0)).2.1 = ky at k1'
        have hi0 : (0 : Int) ≤ (i : Int) := Int.natCast_nonneg _
        have hi1 : (i : Int) < (len : Int) := by omega
        have HO := Lib.hid (F2.out wr hBr ky).1
        have Hy := Lib.hid (F1.out ky)
        generalize f ky = y at HO Hy
        have n1 := nan_ne (right_fix_num Hy.out.1)
        cases hz : (FloatKind.f64.format.order y 0 == some Ordering.eq)
        · go_wp2_with (go_at_call 12; refine HO.out.mono ?_; rintro e w2 ⟨rfl, hB2⟩)
          have hB3 := below_chain hBr hB2
          go_roundw
          case rel => exact ⟨i + 1, by go_num, by omega, by omega, hB3⟩
          case measure => simp [intOf]; omega
        · have hy0 := right_fix_zero Hy.out.1 hz
          subst hy0
          go_wp2_with (first | (go_at_call 12; refine HO.out.mono ?_; rintro e w2 ⟨rfl, hB2⟩) | (go_at_call 17; refine (signbit_any 0 _ (by omega)).mono ?_; rw [sg0]; rintro e w' ⟨rfl, rfl⟩))
          have hB3 := below_chain hBr hB2
          go_roundw
          case rel => exact ⟨i + 1, by go_num, by omega, by omega, hB3⟩
          case measure => simp [intOf]; omega
      · go_wp2_with (go_at_call 13; refine (awake_any _).mono ?_; rintro e w' ⟨rfl, hBz⟩)
        go_ret
        exact ⟨rfl, below_chain hBW hBz⟩
    · go_wp2_with (go_at_call 13; refine (awake_any _).mono ?_; rintro e w' ⟨rfl, hBz⟩)
      go_ret
      exact ⟨rfl, below_chain hBW hBz⟩

/-! The row's step. -/
theorem own : ownKnob Try.prog.godebug = none := by kernel_rfl
theorem laidOut : laidOutB Try.prog = true := by kernel_rfl
set_option linter.unusedVariables false
set_option maxRecDepth 100000 in
theorem lifted (os : Os) (started : os.Started) (H : Type) (enc : TypeId × Value → H) :
    ReturnsInHanded {} Try.checked os 6 .any (Rows.heatRightSpec.pre6 enc Try.prog Try.f6 Rows.heatRightRow.domain false) (Rows.heatRightSpec.post enc Try.prog Try.f6 false true false false) := by
  refine returnsInHanded_of_change_sized (C := Try.checked) own started (by kernel_rfl) Try.func6
    (ChangeSpec.witness6 (enc := enc) (C := Try.checked) false ⟨#[], #[.int .i64 0, .slice none 0 0], []⟩ 8 (by kernel_rfl) (by kernel_rfl) (by kernel_rfl) (by kernel_rfl)) ?_
  intro W base args ds gs before hval0 hW _ hsz0 _
  have hsz : (DataW.weightsEach Try.prog (Try.f6.params.toList ++ Rows.heatRightSpec.plain.varTypes Try.prog) (ds ++ gs)).all (· ≤ reachBytes) = true := hsz0
  clear hsz0
  have hval : ∀ (j : Nat) t v, Try.f6.params[j]? = some t → args[j]? = some v → Value.okWide Try.prog W .any base t v := hval0
  have hW' := hW
  obtain ⟨p, q, hA0, hV, rfl, hfz, hnd⟩ := hW
  have hA : DataW.TrodAll enc Try.prog W 0 (fun _ => true) true Try.f6.params.toList args.toList ds p := hA0
  rw [Try.params6] at hA hval hsz
  obtain ⟨v0, vs0, d0, ds0, p0, q0, hargs, rfl, rfl, h0, r0⟩ := trodAll_cons hA
  obtain ⟨v1, vs1, d1, ds1, p1, q1, rfl, rfl, rfl, h1, r1⟩ := trodAll_cons r0
  obtain ⟨rfl, rfl, rfl⟩ := trodAll_nil r1
  obtain rfl : args = #[v0, v1] := by cases args; simp_all
  obtain ⟨rfl, rfl⟩ := trodVars_none hV
  obtain ⟨a0, rfl, rfl, rfl, w0⟩ := open_int Try.underlying3 (hval 0 3 v0 rfl rfl) h0
  obtain ⟨a1, len1, cap1, rfl⟩ := okWide_slice Try.underlying32 (hval 1 32 v1 rfl rfl)
  have lt1 : ∀ x ∈ p1, x.block < W.heap.size := by obtain ⟨m, hm⟩ := h1; exact DataW.trod_lt m _ _ _ hm
  obtain ⟨⟨z1, w1⟩, hf1⟩ := open_a Try.underlying32 Try.underlying39 rfl rfl rfl rfl rfl rfl Try.underlying3 Try.underlying3 Try.underlying23 (by kernel_rfl) (by kernel_rfl) (by kernel_rfl) (by kernel_rfl) h1
  have rc1 := reach_slice hsz (j := 1) (e := 39) rfl rfl Try.underlying32 (k := 24) (by kernel_rfl) hf1
  clear hf1
  clear hA0 hval0
  refine (walk W a0 w0 a1 len1 cap1 z1 w1 rc1).mono fun e W' ⟨he, bel⟩ => ?_
  subst he
  exact ⟨_, rfl, _, _, _, [], _, [], hW', trodAll_mk1 (shut_bool Try.underlying4 _), (trodAll_cons_mk (shut_int Try.underlying3 w0) (trodAll_cons_mk (Below.trod laidOut (by kernel_rfl) (of_decide_eq_true (by kernel_rfl)) h1 bel lt1) trodAll_mk0)), rfl, bel.frame _, fun h => by cases h⟩

theorem over : Rows.heatRightRow.holds Try.pinned (OpenSpec.ofChange Rows.heatRightSpec) :=
  OpenClaim.holds_of_wide 6 Try.f6 rfl rfl rfl rfl rfl rfl rfl ⟨rfl, rfl, rfl, rfl, rfl⟩ rfl rfl rfl rfl rfl (by kernel_rfl) Try.func6 (by kernel_rfl)
    (of_decide_eq_true (by kernel_rfl)) (by unfold Func.isWrapper; first | (rw [if_pos (by decide +kernel)]; kernel_rfl) | (rw [if_neg (by decide +kernel)]; exact ⟨rfl, rfl⟩))
    (fun os started H enc _ => lifted os started H enc)

/-- THE STATEMENT. -/
theorem proved : Rows.HeatRightSaid := over

#print axioms proved
end Go.Proofs.Ytfkbdijgdhddaaa.heatRight
