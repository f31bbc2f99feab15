/- FairNear: for every n and every list of acts the law returns true. -/
import Derived.Test.YtpfdfbmoegajbaaGp
import Derived.ProofKit
import Derived.OpenShut
import Derived.SizedLaws
namespace Go.Proofs.Ytpfdfbmoegajbaa.fairNear
open Go.ChangeShapes Go.WideShapes Go.ChangeAt Go.RowKit
set_option maxRecDepth 100000
theorem run_fsub {x y r : Nat} (h : floatBits .sub .f64 x y = some r) (t : TypeId) (w : World) : (binOp .sub t (.float .f64 x) (.float .f64 y)).run Try.prog w = .ok (.float .f64 r) w := run_float_arith w .sub t .f64 x y r h
theorem awk_at {T : List Tk} {k : Nat} (hk : k < (awk T T.length).length) : ∃ i : Nat, (awk T T.length).getD k 0 = i ∧ i < T.length ∧ (T.getD i tk0).1 = true := by
  obtain ⟨i, e, hi, ha⟩ := awk_mem (T := T) (n := T.length) (x := (awk T T.length).getD k 0) (by rw [List.getD_eq_getElem?_getD, List.getElem?_eq_getElem hk]; exact List.getElem_mem hk)
  exact ⟨i, e, hi, ha⟩
set_option maxHeartbeats 1000000 in
theorem walk (W : World) (n0 : Int) (hn0 : (Lit.int .i64 n0).wf = true) (a : Option Addr) (len cap : Nat) (zs : List (Int × Int × Nat)) (hI : IsA W a len cap zs) (hr : len * 24 ≤ 140737488351232) :
    Calls Try.prog 8 #[.int .i64 n0, .slice a len cap] W fun e w' => e = .returned (.bool true) ∧ Below W.heap.size W w' := by
  have HP := Lib.hid fun w => pick_any n0 8 (by omega) (by omega) (bounds_i64 hn0) w
  obtain ⟨m, hm⟩ : ∃ m : Nat, n0 % 8 = m := ⟨(n0 % 8).toNat, by have := Int.emod_nonneg n0 (show (8 : Int) ≠ 0 by omega); omega⟩
  have hm8 : m < 8 := by have := Int.emod_lt_of_pos n0 (show (0 : Int) < 8 by omega); omega
  rw [hm] at HP
  clear hm hn0 hr
  obtain ⟨n, hn⟩ : ∃ n : Nat, n = m + 1 := ⟨_, rfl⟩
  have b1 : 1 ≤ n := by omega
  have b2 : n ≤ 8 := by omega
  have e0 : wrap64 (1 + (m : Int)) = (n : Int) := by rw [IntWalk.wrap64_in _ (by omega)]; omega
  have e1 : IntKind.i64.wrap (1 + (m : Int)) = (n : Int) := by rw [IntWalk.i64_in _ (by omega)]; omega
  clear hn hm8
  have HI := Lib.hid hI
  have hmax := hI.hmax
  have hcap := hI.hcap
  clear hI
  unfold maxLen at hmax
  have HN := Lib.hid fun w => fnew_at w n b1 b2
  have HR := Lib.hid fun w => rnew_at w n b1 b2
  have hn0 : (0 : Int) ≤ (n : Int) := Int.natCast_nonneg _
  go_enter Try.func8, Try.ntmps8
  go_wp2_with (first | (go_at_call 9; refine (HP.out _).mono ?_; rintro e w' ⟨rfl, rfl⟩) | (go_at_call 10; refine (HN.out _).mono ?_; rintro e w1 ⟨g, cap1, rfl, hr, hg, hB⟩) | (go_at_call 15; refine (HR.out _).mono ?_; rintro e w2 ⟨g2, cap2, rfl, hx, hg2, hB2⟩))
  have H0 : Hid (Run W w2 W.heap.size g cap1 w1.heap.size g2 cap2 (fresh n) ∧ (fresh n).length = n ∧ Near 0 (fresh n)) := ⟨start_run hr hg hB hx hg2 hB2, by simp [fresh], Near.fresh n⟩
  obtain ⟨p2, hp2⟩ : ∃ p2, p2 = w1.heap.size := ⟨_, rfl⟩
  rw [← hp2] at H0 ⊢
  obtain ⟨p, hp⟩ : ∃ p, p = W.heap.size := ⟨_, rfl⟩
  rw [← hp] at H0 ⊢
  clear hr hg hB hx hg2 hB2 hp2
  have HPp := Lib.hid hp
  clear hp e0 e1
  generalize fresh n = T0 at H0
  go_loopw [8] (fun iv wr => ∃ i : Nat, ∃ T : List Tk, iv = .int .i64 i ∧ i ≤ len ∧ i ≤ 300 ∧ Hid (Run W wr p g cap1 p2 g2 cap2 T ∧ T.length = n ∧ Near i T)) (fun iv _ => len - (intOf iv).toNat)
  case atStart => exact ⟨0, T0, rfl, by omega, by omega, H0⟩
  case round =>
    obtain ⟨i, T, rfl, i1, i2, HRun⟩ := hrel
    clear H0 T0
    have hi0 : (0 : Int) ≤ (i : Int) := Int.natCast_nonneg _
    by_cases hlt : i < len ∧ i < 300
    · obtain ⟨hlt, h300⟩ := hlt
      have hi1 : (i : Int) < (len : Int) := by omega
      have hi3 : (i : Int) < 300 := by omega
      obtain ⟨b, off, rfl, c0, c1, c2⟩ := HI.out.one HRun.out.1.bel hlt
      have hz := HI.out.wfD hlt
      have HDo := Lib.hid (run_do W wr p g cap1 p2 g2 cap2 T HRun.out.1 (zs.getD i (0, 0, 0)) hz)
      have HT' : Hid ((actT T (zs.getD i (0, 0, 0)).1 (zs.getD i (0, 0, 0)).2.1 (zs.getD i (0, 0, 0)).2.2).length = n ∧ Near (i + 1) (actT T (zs.getD i (0, 0, 0)).1 (zs.getD i (0, 0, 0)).2.1 (zs.getD i (0, 0, 0)).2.2)) := ⟨(actT_length _ _ _ _).trans HRun.out.2.1, HRun.out.2.2.act HRun.out.1.fit (by omega) _ _ _⟩
      generalize (zs.getD i (0, 0, 0)).1 = zk at HDo c0 HT'
      generalize (zs.getD i (0, 0, 0)).2.1 = zt at HDo c1 HT'
      generalize (zs.getD i (0, 0, 0)).2.2 = zx at HDo c2 HT'
      generalize actT T zk zt zx = T1 at HDo HT'
      clear hz HRun
      have h8 : T1.length ≤ 8 := by have := HT'.out.1; omega
      go_wp2_with (first | (go_at_call 16; refine HDo.out.mono ?_; rintro e w3 ⟨rfl, h3⟩; have H3 := Lib.hid h3; clear h3) | (go_at_call 17; refine (awake_is _ p g cap1 T1 H3.out.pr.r).mono ?_; rintro e w4 ⟨a4, c4, rfl, hI4, -, hB4⟩; have HI4 := Lib.hid hI4; have HB4 := Lib.hid hB4; clear hI4 hB4))
      have H4 : Hid (Run W w4 p g cap1 p2 g2 cap2 T1) := H3.out.below HB4.out
      clear H3 HDo c0 c1 c2 HB4
      have hc1 := HI4.out.hcap
      have hc2 := HI4.out.hmax
      unfold maxLen at hc2
      have HM := Lib.hid fun (x : Nat) (hx : x < (awk T1 T1.length).length) => awk_at hx
      generalize awk T1 T1.length = A at HI4 hc1 HM
      go_loopw [10] (fun kv wr => ∃ x : Nat, ∃ nd : Nat, kv = .int .i64 x ∧ x ≤ A.length ∧ wr = w4.drewN nd) (fun kv _ => A.length - (intOf kv).toNat)
      case atStart => exact ⟨0, 0, rfl, by omega, rfl⟩
      case round =>
        obtain ⟨x, nd, rfl, x1, rfl⟩ := hrel
        have hx0 : (0 : Int) ≤ (x : Int) := Int.natCast_nonneg _
        by_cases hlx : x < A.length
        · have hlx' : (x : Int) < (A.length : Int) := by omega
          obtain ⟨xi, hxi, hxl, hxa⟩ := HM.out x hlx
          obtain ⟨b, off, rfl, hbl, dx⟩ := HI4.out.one hlx
          rw [hxi] at dx
          have HXA := Lib.hid hxa
          clear hxi hxa
          go_wp2
          go_loopw [11] (fun kv wr => ∃ y : Nat, ∃ nd : Nat, kv = .int .i64 y ∧ y ≤ A.length ∧ wr = w4.drewN nd) (fun kv _ => A.length - (intOf kv).toNat)
          case atStart => exact ⟨0, nd, rfl, by omega, rfl⟩
          case round =>
            obtain ⟨y, nd2, rfl, y1, rfl⟩ := hrel
            have hy0 : (0 : Int) ≤ (y : Int) := Int.natCast_nonneg _
            by_cases hly : y < A.length
            · have hly' : (y : Int) < (A.length : Int) := by omega
              obtain ⟨yi, hyi, hyl, hya⟩ := HM.out y hly
              obtain ⟨b', off', e, hbl', dy⟩ := HI4.out.one hly
              cases e
              rw [hyi] at dy
              obtain ⟨r, hr1, hr2, hr3, hr4⟩ := HT'.out.2.far (by omega) hxl hyl HXA.out hya
              unfold pas at hr1
              have hsub := fun t w' => run_fsub hr1 t w'
              have HPX := Lib.hid fun nn => pass_in (w4.drewN nn) p g cap1 T1 (H4.out.pr.r.below (below_drewN w4 nn)) xi hxl
              have HPY := Lib.hid fun nn => pass_in (w4.drewN nn) p g cap1 T1 (H4.out.pr.r.below (below_drewN w4 nn)) yi hyl
              generalize (T1.getD xi tk0).2.2 = px at HPX hsub
              generalize (T1.getD yi tk0).2.2 = py at HPY hsub
              clear hyi hya hr1 hr2
              go_wp2
              go_quiet (first | (go_at_call 21; first | (with_reducible refine (HPX.out _).mono ?_; exact fun _ _ h => ⟨h.1, _, by first | exact h.2 | exact h.2.symm⟩) | (with_reducible refine (HPY.out _).mono ?_; exact fun _ _ h => ⟨h.1, _, by first | exact h.2 | exact h.2.symm⟩)))
              go_wp2
              go_roundw
              case rel => exact ⟨y + 1, nd2 + nq, by go_num, by omega, by simp [World.drewN]⟩
              case measure => simp only [intOf]; omega
            · have hly' : ¬ (y : Int) < (A.length : Int) := by omega
              go_wp2
              go_roundw
              case rel => exact ⟨x + 1, nd2, by go_num, by omega, rfl⟩
              case measure => simp only [intOf]; omega
        · have hlx' : ¬ (x : Int) < (A.length : Int) := by omega
          go_wp2
          go_roundw
          case rel => exact ⟨i + 1, T1, by go_num, by omega, by omega, H4.out.below (below_drewN w4 nd), HT'.out⟩
          case measure => simp only [intOf]; omega
    · have hex : ¬ (i : Int) < (len : Int) ∨ ((i : Int) < (len : Int) ∧ ¬ (i : Int) < 300) := by omega
      have hBW := Lib.hid HRun.out.1.bel
      clear HRun hlt
      rcases hex with hx | ⟨hx, hy⟩
      all_goals
        go_wp2_with (go_at_call 14; refine (awake_ok _).mono ?_; rintro e w2 ⟨rfl, hB2⟩)
        go_ret
        exact ⟨rfl, below_chain hBW.out hB2⟩

/-! The row's step. -/
theorem own : ownKnob Try.prog.godebug = none := by kernel_rfl
theorem laidOut : laidOutB Try.prog = true := by kernel_rfl
set_option linter.unusedVariables false
set_option maxRecDepth 100000 in
theorem lifted (os : Os) (started : os.Started) (H : Type) (enc : TypeId × Value → H) :
    ReturnsInHanded {} Try.checked os 8 .any (Rows.fairNearSpec.pre6 enc Try.prog Try.f8 Rows.fairNearRow.domain false) (Rows.fairNearSpec.post enc Try.prog Try.f8 false true false false) := by
  refine returnsInHanded_of_change_sized (C := Try.checked) own started (by kernel_rfl) Try.func8
    (ChangeSpec.witness6 (enc := enc) (C := Try.checked) false ⟨#[], #[.int .i64 0, .slice none 0 0], []⟩ 8 (by kernel_rfl) (by kernel_rfl) (by kernel_rfl) (by kernel_rfl)) ?_
  intro W base args ds gs before hval0 hW _ hsz0 _
  have hsz : (DataW.weightsEach Try.prog (Try.f8.params.toList ++ Rows.fairNearSpec.plain.varTypes Try.prog) (ds ++ gs)).all (· ≤ reachBytes) = true := hsz0
  clear hsz0
  have hval : ∀ (j : Nat) t v, Try.f8.params[j]? = some t → args[j]? = some v → Value.okWide Try.prog W .any base t v := hval0
  have hW' := hW
  obtain ⟨p, q, hA0, hV, rfl, hfz, hnd⟩ := hW
  have hA : DataW.TrodAll enc Try.prog W 0 (fun _ => true) true Try.f8.params.toList args.toList ds p := hA0
  rw [Try.params8] at hA hval hsz
  obtain ⟨v0, vs0, d0, ds0, p0, q0, hargs, rfl, rfl, h0, r0⟩ := trodAll_cons hA
  obtain ⟨v1, vs1, d1, ds1, p1, q1, rfl, rfl, rfl, h1, r1⟩ := trodAll_cons r0
  obtain ⟨rfl, rfl, rfl⟩ := trodAll_nil r1
  obtain rfl : args = #[v0, v1] := by cases args; simp_all
  obtain ⟨rfl, rfl⟩ := trodVars_none hV
  obtain ⟨a0, rfl, rfl, rfl, w0⟩ := open_int Try.underlying3 (hval 0 3 v0 rfl rfl) h0
  obtain ⟨a1, len1, cap1, rfl⟩ := okWide_slice Try.underlying36 (hval 1 36 v1 rfl rfl)
  have lt1 : ∀ x ∈ p1, x.block < W.heap.size := by obtain ⟨m, hm⟩ := h1; exact DataW.trod_lt m _ _ _ hm
  obtain ⟨⟨z1, w1⟩, hf1⟩ := open_a Try.underlying36 Try.underlying41 rfl rfl rfl rfl rfl rfl Try.underlying3 Try.underlying3 Try.underlying22 (by kernel_rfl) (by kernel_rfl) (by kernel_rfl) (by kernel_rfl) h1
  have rc1 := reach_slice hsz (j := 1) (e := 41) rfl rfl Try.underlying36 (k := 24) (by kernel_rfl) hf1
  clear hf1
  clear hA0 hval0
  refine (walk W a0 w0 a1 len1 cap1 z1 w1 rc1).mono fun e W' ⟨he, bel⟩ => ?_
  subst he
  exact ⟨_, rfl, _, _, _, [], _, [], hW', trodAll_mk1 (shut_bool Try.underlying4 _), (trodAll_cons_mk (shut_int Try.underlying3 w0) (trodAll_cons_mk (Below.trod laidOut (by kernel_rfl) (of_decide_eq_true (by kernel_rfl)) h1 bel lt1) trodAll_mk0)), rfl, bel.frame _, fun h => by cases h⟩

theorem over : Rows.fairNearRow.holds Try.pinned (OpenSpec.ofChange Rows.fairNearSpec) :=
  OpenClaim.holds_of_wide 8 Try.f8 rfl rfl rfl rfl rfl rfl rfl ⟨rfl, rfl, rfl, rfl, rfl⟩ rfl rfl rfl rfl rfl (by kernel_rfl) Try.func8 (by kernel_rfl)
    (of_decide_eq_true (by kernel_rfl)) (by unfold Func.isWrapper; first | (rw [if_pos (by decide +kernel)]; kernel_rfl) | (rw [if_neg (by decide +kernel)]; exact ⟨rfl, rfl⟩))
    (fun os started H enc _ => lifted os started H enc)

/-- THE STATEMENT. -/
theorem proved : Rows.FairNearSaid := over

#print axioms proved
end Go.Proofs.Ytpfdfbmoegajbaa.fairNear
