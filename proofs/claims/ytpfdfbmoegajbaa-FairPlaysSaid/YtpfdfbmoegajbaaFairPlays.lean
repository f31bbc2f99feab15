/- FairPlays: for every n and every list of acts the law returns true. -/
import Derived.Test.YtpfdfbmoegajbaaGo
import Derived.ProofKit
import Derived.OpenShut
import Derived.SizedLaws
namespace Go.Proofs.Ytpfdfbmoegajbaa.fairPlays
open Go.ChangeShapes Go.WideShapes Go.ChangeAt Go.RowKit
set_option maxRecDepth 100000
theorem walk_bad (W : World) (n : Int) (h : n < 1 ∨ 8 < n) (a : Option Addr) (len cap : Nat) :
    Calls Try.prog 7 #[.int .i64 n, .slice a len cap] W fun e w' => e = .returned (.bool true) ∧ Below W.heap.size W w' := by
  have HN := Lib.hid fun w => fnew_bad w n h
  have HR := Lib.hid fun w => rnew_bad w n h
  have HA := Lib.hid (awake_ok W)
  clear h
  go_enter Try.func7, Try.ntmps7
  go_wp2_with (first | (go_at_call 10; refine (HN.out _).mono ?_; rintro e w' ⟨rfl, rfl⟩) | (go_at_call 15; refine (HR.out _).mono ?_; rintro e w' ⟨rfl, rfl⟩) | (go_at_call 14; refine HA.out.mono ?_; rintro e w' ⟨rfl, hB⟩))
  go_ret
  exact ⟨rfl, hB⟩
set_option maxHeartbeats 4000000 in
theorem walk_good (W : World) (n : Nat) (b1 : 1 ≤ n) (b2 : n ≤ 8) (a : Option Addr) (len cap : Nat) (zs : List (Int × Int × Nat)) (hI : IsA W a len cap zs) :
    Calls Try.prog 7 #[.int .i64 n, .slice a len cap] W fun e w' => e = .returned (.bool true) ∧ Below W.heap.size W w' := by
  have HI := Lib.hid hI
  have hmax := hI.hmax
  have hcap := hI.hcap
  clear hI
  unfold maxLen at hmax
  have HN := Lib.hid fun w => fnew_at w n b1 b2
  have HR := Lib.hid fun w => rnew_at w n b1 b2
  have hn0 : (0 : Int) ≤ (n : Int) := Int.natCast_nonneg _
  go_enter Try.func7, Try.ntmps7
  go_wp2_with (first | (go_at_call 10; refine (HN.out _).mono ?_; rintro e w1 ⟨g, cap1, rfl, hr, hg, hB⟩) | (go_at_call 15; refine (HR.out _).mono ?_; rintro e w2 ⟨g2, cap2, rfl, hx, hg2, hB2⟩))
  have H0 : Hid (Run W w2 W.heap.size g cap1 w1.heap.size g2 cap2 (fresh n) ∧ (fresh n).length = n) := ⟨start_run hr hg hB hx hg2 hB2, by simp [fresh]⟩
  obtain ⟨p2, hp2⟩ : ∃ p2, p2 = w1.heap.size := ⟨_, rfl⟩
  rw [← hp2] at H0 ⊢
  obtain ⟨p, hp⟩ : ∃ p, p = W.heap.size := ⟨_, rfl⟩
  rw [← hp] at H0 ⊢
  clear hr hg hB hx hg2 hB2 hp2
  have HPp := Lib.hid hp
  clear hp
  generalize fresh n = T0 at H0
  go_loopw [8] (fun iv wr => ∃ i : Nat, ∃ T : List Tk, iv = .int .i64 i ∧ i ≤ len ∧ i ≤ 300 ∧ Hid (Run W wr p g cap1 p2 g2 cap2 T ∧ T.length = n)) (fun iv _ => len - (intOf iv).toNat)
  case atStart => exact ⟨0, T0, rfl, by omega, by omega, H0⟩
  case round =>
    obtain ⟨i, T, rfl, i1, i2, HRun⟩ := hrel
    clear H0 T0
    have hi0 : (0 : Int) ≤ (i : Int) := Int.natCast_nonneg _
    by_cases hlt : i < len ∧ i < 300
    · obtain ⟨hlt, h300⟩ := hlt
      have hi1 : (i : Int) < (len : Int) := by omega
      have hi3 : (i : Int) < 300 := by omega
      obtain ⟨b, off, rfl, c0, c1, c2⟩ := HI.out.one HRun.out.1.bel hlt
      have hz := HI.out.wfD hlt
      have HDo := Lib.hid (run_do W wr p g cap1 p2 g2 cap2 T HRun.out.1 (zs.getD i (0, 0, 0)) hz)
      have HT' : Hid ((actT T (zs.getD i (0, 0, 0)).1 (zs.getD i (0, 0, 0)).2.1 (zs.getD i (0, 0, 0)).2.2).length = n) := (actT_length _ _ _ _).trans HRun.out.2
      generalize (zs.getD i (0, 0, 0)).1 = zk at HDo c0 HT'
      generalize (zs.getD i (0, 0, 0)).2.1 = zt at HDo c1 HT'
      generalize (zs.getD i (0, 0, 0)).2.2 = zx at HDo c2 HT'
      generalize actT T zk zt zx = T1 at HDo HT'
      clear hz HRun
      go_wp2_with (first
        | (go_at_call 16; refine HDo.out.mono ?_; rintro e w3 ⟨rfl, h3⟩; have H3 := Lib.hid h3; clear h3)
        | (go_at_call 17; refine (awake_is _ p g cap1 T1 H3.out.pr.r).mono ?_; rintro e w4 ⟨a4, c4, rfl, hI4, -, hB4⟩; have HI4 := Lib.hid hI4; have HB4 := Lib.hid hB4; clear hI4 hB4)
        | (go_at_call 22; refine (rawake_is _ p2 g2 cap2 T1 (H3.out.pr.x.below HB4.out)).mono ?_; rintro e w5 ⟨a5, c5, rfl, hI5, -, hB5⟩; have HI5 := Lib.hid hI5; have HB5 := Lib.hid hB5; clear hI5 hB5)
        | (go_at_call 19; refine (sameInts_any _ _ _ _ _ _ _ _ _ (HI4.out.same HB5.out) HI5.out (by have := awk_le T1 T1.length; have := HT'.out; omega) (by have := awk_le T1 T1.length; have := HT'.out; omega)).mono ?_; rw [show decide (awk T1 T1.length = awk T1 T1.length) = true by simp]; rintro e w6 ⟨rfl, kd, rfl⟩))
      have H6 : Hid (Run W (w5.drewN kd) p g cap1 p2 g2 cap2 T1) := H3.out.below (below_chain HB4.out (below_chain HB5.out (below_drewN w5 kd)))
      clear H3 HB4 HB5 HI4 HI5 HDo c0 c1 c2
      generalize w5.drewN kd = w7 at H6 ⊢
      have SS : Hid (∀ (y : Nat), y < 18446744073709551616 → ∀ w' : World, Calls Try.prog 23 #[.float .f64 y, .float .f64 y] w' fun e w'' => e = .returned (.bool true) ∧ w' = w'') := fun y hy w' => by
        have h := same_any y y w' hy hy
        rwa [FP.sameB_refl] at h
      have HPO := Lib.hid (pass_out w7 p g cap1 T1 H6.out.pr.r)
      have hTl := HT'.out
      rw [hTl] at HPO
      have HPI := Lib.hid (pass_in w7 p g cap1 T1 H6.out.pr.r)
      have c0 := H6.out.pr.x.c0
      rw [hTl] at c0
      have hcc := H6.out.pr.x.hc
      have hcm := H6.out.pr.x.hm
      rw [hTl] at hcc
      unfold maxLen at hcm
      clear hTl
      go_loopw [9] (fun kv wr => ((kv = .int .i64 (-1)) ∨ ∃ j : Nat, kv = .int .i64 j ∧ j ≤ n + 1) ∧ w7 = wr) (fun kv _ => n + 2 - (intOf kv + 1).toNat)
      case atStart => exact ⟨Or.inl rfl, rfl⟩
      case round =>
        obtain ⟨hkv, rfl⟩ := hrel
        rcases hkv with rfl | ⟨j, rfl, hj⟩
        · have h1 : (-1 : Int) ≤ (n : Int) := by omega
          go_wp2_with (first | (go_at_call 21; refine (HPO.out (-1) (by omega)).mono ?_; rintro e w' ⟨rfl, rfl⟩) | (go_at_call 23; refine (SS.out 0 (by omega) _).mono ?_; rintro e w' ⟨rfl, rfl⟩))
          go_roundw
          case rel => exact ⟨Or.inr ⟨0, by go_num, by omega⟩, by first | rfl | trivial⟩
          case measure => simp only [intOf]; omega
        · have hj0 : (0 : Int) ≤ (j : Int) := Int.natCast_nonneg _
          by_cases hjn : j < n
          · have hj1 : (j : Int) < (n : Int) := by omega
            have hj2 : (j : Int) ≤ (n : Int) := by omega
            have pj := (H6.out.pr.x.task (i := j) (by have := HT'.out; omega)).2.2
            have wj := Lib.hid (H6.out.pr.x.wfD (i := j) (by have := HT'.out; omega)).2
            have HPj := Lib.hid (HPI.out j (by have := HT'.out; omega))
            generalize (T1.getD j tk0).2.2 = y at pj wj HPj
            go_wp2_with (first | (go_at_call 21; refine HPj.out.mono ?_; rintro e w' ⟨rfl, rfl⟩) | (go_at_call 23; refine (SS.out y wj.out _).mono ?_; rintro e w' ⟨rfl, rfl⟩))
            go_roundw
            case rel => exact ⟨Or.inr ⟨j + 1, by go_num, by omega⟩, by first | rfl | trivial⟩
            case measure => simp only [intOf]; omega
          · by_cases hjn2 : j = n
            · subst hjn2
              have hj2 : (j : Int) ≤ (j : Int) := Int.le_refl _
              go_wp2_with (first | (go_at_call 21; refine (HPO.out (j : Int) (by omega)).mono ?_; rintro e w' ⟨rfl, rfl⟩) | (go_at_call 23; refine (SS.out 0 (by omega) _).mono ?_; rintro e w' ⟨rfl, rfl⟩))
              go_roundw
              case rel => exact ⟨Or.inr ⟨j + 1, by go_num, by omega⟩, by first | rfl | trivial⟩
              case measure => simp only [intOf]; omega
            · have hj2 : ¬ (j : Int) ≤ (n : Int) := by omega
              go_wp2
              go_roundw
              case rel => exact ⟨i + 1, T1, by go_num, by omega, by omega, H6.out, HT'.out⟩
              case measure => simp only [intOf]; omega
    · have hBW := Lib.hid HRun.out.1.bel
      have hex : ¬ (i : Int) < (len : Int) ∨ ((i : Int) < (len : Int) ∧ ¬ (i : Int) < 300) := by omega
      clear HRun hlt
      rcases hex with hx | ⟨hx, hy⟩
      all_goals
        go_wp2_with (go_at_call 14; refine (awake_ok _).mono ?_; rintro e w2 ⟨rfl, hB2⟩)
        go_ret
        exact ⟨rfl, below_chain hBW.out hB2⟩
theorem walk (W : World) (n : Int) (hn : (Lit.int .i64 n).wf = true) (a : Option Addr) (len cap : Nat) (zs : List (Int × Int × Nat)) (hI : IsA W a len cap zs) (hr : len * 24 ≤ 140737488351232) :
    Calls Try.prog 7 #[.int .i64 n, .slice a len cap] W fun e w' => e = .returned (.bool true) ∧ Below W.heap.size W w' := by
  clear hn hr
  by_cases h : n < 1 ∨ 8 < n
  · exact walk_bad W n h a len cap
  · obtain ⟨m, rfl⟩ : ∃ m : Nat, n = m := ⟨n.toNat, by omega⟩
    exact walk_good W m (by omega) (by omega) a len cap zs hI

/-! The row's step. -/
theorem own : ownKnob Try.prog.godebug = none := by kernel_rfl
theorem laidOut : laidOutB Try.prog = true := by kernel_rfl
set_option linter.unusedVariables false
set_option maxRecDepth 100000 in
theorem lifted (os : Os) (started : os.Started) (H : Type) (enc : TypeId × Value → H) :
    ReturnsInHanded {} Try.checked os 7 .any (Rows.fairPlaysSpec.pre6 enc Try.prog Try.f7 Rows.fairPlaysRow.domain false) (Rows.fairPlaysSpec.post enc Try.prog Try.f7 false true false false) := by
  refine returnsInHanded_of_change_sized (C := Try.checked) own started (by kernel_rfl) Try.func7
    (ChangeSpec.witness6 (enc := enc) (C := Try.checked) false ⟨#[], #[.int .i64 0, .slice none 0 0], []⟩ 8 (by kernel_rfl) (by kernel_rfl) (by kernel_rfl) (by kernel_rfl)) ?_
  intro W base args ds gs before hval0 hW _ hsz0 _
  have hsz : (DataW.weightsEach Try.prog (Try.f7.params.toList ++ Rows.fairPlaysSpec.plain.varTypes Try.prog) (ds ++ gs)).all (· ≤ reachBytes) = true := hsz0
  clear hsz0
  have hval : ∀ (j : Nat) t v, Try.f7.params[j]? = some t → args[j]? = some v → Value.okWide Try.prog W .any base t v := hval0
  have hW' := hW
  obtain ⟨p, q, hA0, hV, rfl, hfz, hnd⟩ := hW
  have hA : DataW.TrodAll enc Try.prog W 0 (fun _ => true) true Try.f7.params.toList args.toList ds p := hA0
  rw [Try.params7] at hA hval hsz
  obtain ⟨v0, vs0, d0, ds0, p0, q0, hargs, rfl, rfl, h0, r0⟩ := trodAll_cons hA
  obtain ⟨v1, vs1, d1, ds1, p1, q1, rfl, rfl, rfl, h1, r1⟩ := trodAll_cons r0
  obtain ⟨rfl, rfl, rfl⟩ := trodAll_nil r1
  obtain rfl : args = #[v0, v1] := by cases args; simp_all
  obtain ⟨rfl, rfl⟩ := trodVars_none hV
  obtain ⟨a0, rfl, rfl, rfl, w0⟩ := open_int Try.underlying3 (hval 0 3 v0 rfl rfl) h0
  obtain ⟨a1, len1, cap1, rfl⟩ := okWide_slice Try.underlying36 (hval 1 36 v1 rfl rfl)
  have lt1 : ∀ x ∈ p1, x.block < W.heap.size := by obtain ⟨m, hm⟩ := h1; exact DataW.trod_lt m _ _ _ hm
  obtain ⟨⟨z1, w1⟩, hf1⟩ := open_a Try.underlying36 Try.underlying41 rfl rfl rfl rfl rfl rfl Try.underlying3 Try.underlying3 Try.underlying22 (by kernel_rfl) (by kernel_rfl) (by kernel_rfl) (by kernel_rfl) h1
  have rc1 := reach_slice hsz (j := 1) (e := 41) rfl rfl Try.underlying36 (k := 24) (by kernel_rfl) hf1
  clear hf1
  clear hA0 hval0
  refine (walk W a0 w0 a1 len1 cap1 z1 w1 rc1).mono fun e W' ⟨he, bel⟩ => ?_
  subst he
  exact ⟨_, rfl, _, _, _, [], _, [], hW', trodAll_mk1 (shut_bool Try.underlying4 _), (trodAll_cons_mk (shut_int Try.underlying3 w0) (trodAll_cons_mk (Below.trod laidOut (by kernel_rfl) (of_decide_eq_true (by kernel_rfl)) h1 bel lt1) trodAll_mk0)), rfl, bel.frame _, fun h => by cases h⟩

theorem over : Rows.fairPlaysRow.holds Try.pinned (OpenSpec.ofChange Rows.fairPlaysSpec) :=
  OpenClaim.holds_of_wide 7 Try.f7 rfl rfl rfl rfl rfl rfl rfl ⟨rfl, rfl, rfl, rfl, rfl⟩ rfl rfl rfl rfl rfl (by kernel_rfl) Try.func7 (by kernel_rfl)
    (of_decide_eq_true (by kernel_rfl)) (by unfold Func.isWrapper; first | (rw [if_pos (by decide +kernel)]; kernel_rfl) | (rw [if_neg (by decide +kernel)]; exact ⟨rfl, rfl⟩))
    (fun os started H enc _ => lifted os started H enc)

/-- THE STATEMENT. -/
theorem proved : Rows.FairPlaysSaid := over

#print axioms proved
end Go.Proofs.Ytpfdfbmoegajbaa.fairPlays
