/- FairPicks: for every n, every list of acts and every pick the law returns true. -/
import Derived.Test.YtpfdfbmoegajbaaGo
import Derived.ProofKit
import Derived.OpenShut
import Derived.SizedLaws
namespace Go.Proofs.Ytpfdfbmoegajbaa.fairPicks
open Go.ChangeShapes Go.WideShapes Go.ChangeAt Go.RowKit
set_option maxRecDepth 100000
def fnd (A : List Int) (k : Int) (i : Nat) : Bool := (A.take i).any fun x => x == k
theorem fnd_succ {A : List Int} (k : Int) {i : Nat} (h : i < A.length) : fnd A k (i + 1) = (fnd A k i || (A.getD i 0 == k)) := by
  unfold fnd; rw [take_snocI h, List.any_append]; simp
theorem fnd_all {A : List Int} {j : Nat} (h : j < A.length) : fnd A (A.getD j 0) A.length = true := by
  unfold fnd
  rw [List.take_length, List.any_eq_true]
  exact ⟨A.getD j 0, by rw [List.getD_eq_getElem?_getD, List.getElem?_eq_getElem h]; exact List.getElem_mem h, by simp⟩
theorem pickK_at {T : List Tk} (hne : awk T T.length ≠ []) {i : Int} {j : Nat} (hj : j < (awk T T.length).length) (h : i = (j : Int) ∨ i = (j : Int) - ((awk T T.length).length : Int)) : pickK T i = (awk T T.length).getD j 0 := by
  unfold pickK
  rw [if_neg hne]
  congr 1
  rcases h with h | h
  · rw [h, Int.emod_eq_of_lt (by omega) (by omega)]; rfl
  · rw [h, Int.sub_emod_right, Int.emod_eq_of_lt (by omega) (by omega)]; rfl
set_option maxHeartbeats 4000000 in
theorem walk (W : World) (n0 : Int) (hn0 : (Lit.int .i64 n0).wf = true) (a : Option Addr) (len cap : Nat) (zs : List (Int × Int × Nat)) (hI : IsA W a len cap zs) (hr : len * 24 ≤ 140737488351232) (pk : Int) (hpk : (Lit.int .i64 pk).wf = true) :
    Calls Try.prog 5 #[.int .i64 n0, .slice a len cap, .int .i64 pk] W fun e w' => e = .returned (.bool true) ∧ Below W.heap.size W w' := by
  have HP := Lib.hid fun w => pick_any n0 8 (by omega) (by omega) (bounds_i64 hn0) w
  obtain ⟨m, hm⟩ : ∃ m : Nat, n0 % 8 = m := ⟨(n0 % 8).toNat, by have := Int.emod_nonneg n0 (show (8 : Int) ≠ 0 by omega); omega⟩
  have hm8 : m < 8 := by have := Int.emod_lt_of_pos n0 (show (0 : Int) < 8 by omega); omega
  rw [hm] at HP
  clear hm hn0 hr
  obtain ⟨n, hn⟩ : ∃ n : Nat, n = m + 1 := ⟨_, rfl⟩
  have b1 : 1 ≤ n := by omega
  have b2 : n ≤ 8 := by omega
  have e0 : wrap64 (1 + (m : Int)) = (n : Int) := by rw [IntWalk.wrap64_in _ (by omega)]; omega
  have e1 : IntKind.i64.wrap (1 + (m : Int)) = (n : Int) := by rw [IntWalk.i64_in _ (by omega)]; omega
  clear hn hm8
  have HI := Lib.hid hI
  have hmax := hI.hmax
  have hcap := hI.hcap
  have HPK := Lib.hid (bounds_i64 hpk)
  clear hI hpk
  unfold maxLen at hmax
  have HN := Lib.hid fun w => fnew_at w n b1 b2
  have HR := Lib.hid fun w => rnew_at w n b1 b2
  have hn0 : (0 : Int) ≤ (n : Int) := Int.natCast_nonneg _
  go_enter Try.func5, Try.ntmps5
  go_wp2_with (first | (go_at_call 9; refine (HP.out _).mono ?_; rintro e w' ⟨rfl, rfl⟩) | (go_at_call 10; refine (HN.out _).mono ?_; rintro e w1 ⟨g, cap1, rfl, hr, hg, hB⟩) | (go_at_call 15; refine (HR.out _).mono ?_; rintro e w2 ⟨g2, cap2, rfl, hx, hg2, hB2⟩))
  have H0 : Hid (Run W w2 W.heap.size g cap1 w1.heap.size g2 cap2 (fresh n) ∧ (fresh n).length = n) := ⟨start_run hr hg hB hx hg2 hB2, by simp [fresh]⟩
  obtain ⟨p2, hp2⟩ : ∃ p2, p2 = w1.heap.size := ⟨_, rfl⟩
  rw [← hp2] at H0 ⊢
  obtain ⟨p, hp⟩ : ∃ p, p = W.heap.size := ⟨_, rfl⟩
  rw [← hp] at H0 ⊢
  clear hr hg hB hx hg2 hB2 hp2
  have HPp := Lib.hid hp
  clear hp e0 e1
  generalize fresh n = T0 at H0
  go_loopw [10] (fun iv wr => ∃ i : Nat, ∃ T : List Tk, iv = .int .i64 i ∧ i ≤ len ∧ i ≤ 60 ∧ Hid (Run W wr p g cap1 p2 g2 cap2 T ∧ T.length = n)) (fun iv _ => len - (intOf iv).toNat)
  case atStart => exact ⟨0, T0, rfl, by omega, by omega, H0⟩
  case round =>
    obtain ⟨i, T, rfl, i1, i2, HRun⟩ := hrel
    clear H0 T0
    have hi0 : (0 : Int) ≤ (i : Int) := Int.natCast_nonneg _
    by_cases hlt : i < len ∧ i < 60
    · obtain ⟨hlt, h300⟩ := hlt
      have hi1 : (i : Int) < (len : Int) := by omega
      have hi3 : (i : Int) < 60 := by omega
      obtain ⟨b, off, rfl, c0, c1, c2⟩ := HI.out.one HRun.out.1.bel hlt
      have hz := HI.out.wfD hlt
      have HDo := Lib.hid (run_do W wr p g cap1 p2 g2 cap2 T HRun.out.1 (zs.getD i (0, 0, 0)) hz)
      have HT' : Hid ((actT T (zs.getD i (0, 0, 0)).1 (zs.getD i (0, 0, 0)).2.1 (zs.getD i (0, 0, 0)).2.2).length = n) := (actT_length _ _ _ _).trans HRun.out.2
      generalize (zs.getD i (0, 0, 0)).1 = zk at HDo c0 HT'
      generalize (zs.getD i (0, 0, 0)).2.1 = zt at HDo c1 HT'
      generalize (zs.getD i (0, 0, 0)).2.2 = zx at HDo c2 HT'
      generalize actT T zk zt zx = T1 at HDo HT'
      clear hz HRun
      go_wp2_with (go_at_call 16; refine HDo.out.mono ?_; rintro e w3 ⟨rfl, h3⟩; have H3 := Lib.hid h3; clear h3)
      go_roundw
      case rel => exact ⟨i + 1, T1, by go_num, by omega, by omega, H3.out, HT'.out⟩
      case measure => simp only [intOf]; omega
    · have hex : ¬ (i : Int) < (len : Int) ∨ ((i : Int) < (len : Int) ∧ ¬ (i : Int) < 60) := by omega
      clear hlt
      have HAW := Lib.hid (awake_is wr p g cap1 T HRun.out.1.pr.r)
      have hal := awk_le T T.length
      have h8 := HRun.out.1.pr.r.n8
      have HFP := Lib.hid fun (w' : World) (hb : Below wr.heap.size wr w') (x : Int) (hx : -9223372036854775808 ≤ x ∧ x ≤ 9223372036854775807) => fpick_row w' p g cap1 T (HRun.out.1.pr.r.below hb) x hx
      by_cases hne : awk T T.length = []
      · have q1 : ∀ x, pickK T x = 0 := fun x => by unfold pickK; rw [if_pos hne]
        have q2 : nextOk T = false := by unfold nextOk; rw [hne]; rfl
        have HFP0 := Lib.hid fun (w' : World) (hb : Below wr.heap.size wr w') => HFP.out w' hb pk HPK.out
        rw [q1, q2] at HFP0
        have HAW2 := Lib.hid fun (w' : World) (hb : Below wr.heap.size wr w') => awake_is w' p g cap1 T (HRun.out.1.pr.r.below hb)
        rw [hne] at HAW HAW2
        have HBW := Lib.hid HRun.out.1.bel
        clear q1 q2 hne hal HFP HRun
        rcases hex with hx | ⟨hx, hy⟩
        all_goals
          go_wp2_with (first | (go_at_call 17; first | (refine HAW.out.mono ?_; rintro e w4 ⟨a4, c4, rfl, hI4, -, hb4⟩; have HI4 := Lib.hid hI4; clear hI4 HAW)) | (go_at_call 18; refine (HFP0.out _ hb4).mono ?_; rintro e w5 ⟨rfl, hb5⟩))
          refine wp_loop_rounds 1 ?_
          rw [rounds_succ]
          go_wp2_with (first | (go_at_call 17; refine (HAW2.out _ (below_chain hb4 hb5)).mono ?_; rintro e w6 ⟨a6, c6, rfl, hI6, -, hb6⟩; have HI6 := Lib.hid hI6; clear hI6) | (go_at_call 19; refine (sameInts_any _ _ _ _ _ _ _ [] [] HI6.out ((HI4.out.same hb5).same hb6) (by decide) (by decide)).mono ?_; rw [show decide (([] : List Int) = []) = true by simp]; rintro e w7 ⟨rfl, kd, rfl⟩) | (go_at_call 14; refine (awake_ok _).mono ?_; rintro e w8 ⟨rfl, hb8⟩))
          go_ret
          exact ⟨rfl, below_chain HBW.out (below_chain hb4 (below_chain hb5 (below_chain hb6 (below_chain (below_drewN w6 kd) hb8))))⟩
      · have hap : 0 < (awk T T.length).length := by
          cases hA : awk T T.length with
          | nil => exact absurd hA hne
          | cons _ _ => simp
        obtain ⟨j, hj⟩ : ∃ j : Nat, pk % ((awk T T.length).length : Int) = j := ⟨(pk % ((awk T T.length).length : Int)).toNat, by have := Int.emod_nonneg pk (show ((awk T T.length).length : Int) ≠ 0 by omega); omega⟩
        have hjl : j < (awk T T.length).length := by have := Int.emod_lt_of_pos pk (show (0 : Int) < ((awk T T.length).length : Int) by omega); omega
        have q1 : pickK T pk = (awk T T.length).getD j 0 := by unfold pickK; rw [if_neg hne, hj, Int.toNat_natCast]
        have q2 : nextOk T = true := by unfold nextOk; simp [hne]
        have HFA := Lib.hid (fnd_all hjl)
        rw [q2] at HFP
        have HFP0 := Lib.hid fun (w' : World) (hb : Below wr.heap.size wr w') => HFP.out w' hb pk HPK.out
        rw [q1] at HFP0
        have HFI := Lib.hid fun (i : Nat) (hi : i < (awk T T.length).length) => And.intro (pickK_at hne hi (Or.inl rfl)) (pickK_at hne hi (Or.inr rfl))
        have HAW2 := Lib.hid fun (w' : World) (hb : Below wr.heap.size wr w') => awake_is w' p g cap1 T (HRun.out.1.pr.r.below hb)
        have HBW := Lib.hid HRun.out.1.bel
        generalize (awk T T.length).getD j 0 = k at HFP0 HFA
        generalize awk T T.length = A at HAW HAW2 HFI HFA hal hap
        clear q1 q2 hne hj hjl HRun
        have hap' : (0 : Int) < (A.length : Int) := by omega
        rcases hex with hx | ⟨hx, hy⟩
        all_goals
          go_wp2_with (first | (go_at_call 17; refine HAW.out.mono ?_; rintro e w4 ⟨a4, c4, rfl, hI4, -, hb4⟩; have HI4 := Lib.hid hI4; clear HAW) | (go_at_call 18; refine (HFP0.out _ hb4).mono ?_; rintro e w5 ⟨rfl, hb5⟩))
          have hc1 := hI4.hcap
          have hc2 := hI4.hmax
          unfold maxLen at hc2
          clear hI4
          go_loopw [14, 15] (fun fv iv ws => ∃ x : Nat, iv = .int .i64 x ∧ x ≤ A.length ∧ fv = .bool (fnd A k x) ∧ Below w4.heap.size w4 ws) (fun _ iv _ => A.length - (intOf iv).toNat)
          case atStart => exact ⟨0, rfl, by omega, rfl, hb5⟩
          case round =>
            obtain ⟨x, rfl, x1, rfl, hbs⟩ := hrel
            have hx0 : (0 : Int) ≤ (x : Int) := Int.natCast_nonneg _
            by_cases hlx : x < A.length
            · have hlx' : (x : Int) < (A.length : Int) := by omega
              obtain ⟨b, off, rfl, hbl, hcell⟩ := HI4.out.one hlx
              have d0 := (hbs.cell (p := ⟨b, off + x, none⟩) hbl).trans hcell
              obtain ⟨r1, r2⟩ := HFI.out x hlx
              have HF1 := Lib.hid fun (w' : World) (hb : Below wr.heap.size wr w') => HFP.out w' (below_chain hb4 (below_chain hbs hb)) (x : Int) (by omega)
              have HF2 := Lib.hid fun (w' : World) (hb : Below wr.heap.size wr w') => HFP.out w' (below_chain hb4 (below_chain hbs hb)) ((x : Int) - (A.length : Int)) (by omega)
              rw [r1] at HF1
              rw [r2] at HF2
              have hsu := Lib.hid (fnd_succ k hlx)
              have w1 : wrap64 ((x : Int) - (A.length : Int)) = (x : Int) - (A.length : Int) := IntWalk.wrap64_in _ (by omega)
              have w2 : IntKind.i64.wrap ((x : Int) - (A.length : Int)) = (x : Int) - (A.length : Int) := IntWalk.i64_in _ (by omega)
              generalize A.getD x 0 = v at d0 HF1 HF2 hsu hcell
              clear r1 r2
              generalize fnd A k x = fx at hsu ⊢
              have hbn : b < wr.heap.size := World.block_lt_of_cell? wr _ d0
              cases fx with
              | true =>
                have hs2 : Hid (fnd A k (x + 1) = true) := by unfold Hid; rw [hsu.out]; rfl
                clear hsu hcell
                go_wp2_with (first | (go_at_call 18; first | (with_reducible refine (HF1.out _ (Below.refl _ _)).mono ?_; rintro e w6 ⟨rfl, hb6⟩) | (refine (HF2.out _ hb6).mono ?_; rintro e w7 ⟨rfl, hb7⟩; have d1 := ((below_chain hb6 hb7).cell (p := ⟨b, off + x, none⟩) hbn).trans d0)))
                go_roundw
                case rel => exact ⟨x + 1, by go_num, by omega, by rw [hs2.out], below_chain hbs (below_chain hb6 hb7)⟩
                case measure => simp only [intOf]; omega
              | false =>
                have hs2 : Hid (fnd A k (x + 1) = (v == k)) := by unfold Hid; rw [hsu.out]; rfl
                clear hsu hcell
                go_wp2_with (first | (go_at_call 18; first | (with_reducible refine (HF1.out _ (Below.refl _ _)).mono ?_; rintro e w6 ⟨rfl, hb6⟩) | (refine (HF2.out _ hb6).mono ?_; rintro e w7 ⟨rfl, hb7⟩; have d1 := ((below_chain hb6 hb7).cell (p := ⟨b, off + x, none⟩) hbn).trans d0)))
                go_roundw
                case rel => exact ⟨x + 1, by go_num, by omega, by rw [hs2.out], below_chain hbs (below_chain hb6 hb7)⟩
                case measure => simp only [intOf]; omega
            · obtain rfl : x = A.length := by omega
              rw [HFA.out]
              have hlx' : ¬ (A.length : Int) < (A.length : Int) := by omega
              go_wp2_with (first | (go_at_call 17; refine (HAW2.out _ (below_chain hb4 hbs)).mono ?_; rintro e w6 ⟨a6, c6, rfl, hI6, -, hb6⟩; have HI6 := Lib.hid hI6; clear hI6) | (go_at_call 19; refine (sameInts_any _ _ _ _ _ _ _ A A HI6.out ((HI4.out.same hbs).same hb6) (by omega) (by omega)).mono ?_; rw [show decide (A = A) = true by simp]; rintro e w7 ⟨rfl, kd, rfl⟩) | (go_at_call 14; refine (awake_ok _).mono ?_; rintro e w8 ⟨rfl, hb8⟩))
              go_ret
              exact ⟨rfl, below_chain HBW.out (below_chain hb4 (below_chain hbs (below_chain hb6 (below_chain (below_drewN w6 kd) hb8))))⟩

/-! The row's step. -/
theorem own : ownKnob Try.prog.godebug = none := by kernel_rfl
theorem laidOut : laidOutB Try.prog = true := by kernel_rfl
set_option linter.unusedVariables false
set_option maxRecDepth 100000 in
theorem lifted (os : Os) (started : os.Started) (H : Type) (enc : TypeId × Value → H) :
    ReturnsInHanded {} Try.checked os 5 .any (Rows.fairPicksSpec.pre6 enc Try.prog Try.f5 Rows.fairPicksRow.domain false) (Rows.fairPicksSpec.post enc Try.prog Try.f5 false true false false) := by
  refine returnsInHanded_of_change_sized (C := Try.checked) own started (by kernel_rfl) Try.func5
    (ChangeSpec.witness6 (enc := enc) (C := Try.checked) false ⟨#[], #[.int .i64 0, .slice none 0 0, .int .i64 0], []⟩ 8 (by kernel_rfl) (by kernel_rfl) (by kernel_rfl) (by kernel_rfl)) ?_
  intro W base args ds gs before hval0 hW _ hsz0 _
  have hsz : (DataW.weightsEach Try.prog (Try.f5.params.toList ++ Rows.fairPicksSpec.plain.varTypes Try.prog) (ds ++ gs)).all (· ≤ reachBytes) = true := hsz0
  clear hsz0
  have hval : ∀ (j : Nat) t v, Try.f5.params[j]? = some t → args[j]? = some v → Value.okWide Try.prog W .any base t v := hval0
  have hW' := hW
  obtain ⟨p, q, hA0, hV, rfl, hfz, hnd⟩ := hW
  have hA : DataW.TrodAll enc Try.prog W 0 (fun _ => true) true Try.f5.params.toList args.toList ds p := hA0
  rw [Try.params5] at hA hval hsz
  obtain ⟨v0, vs0, d0, ds0, p0, q0, hargs, rfl, rfl, h0, r0⟩ := trodAll_cons hA
  obtain ⟨v1, vs1, d1, ds1, p1, q1, rfl, rfl, rfl, h1, r1⟩ := trodAll_cons r0
  obtain ⟨v2, vs2, d2, ds2, p2, q2, rfl, rfl, rfl, h2, r2⟩ := trodAll_cons r1
  obtain ⟨rfl, rfl, rfl⟩ := trodAll_nil r2
  obtain rfl : args = #[v0, v1, v2] := by cases args; simp_all
  obtain ⟨rfl, rfl⟩ := trodVars_none hV
  obtain ⟨a0, rfl, rfl, rfl, w0⟩ := open_int Try.underlying3 (hval 0 3 v0 rfl rfl) h0
  obtain ⟨a1, len1, cap1, rfl⟩ := okWide_slice Try.underlying36 (hval 1 36 v1 rfl rfl)
  have lt1 : ∀ x ∈ p1, x.block < W.heap.size := by obtain ⟨m, hm⟩ := h1; exact DataW.trod_lt m _ _ _ hm
  obtain ⟨⟨z1, w1⟩, hf1⟩ := open_a Try.underlying36 Try.underlying41 rfl rfl rfl rfl rfl rfl Try.underlying3 Try.underlying3 Try.underlying22 (by kernel_rfl) (by kernel_rfl) (by kernel_rfl) (by kernel_rfl) h1
  have rc1 := reach_slice hsz (j := 1) (e := 41) rfl rfl Try.underlying36 (k := 24) (by kernel_rfl) hf1
  clear hf1
  obtain ⟨a2, rfl, rfl, rfl, w2⟩ := open_int Try.underlying3 (hval 2 3 v2 rfl rfl) h2
  clear hA0 hval0
  refine (walk W a0 w0 a1 len1 cap1 z1 w1 rc1 a2 w2).mono fun e W' ⟨he, bel⟩ => ?_
  subst he
  exact ⟨_, rfl, _, _, _, [], _, [], hW', trodAll_mk1 (shut_bool Try.underlying4 _), (trodAll_cons_mk (shut_int Try.underlying3 w0) (trodAll_cons_mk (Below.trod laidOut (by kernel_rfl) (of_decide_eq_true (by kernel_rfl)) h1 bel lt1) (trodAll_cons_mk (shut_int Try.underlying3 w2) trodAll_mk0))), rfl, bel.frame _, fun h => by cases h⟩

theorem over : Rows.fairPicksRow.holds Try.pinned (OpenSpec.ofChange Rows.fairPicksSpec) :=
  OpenClaim.holds_of_wide 5 Try.f5 rfl rfl rfl rfl rfl rfl rfl ⟨rfl, rfl, rfl, rfl, rfl⟩ rfl rfl rfl rfl rfl (by kernel_rfl) Try.func5 (by kernel_rfl)
    (of_decide_eq_true (by kernel_rfl)) (by unfold Func.isWrapper; first | (rw [if_pos (by decide +kernel)]; kernel_rfl) | (rw [if_neg (by decide +kernel)]; exact ⟨rfl, rfl⟩))
    (fun os started H enc _ => lifted os started H enc)

/-- THE STATEMENT. -/
theorem proved : Rows.FairPicksSaid := over

#print axioms proved
end Go.Proofs.Ytpfdfbmoegajbaa.fairPicks
