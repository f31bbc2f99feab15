/- PlanPaths: for every pages, every budget and every page the law returns true. -/
import Derived.Test.YtnkoniagakhacaaQu
import Derived.Test.YtnkoniagakhacaaPn
import Derived.ProofKit
import Derived.OpenShut
import Derived.SizedLaws
namespace Go.Proofs.Ytnkoniagakhacaa.planPaths
open Go.ChangeShapes Go.WideShapes Go.ChangeAt Go.RowKit
set_option maxRecDepth 100000
theorem pth_last : ∀ (l : List Int) (fan bs o n : Int), Good fan n l → (fan = 8 ∨ fan = 16) → 0 ≤ o → o < n → l ≠ [] → (pth fan bs o n l).getD (l.length - 1) 0 = bs + n + lsum l - 1
  | [], _, _, _, _, _, _, _, _, h => absurd rfl h
  | [m], fan, bs, o, n, hg, hf, h0, h1, _ => by
    have hm : m = 1 := hg.2.2.2
    have hd := div_lt h0 h1 hg.2.2.1 hf
    have : o / fan = 0 := by omega
    simp [pth, lsum, this, hm]
  | m :: k :: l, fan, bs, o, n, hg, hf, h0, h1, _ => by
    have hd := div_lt h0 h1 hg.2.2.1 hf
    have ih := pth_last (k :: l) 8 (bs + n) (o / fan) m hg.2.2.2 (Or.inl rfl) hd.1 hd.2 (by simp)
    rw [pth]
    simp only [List.length_cons, Nat.add_sub_cancel] at ih ⊢
    rw [List.getD_cons_succ, ih]
    simp only [lsum]
    omega
theorem path_last {P page : Int} (hP : 1 ≤ P ∧ P ≤ 4096) (hp : 0 ≤ page ∧ page < P) : (path P page).getD (levs (cnt P)).length 0 = hd P - 1 := by
  have := pth_last (cnt P :: levs (cnt P)) 16 0 page P (good_all hP.1) (Or.inr rfl) hp.1 hp.2 (by simp)
  have h2 := lsum_all P
  unfold allL at h2
  simp only [lsum, List.length_cons, Nat.add_sub_cancel] at this h2
  unfold path
  omega
theorem path_wf {P page : Int} (hP : 1 ≤ P ∧ P ≤ 4096) (hp : 0 ≤ page ∧ page < P) : ∀ n ∈ path P page, -9223372036854775808 ≤ n ∧ n ≤ 9223372036854775807 := by
  intro n hn
  have := path_lt hP hp n hn
  have := hd_le hP
  omega
theorem Blk.drew' {w : World} {q : Nat} {t : TypeId} {vs : Array Value} (h : Blk w q t vs) : Blk w.drew q t vs := h
theorem isI_nil (w : World) : IsI w none 0 0 [] := ⟨rfl, Nat.le_refl _, by unfold maxLen; omega, by simp, Or.inl rfl⟩
theorem same_drewN {B : Nat} {a w : World} (h : Below B a w) (n : Nat) : Below B a (w.drewN n) := ⟨h.os, h.tape, h.output, h.size, h.block⟩
set_option maxHeartbeats 8000000 in
theorem walk (W : World) (pg : Int) (hp : (Lit.int .i64 pg).wf = true) (bd : Int) (hb : (Lit.int .i64 bd).wf = true) (page : Int) (hk : (Lit.int .i64 page).wf = true) :
    Calls Try.prog 5 #[.int .i64 pg, .int .i64 bd, .int .i64 page] W fun e w' => e = .returned (.bool true) ∧ Below W.heap.size W w' := by
  have hk' := bounds_i64 hk
  go_enter Try.func5, Try.ntmps5
  go_wp2_with fail
  refine (made_any _ pg bd (bounds_i64 hp) (bounds_i64 hb)).mono ?_
  rintro e w0 ⟨P, B, a, c, rfl, hP, hB, -, -, hI, hB0⟩
  clear hp hb hk
  have hhd := hd_le hP
  have hhs := hds_le hB
  have hq0 := Int.emod_nonneg page (show P ≠ 0 by omega)
  have hq1 := Int.emod_lt_of_pos page (show 0 < P by omega)
  have hhd2 : 0 ≤ hd P ∧ hd P ≤ 1000000 := by omega
  have hls := levs_short (cnt P) (by unfold cnt; omega)
  have HI := Lib.hid (show IsI (w0.alloc (.cells #[.int .i64 P, .int .i64 B, .int .i64 (cnt P), .slice a (levs (cnt P)).length c, .int .i64 (nod P), .int .i64 (hd P), .int .i64 (hds B), .int .i64 (hd P + hds B), .int .i64 (hd P + hds B + B), .int .i64 (hd P + hds B + B + B)] 24)) a (levs (cnt P)).length c (levs (cnt P)) from hI.same ((Below.refl _ _).alloc (Nat.le_refl _) _))
  have K0 := Lib.hid (show Blk (w0.alloc (.cells #[.int .i64 P, .int .i64 B, .int .i64 (cnt P), .slice a (levs (cnt P)).length c, .int .i64 (nod P), .int .i64 (hd P), .int .i64 (hds B), .int .i64 (hd P + hds B), .int .i64 (hd P + hds B + B), .int .i64 (hd P + hds B + B + B)] 24)) w0.heap.size 24 #[.int .i64 P, .int .i64 B, .int .i64 (cnt P), .slice a (levs (cnt P)).length c, .int .i64 (nod P), .int .i64 (hd P), .int .i64 (hds B), .int .i64 (hd P + hds B), .int .i64 (hd P + hds B + B), .int .i64 (hd P + hds B + B + B)] from heap_alloc_new w0 _)
  have HB1 := Lib.hid (show Below W.heap.size W (w0.alloc (.cells #[.int .i64 P, .int .i64 B, .int .i64 (cnt P), .slice a (levs (cnt P)).length c, .int .i64 (nod P), .int .i64 (hd P), .int .i64 (hds B), .int .i64 (hd P + hds B), .int .i64 (hd P + hds B + B), .int .i64 (hd P + hds B + B + B)] 24)) from hB0.alloc hB0.size _)
  clear hI hB0
  by_cases hr : 0 ≤ page ∧ page < P
  · have HPL := Lib.hid (path_len P page)
    go_wp2_with (first
      | (go_at_call 18; refine (path_in _ P B page hP hB hr a c HI.out).mono ?_; rintro e w2 ⟨v2, rfl, hown2, hB2⟩; obtain ⟨xa, xc, rfl, hX, hxa⟩ := isI_own hown2 (path_wf hP hr); have k2 := K0.out.below hB2 K0.out.lt; obtain ⟨p0, p1, p2, p3, p4, p5, p6, p7, p8, p9⟩ := k2.ten; have l2 := k2.lt)
      | (go_at_call 19; refine (refPath_in _ P B page hP hB hr a c (HI.out.same hB2)).mono ?_; rintro e w3 ⟨v3, rfl, hown3, hB3⟩; obtain ⟨ya, yc, rfl, hY, hya⟩ := isI_own hown3 (path_wf hP hr))
      | (go_at_call 20; refine (sameInts_any _ _ _ _ _ _ _ (path P page) (path P page) (hX.same hB3) hY (by rw [HPL.out]; omega) (by rw [HPL.out]; omega)).mono ?_; rw [show decide (path P page = path P page) = true by simp]; rintro e w4 ⟨rfl, kd, rfl⟩; have k4 := k2.below hB3 l2; have hB4 := same_drewN (below_chain (below_chain HB1.out hB2) hB3) kd; have HI4 := Lib.hid ((HI.out.same hB2).same (same_drewN hB3 kd)); obtain ⟨q0, q1, q2, q3, q4, q5, q6, q7, q8, q9⟩ := k4.ten; have l4 := k4.lt; clear p0 p1 p2 p3 p4 p5 p6 p7 p8 p9 hX hY hxa hya hown2 hown3 hB2 hB3 k2 l2))
    have hqr : 0 ≤ page % P ∧ page % P < P := ⟨hq0, hq1⟩
    have HPK := Lib.hid (pick_any page P hP.1 (by omega) hk')
    have HLQ := Lib.hid (path_len P (page % P))
    have HLA := Lib.hid (path_last hP hqr)
    generalize page % P = pq at hqr HPK HLQ HLA
    clear hq0 hq1
    go_region_with (first | (go_at_call 14; refine (HPK.out _).mono ?_; rintro e w' ⟨rfl, rfl⟩) | (go_at_call 18; refine (path_in _ P B pq hP hB hqr a c (HI4.out.same (same_drewN (Below.refl _ _) 1))).mono ?_; rintro e w5 ⟨v5, rfl, hown5, hB5⟩; rw [HLQ.out] at hown5; obtain ⟨g, gc, rfl, hg1, hg2, hg3, hg4, hg5⟩ := own_cellsI hown5 (by omega)))
    all_goals
      have hB45 := below_chain hB4.drew hB5
      have k5 := (Blk.drew' (Blk.drewN k4 kd)).below hB5 l4
      have l5 := k5.lt
      have hcl := hg5 (levs (cnt P)).length (.int .i64 (hd P - 1)) (by
        have h1 := HLQ.out
        have h2 := HLA.out
        rw [← h2]; simp [ints, List.getD, h1])
      clear hg5 hown5 hB5 HI4 q0 q1 q2 q3 q4 q5 q6 q7 q8 q9 hB4 HI K0 HB1 k4 l4
      have e1 : wrap64 (hd P - 1) = hd P - 1 := IntWalk.wrap64_in _ (by omega)
      have e3 : IntKind.i64.wrap (hd P - 1) = hd P - 1 := IntWalk.i64_in _ (by omega)
      have e4 : ((levs (cnt P)).length : Int) + 1 - 1 = ((levs (cnt P)).length : Int) := by omega
      have e6 : IntKind.i64.wrap (((levs (cnt P)).length : Int) + 1) = ((levs (cnt P)).length : Int) + 1 := IntWalk.i64_in _ (by omega)
      have e7 : IntKind.i64.wrap ((levs (cnt P)).length : Int) = ((levs (cnt P)).length : Int) := IntWalk.i64_in _ (by omega)
      have e5 : wrap64 ((levs (cnt P)).length : Int) = ((levs (cnt P)).length : Int) := IntWalk.wrap64_in _ (by omega)
      go_wp2_with fail
      refine region_class (C := fun w' => Below w5.heap.size w5 w') (by kernel_rfl) (by kernel_rfl) (Below.refl _ w5).drew ?_
      quiet_step (first | (intro _; rfl))
      quiet_step (first | (intro _; rfl))
      quiet_step (first | (intro _; rfl))
      quiet_step (first | (intro _; rfl))
      quiet_step (first | (intro _; rfl))
      quiet_step (first | (intro _; rfl))
      refine q_cell _ _ rfl ⟨w0.heap.size, 3, none⟩ (.slice a (levs (cnt P)).length c) _ rfl rfl rfl rfl (fun w' hw' => (k5.below hw' l5).cell 3) ?_
      quiet_step (first | (intro _; rfl))
      refine q_step (.int .i64 (((levs (cnt P)).length : Int) + 1)) rfl (fun w' _ => by go_simp; first | done | simp [e6]) ?_
      quiet_step (first | (intro _; rfl))
      quiet_step (first | (intro _; rfl))
      quiet_step (first | (intro _; rfl))
      quiet_step (first | (intro _; rfl))
      quiet_step (first | (intro _; rfl))
      quiet_step (first | (intro _; rfl))
      refine q_step (.int .i64 ((levs (cnt P)).length : Int)) rfl (fun w' _ => by go_simp; first | done | simp [e7]) ?_
      refine q_step (.pointer (some ⟨g, (levs (cnt P)).length, none⟩)) rfl (fun w' _ => by go_simp; rw [if_pos (by omega)]; exact ⟨rfl, rfl⟩) ?_
      refine q_cell _ _ rfl ⟨g, (levs (cnt P)).length, none⟩ (.int .i64 (hd P - 1)) _ rfl rfl rfl rfl (fun w' hw' => (hw'.cell (p := ⟨g, (levs (cnt P)).length, none⟩) hg4).trans hcl) ?_
      refine q_load _ _ rfl w0.heap.size 24 #[.int .i64 P, .int .i64 B, .int .i64 (cnt P), .slice a (levs (cnt P)).length c, .int .i64 (nod P), .int .i64 (hd P), .int .i64 (hds B), .int .i64 (hd P + hds B), .int .i64 (hd P + hds B + B), .int .i64 (hd P + hds B + B + B)] _ rfl rfl rfl (by kernel_rfl) rfl (fun w' hw' => k5.below hw' l5) ?_
      refine wpQuiet_step (fun K hK => ?_)
      go_simp
      first | apply Exists.intro | (rw [if_pos e3.symm]; apply Exists.intro)
      refine ⟨fun w' hw' => ?_, hK _ ?_⟩
      · exact (top_any w' _ _ _ _ _ _ _ _ _ (hd P) hhd2).mono fun e w'' h => ⟨h.1, below_chain hw' h.2⟩
      clear hK K
      quiet_step (first | (intro _; rfl))
      quiet_step (first | (intro _; rfl))
      quiet_step (first | (intro _; rfl))
      refine wpQuiet_step (fun K hK => ?_)
      go_simp
      first | apply Exists.intro | (rw [if_pos e3.symm]; apply Exists.intro)
      refine ⟨fun w' hw' => ?_, hK _ ?_⟩
      · exact (awake_any w').mono fun e w'' h => ⟨h.1, below_chain hw' h.2⟩
      clear hK K
      quiet_step (first | (intro _; rfl))
      quiet_step (first | (intro _; rfl))
      refine wpQuiet_nil ?_
      intro w2 hw2
      go_wp2
      go_ret
      exact ⟨rfl, below_chain hB45 hw2⟩
  · go_wp2_with (first
      | (go_at_call 18; refine (path_out _ P page _ _ _ _ _ _ _ _ _ hr).mono ?_; rintro e w2 ⟨rfl, hB2⟩; have k2 := K0.out.below hB2 K0.out.lt; obtain ⟨p0, p1, p2, p3, p4, p5, p6, p7, p8, p9⟩ := k2.ten; have l2 := k2.lt)
      | (go_at_call 19; refine (refPath_out _ P page _ _ _ _ _ _ _ _ _ hr).mono ?_; rintro e w3 ⟨rfl, hB3⟩)
      | (go_at_call 20; refine (sameInts_any _ _ _ _ _ _ _ [] [] (isI_nil _) (isI_nil _) (by omega) (by omega)).mono ?_; rw [show decide (([] : List Int) = []) = true by simp]; rintro e w4 ⟨rfl, kd, rfl⟩; have k4 := k2.below hB3 l2; have hB4 := same_drewN (below_chain (below_chain HB1.out hB2) hB3) kd; have HI4 := Lib.hid ((HI.out.same hB2).same (same_drewN hB3 kd)); obtain ⟨q0, q1, q2, q3, q4, q5, q6, q7, q8, q9⟩ := k4.ten; have l4 := k4.lt; clear p0 p1 p2 p3 p4 p5 p6 p7 p8 p9 hB2 hB3 k2 l2))
    have hqr : 0 ≤ page % P ∧ page % P < P := ⟨hq0, hq1⟩
    have HPK := Lib.hid (pick_any page P hP.1 (by omega) hk')
    have HLQ := Lib.hid (path_len P (page % P))
    have HLA := Lib.hid (path_last hP hqr)
    generalize page % P = pq at hqr HPK HLQ HLA
    clear hq0 hq1
    go_region_with (first | (go_at_call 14; refine (HPK.out _).mono ?_; rintro e w' ⟨rfl, rfl⟩) | (go_at_call 18; refine (path_in _ P B pq hP hB hqr a c (HI4.out.same (same_drewN (Below.refl _ _) 1))).mono ?_; rintro e w5 ⟨v5, rfl, hown5, hB5⟩; rw [HLQ.out] at hown5; obtain ⟨g, gc, rfl, hg1, hg2, hg3, hg4, hg5⟩ := own_cellsI hown5 (by omega)))
    all_goals
      have hB45 := below_chain hB4.drew hB5
      have k5 := (Blk.drew' (Blk.drewN k4 kd)).below hB5 l4
      have l5 := k5.lt
      have hcl := hg5 (levs (cnt P)).length (.int .i64 (hd P - 1)) (by
        have h1 := HLQ.out
        have h2 := HLA.out
        rw [← h2]; simp [ints, List.getD, h1])
      clear hg5 hown5 hB5 HI4 q0 q1 q2 q3 q4 q5 q6 q7 q8 q9 hB4 HI K0 HB1 k4 l4
      have e1 : wrap64 (hd P - 1) = hd P - 1 := IntWalk.wrap64_in _ (by omega)
      have e3 : IntKind.i64.wrap (hd P - 1) = hd P - 1 := IntWalk.i64_in _ (by omega)
      have e4 : ((levs (cnt P)).length : Int) + 1 - 1 = ((levs (cnt P)).length : Int) := by omega
      have e6 : IntKind.i64.wrap (((levs (cnt P)).length : Int) + 1) = ((levs (cnt P)).length : Int) + 1 := IntWalk.i64_in _ (by omega)
      have e7 : IntKind.i64.wrap ((levs (cnt P)).length : Int) = ((levs (cnt P)).length : Int) := IntWalk.i64_in _ (by omega)
      have e5 : wrap64 ((levs (cnt P)).length : Int) = ((levs (cnt P)).length : Int) := IntWalk.wrap64_in _ (by omega)
      go_wp2_with fail
      refine region_class (C := fun w' => Below w5.heap.size w5 w') (by kernel_rfl) (by kernel_rfl) (Below.refl _ w5).drew ?_
      quiet_step (first | (intro _; rfl))
      quiet_step (first | (intro _; rfl))
      quiet_step (first | (intro _; rfl))
      quiet_step (first | (intro _; rfl))
      quiet_step (first | (intro _; rfl))
      quiet_step (first | (intro _; rfl))
      refine q_cell _ _ rfl ⟨w0.heap.size, 3, none⟩ (.slice a (levs (cnt P)).length c) _ rfl rfl rfl rfl (fun w' hw' => (k5.below hw' l5).cell 3) ?_
      quiet_step (first | (intro _; rfl))
      refine q_step (.int .i64 (((levs (cnt P)).length : Int) + 1)) rfl (fun w' _ => by go_simp; first | done | simp [e6]) ?_
      quiet_step (first | (intro _; rfl))
      quiet_step (first | (intro _; rfl))
      quiet_step (first | (intro _; rfl))
      quiet_step (first | (intro _; rfl))
      quiet_step (first | (intro _; rfl))
      quiet_step (first | (intro _; rfl))
      refine q_step (.int .i64 ((levs (cnt P)).length : Int)) rfl (fun w' _ => by go_simp; first | done | simp [e7]) ?_
      refine q_step (.pointer (some ⟨g, (levs (cnt P)).length, none⟩)) rfl (fun w' _ => by go_simp; rw [if_pos (by omega)]; exact ⟨rfl, rfl⟩) ?_
      refine q_cell _ _ rfl ⟨g, (levs (cnt P)).length, none⟩ (.int .i64 (hd P - 1)) _ rfl rfl rfl rfl (fun w' hw' => (hw'.cell (p := ⟨g, (levs (cnt P)).length, none⟩) hg4).trans hcl) ?_
      refine q_load _ _ rfl w0.heap.size 24 #[.int .i64 P, .int .i64 B, .int .i64 (cnt P), .slice a (levs (cnt P)).length c, .int .i64 (nod P), .int .i64 (hd P), .int .i64 (hds B), .int .i64 (hd P + hds B), .int .i64 (hd P + hds B + B), .int .i64 (hd P + hds B + B + B)] _ rfl rfl rfl (by kernel_rfl) rfl (fun w' hw' => k5.below hw' l5) ?_
      refine wpQuiet_step (fun K hK => ?_)
      go_simp
      first | apply Exists.intro | (rw [if_pos e3.symm]; apply Exists.intro)
      refine ⟨fun w' hw' => ?_, hK _ ?_⟩
      · exact (top_any w' _ _ _ _ _ _ _ _ _ (hd P) hhd2).mono fun e w'' h => ⟨h.1, below_chain hw' h.2⟩
      clear hK K
      quiet_step (first | (intro _; rfl))
      quiet_step (first | (intro _; rfl))
      quiet_step (first | (intro _; rfl))
      refine wpQuiet_step (fun K hK => ?_)
      go_simp
      first | apply Exists.intro | (rw [if_pos e3.symm]; apply Exists.intro)
      refine ⟨fun w' hw' => ?_, hK _ ?_⟩
      · exact (awake_any w').mono fun e w'' h => ⟨h.1, below_chain hw' h.2⟩
      clear hK K
      quiet_step (first | (intro _; rfl))
      quiet_step (first | (intro _; rfl))
      refine wpQuiet_nil ?_
      intro w2 hw2
      go_wp2
      go_ret
      exact ⟨rfl, below_chain hB45 hw2⟩

/-! The row's step. -/
theorem own : ownKnob Try.prog.godebug = none := by kernel_rfl
theorem laidOut : laidOutB Try.prog = true := by kernel_rfl
set_option linter.unusedVariables false
set_option maxRecDepth 100000 in
theorem lifted (os : Os) (started : os.Started) (H : Type) (enc : TypeId × Value → H) :
    ReturnsInHanded {} Try.checked os 5 .any (Rows.planPathsSpec.pre6 enc Try.prog Try.f5 Rows.planPathsRow.domain false) (Rows.planPathsSpec.post enc Try.prog Try.f5 false true false false) := by
  refine returnsInHanded_of_change_sized (C := Try.checked) own started (by kernel_rfl) Try.func5
    (ChangeSpec.witness6 (enc := enc) (C := Try.checked) false ⟨#[], #[.int .i64 0, .int .i64 0, .int .i64 0], []⟩ 8 (by kernel_rfl) (by kernel_rfl) (by kernel_rfl) (by kernel_rfl)) ?_
  intro W base args ds gs before hval0 hW _ hsz0 _
  have hsz : (DataW.weightsEach Try.prog (Try.f5.params.toList ++ Rows.planPathsSpec.plain.varTypes Try.prog) (ds ++ gs)).all (· ≤ reachBytes) = true := hsz0
  clear hsz0
  have hval : ∀ (j : Nat) t v, Try.f5.params[j]? = some t → args[j]? = some v → Value.okWide Try.prog W .any base t v := hval0
  have hW' := hW
  obtain ⟨p, q, hA0, hV, rfl, hfz, hnd⟩ := hW
  have hA : DataW.TrodAll enc Try.prog W 0 (fun _ => true) true Try.f5.params.toList args.toList ds p := hA0
  rw [Try.params5] at hA hval hsz
  obtain ⟨v0, vs0, d0, ds0, p0, q0, hargs, rfl, rfl, h0, r0⟩ := trodAll_cons hA
  obtain ⟨v1, vs1, d1, ds1, p1, q1, rfl, rfl, rfl, h1, r1⟩ := trodAll_cons r0
  obtain ⟨v2, vs2, d2, ds2, p2, q2, rfl, rfl, rfl, h2, r2⟩ := trodAll_cons r1
  obtain ⟨rfl, rfl, rfl⟩ := trodAll_nil r2
  obtain rfl : args = #[v0, v1, v2] := by cases args; simp_all
  obtain ⟨rfl, rfl⟩ := trodVars_none hV
  obtain ⟨a0, rfl, rfl, rfl, w0⟩ := open_int Try.underlying3 (hval 0 3 v0 rfl rfl) h0
  obtain ⟨a1, rfl, rfl, rfl, w1⟩ := open_int Try.underlying3 (hval 1 3 v1 rfl rfl) h1
  obtain ⟨a2, rfl, rfl, rfl, w2⟩ := open_int Try.underlying3 (hval 2 3 v2 rfl rfl) h2
  clear hA0 hval0
  refine (walk W a0 w0 a1 w1 a2 w2).mono fun e W' ⟨he, bel⟩ => ?_
  subst he
  exact ⟨_, rfl, _, _, _, [], _, [], hW', trodAll_mk1 (shut_bool Try.underlying4 _), (trodAll_cons_mk (shut_int Try.underlying3 w0) (trodAll_cons_mk (shut_int Try.underlying3 w1) (trodAll_cons_mk (shut_int Try.underlying3 w2) trodAll_mk0))), rfl, bel.frame _, fun h => by cases h⟩

theorem over : Rows.planPathsRow.holds Try.pinned (OpenSpec.ofChange Rows.planPathsSpec) :=
  OpenClaim.holds_of_wide 5 Try.f5 rfl rfl rfl rfl rfl rfl rfl ⟨rfl, rfl, rfl, rfl, rfl⟩ rfl rfl rfl rfl rfl (by kernel_rfl) Try.func5 (by kernel_rfl)
    (of_decide_eq_true (by kernel_rfl)) (by unfold Func.isWrapper; first | (rw [if_pos (by decide +kernel)]; kernel_rfl) | (rw [if_neg (by decide +kernel)]; exact ⟨rfl, rfl⟩))
    (fun os started H enc _ => lifted os started H enc)

/-- THE STATEMENT. -/
theorem proved : Rows.PlanPathsSaid := over

#print axioms proved
end Go.Proofs.Ytnkoniagakhacaa.planPaths
