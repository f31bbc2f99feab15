/- PlanParents: for every pages, every budget and every block the law returns true. -/
import Derived.Test.YtnkoniagakhacaaQu
import Derived.ProofKit
import Derived.OpenShut
import Derived.SizedLaws
namespace Go.Proofs.Ytnkoniagakhacaa.planParents
open Go.ChangeShapes Go.WideShapes Go.ChangeAt Go.RowKit
set_option maxRecDepth 100000
theorem Blk.drew' {w : World} {q : Nat} {t : TypeId} {vs : Array Value} (h : Blk w q t vs) : Blk w.drew q t vs := h
theorem ix0 (x y : Int) (w : World) : (Instr.index 36 (.agg #[.int .i64 x, .int .i64 y]) (.int .i64 0)).run Try.prog w = .ok (.int .i64 x) w := rfl
theorem ix1 (x y : Int) (w : World) : (Instr.index 36 (.agg #[.int .i64 x, .int .i64 y]) (.int .i64 1)).run Try.prog w = .ok (.int .i64 y) w := rfl
set_option maxHeartbeats 1000000 in
theorem walk (W : World) (pg : Int) (hp : (Lit.int .i64 pg).wf = true) (bd : Int) (hb : (Lit.int .i64 bd).wf = true) (blk : Int) (hk : (Lit.int .i64 blk).wf = true) :
    Calls Try.prog 4 #[.int .i64 pg, .int .i64 bd, .int .i64 blk] W fun e w' => e = .returned (.bool true) ∧ Below W.heap.size W w' := by
  have hk' := bounds_i64 hk
  have hi0 := ix0
  have hi1 := ix1
  go_enter Try.func4, Try.ntmps4
  go_wp2_with fail
  refine (made_any _ pg bd (bounds_i64 hp) (bounds_i64 hb)).mono ?_
  rintro e w0 ⟨P, B, a, c, rfl, hP, hB, -, -, hI, hB0⟩
  clear hp hb hk
  have hhd := hd_le hP
  have hhs := hds_le hB
  have hq0 := Int.emod_nonneg blk (show hd P + hds B + B + B ≠ 0 by omega)
  have hq1 := Int.emod_lt_of_pos blk (show 0 < hd P + hds B + B + B by omega)
  have hhd2 : 0 ≤ hd P ∧ hd P ≤ 1000000 := by omega
  go_wp2_with (go_at_call 14; refine (pick_any blk (hd P + hds B + B + B) (by omega) (by omega) hk' _).mono ?_; rintro e w' ⟨rfl, rfl⟩)
  obtain ⟨w1, hw1⟩ : ∃ w1, w1 = w0.alloc (.cells #[.int .i64 P, .int .i64 B, .int .i64 (cnt P), .slice a (levs (cnt P)).length c, .int .i64 (nod P), .int .i64 (hd P), .int .i64 (hds B), .int .i64 (hd P + hds B), .int .i64 (hd P + hds B + B), .int .i64 (hd P + hds B + B + B)] 24) := ⟨_, rfl⟩
  rw [← hw1]
  have hB1 : Below W.heap.size W w1 := by rw [hw1]; exact hB0.alloc hB0.size _
  have k0 : Blk w1 w0.heap.size 24 #[.int .i64 P, .int .i64 B, .int .i64 (cnt P), .slice a (levs (cnt P)).length c, .int .i64 (nod P), .int .i64 (hd P), .int .i64 (hds B), .int .i64 (hd P + hds B), .int .i64 (hd P + hds B + B), .int .i64 (hd P + hds B + B + B)] := by rw [hw1]; exact heap_alloc_new w0 _
  have HI := Lib.hid (show IsI w1 a (levs (cnt P)).length c (levs (cnt P)) by rw [hw1]; exact hI.same ((Below.refl _ _).alloc (Nat.le_refl _) _))
  have lt1 := k0.lt
  clear hw1 hI
  generalize hq : blk % (hd P + hds B + B + B) = q at hq0 hq1 ⊢
  clear hq
  go_loopw [29] (fun t wr => (t = .int .i64 0 ∨ t = .int .i64 1 ∨ t = .int .i64 2) ∧ Below w1.heap.size w1 wr) (fun t _ => 2 - (intOf t).toNat)
  case atStart => exact ⟨Or.inl rfl, Below.refl _ _⟩
  case round =>
    obtain ⟨ht, hBr⟩ := hrel
    have kr := k0.below hBr lt1
    obtain ⟨p0, p1, p2, p3, p4, p5, p6, p7, p8, p9⟩ := kr.ten
    have ltr := kr.lt
    have HIr := Lib.hid (HI.out.same hBr)
    have hBW := below_chain hB1 hBr
    rcases ht with rfl | rfl | rfl
    · go_wp2_with (first | (go_at_call 15; refine (parent_any _ P B blk hP hB hk' a c HIr.out).mono ?_; rintro e w2 ⟨rfl, hB2⟩; have kr2 := kr.below hB2 ltr; obtain ⟨s0, s1, s2, s3, s4, s5, s6, s7, s8, s9⟩ := kr2.ten; have lt2 := kr2.lt) | (go_at_call 16; refine (refParent_any _ P B blk hP hk' a c ((HIr.out.same hB2).same ((Below.refl _ _).alloc (Nat.le_refl _) _))).mono ?_; rintro e w3 ⟨rfl, hB3⟩; have kr3 := (Blk.alloc kr2 _).below hB3 (by simp; omega); have ll := (heap_alloc_new w2 (.cells #[.int .i64 (parent P blk).1, .int .i64 (parent P blk).2.1] 38)); have kk3 : Blk w3 w2.heap.size 38 #[.int .i64 (parent P blk).1, .int .i64 (parent P blk).2.1] := Blk.below ll hB3 (by simp); obtain ⟨u0, u1, z0, z1⟩ := kk3.two; have lt3 := kk3.lt))
      go_roundw
      case rel => exact ⟨Or.inr (Or.inl rfl), (below_chain (below_chain hBr hB2 |>.alloc (Nat.le_trans hBr.size hB2.size) _) hB3).alloc (by have := hBr.size; have := hB2.size; have := hB3.size; simp at this; omega) _⟩
      case measure => simp only [intOf]; omega
    · go_wp2_with (first | (go_at_call 15; refine (parent_any _ P B q hP hB (by omega) a c HIr.out).mono ?_; rintro e w2 ⟨rfl, hB2⟩; have kr2 := kr.below hB2 ltr; obtain ⟨s0, s1, s2, s3, s4, s5, s6, s7, s8, s9⟩ := kr2.ten; have lt2 := kr2.lt) | (go_at_call 16; refine (refParent_any _ P B q hP (by omega) a c ((HIr.out.same hB2).same ((Below.refl _ _).alloc (Nat.le_refl _) _))).mono ?_; rintro e w3 ⟨rfl, hB3⟩; have kr3 := (Blk.alloc kr2 _).below hB3 (by simp; omega); have ll := (heap_alloc_new w2 (.cells #[.int .i64 (parent P q).1, .int .i64 (parent P q).2.1] 38)); have kk3 : Blk w3 w2.heap.size 38 #[.int .i64 (parent P q).1, .int .i64 (parent P q).2.1] := Blk.below ll hB3 (by simp); obtain ⟨u0, u1, z0, z1⟩ := kk3.two; have lt3 := kk3.lt))
      go_roundw
      case rel => exact ⟨Or.inr (Or.inr rfl), (below_chain (below_chain hBr hB2 |>.alloc (Nat.le_trans hBr.size hB2.size) _) hB3).alloc (by have := hBr.size; have := hB2.size; have := hB3.size; simp at this; omega) _⟩
      case measure => simp only [intOf]; omega
    · clear hi0 hi1 hq0 hq1
      have e1 : wrap64 (hd P - 1) = hd P - 1 := IntWalk.wrap64_in _ (by omega)
      have e3 : IntKind.i64.wrap (hd P - 1) = hd P - 1 := IntWalk.i64_in _ (by omega)
      go_wp2_with fail
      refine region_class (C := fun w' => Below wr.heap.size wr w') (by kernel_rfl) (by kernel_rfl) (Below.refl _ wr).drew ?_
      refine q_load _ _ rfl w0.heap.size 24 #[.int .i64 P, .int .i64 B, .int .i64 (cnt P), .slice a (levs (cnt P)).length c, .int .i64 (nod P), .int .i64 (hd P), .int .i64 (hds B), .int .i64 (hd P + hds B), .int .i64 (hd P + hds B + B), .int .i64 (hd P + hds B + B + B)] _ rfl rfl rfl (by kernel_rfl) rfl (fun w' hw' => kr.below hw' ltr) ?_
      refine wpQuiet_step (fun K hK => ?_)
      go_simp
      apply Exists.intro
      refine ⟨fun w' hw' => ?_, hK _ ?_⟩
      · exact (top_any w' _ _ _ _ _ _ _ _ _ (hd P) hhd2).mono fun e w'' h => ⟨h.1, below_chain hw' h.2⟩
      clear hK K
      quiet_step (first | (intro _; rfl))
      refine q_cell _ _ rfl ⟨w0.heap.size, 5, none⟩ (.int .i64 (hd P)) _ rfl rfl rfl rfl (fun w' hw' => (kr.below hw' ltr).cell 5) ?_
      quiet_step (first | (intro _; rfl))
      quiet_step (first | (intro _; rfl))
      quiet_step (first | (intro _; rfl))
      refine wpQuiet_step (fun K hK => ?_)
      go_simp
      first | apply Exists.intro | (rw [if_pos e3.symm]; apply Exists.intro)
      refine ⟨fun w' hw' => ?_, hK _ ?_⟩
      · exact (awake_any w').mono fun e w'' h => ⟨h.1, below_chain hw' h.2⟩
      clear hK K
      quiet_step (first | (intro _; rfl))
      quiet_step (first | (intro _; rfl))
      refine wpQuiet_nil ?_
      intro w2 hw2
      go_wp2
      go_ret
      exact ⟨rfl, below_chain hBW hw2⟩

/-! The row's step. -/
theorem own : ownKnob Try.prog.godebug = none := by kernel_rfl
theorem laidOut : laidOutB Try.prog = true := by kernel_rfl
set_option linter.unusedVariables false
set_option maxRecDepth 100000 in
theorem lifted (os : Os) (started : os.Started) (H : Type) (enc : TypeId × Value → H) :
    ReturnsInHanded {} Try.checked os 4 .any (Rows.planParentsSpec.pre6 enc Try.prog Try.f4 Rows.planParentsRow.domain false) (Rows.planParentsSpec.post enc Try.prog Try.f4 false true false false) := by
  refine returnsInHanded_of_change_sized (C := Try.checked) own started (by kernel_rfl) Try.func4
    (ChangeSpec.witness6 (enc := enc) (C := Try.checked) false ⟨#[], #[.int .i64 0, .int .i64 0, .int .i64 0], []⟩ 8 (by kernel_rfl) (by kernel_rfl) (by kernel_rfl) (by kernel_rfl)) ?_
  intro W base args ds gs before hval0 hW _ hsz0 _
  have hsz : (DataW.weightsEach Try.prog (Try.f4.params.toList ++ Rows.planParentsSpec.plain.varTypes Try.prog) (ds ++ gs)).all (· ≤ reachBytes) = true := hsz0
  clear hsz0
  have hval : ∀ (j : Nat) t v, Try.f4.params[j]? = some t → args[j]? = some v → Value.okWide Try.prog W .any base t v := hval0
  have hW' := hW
  obtain ⟨p, q, hA0, hV, rfl, hfz, hnd⟩ := hW
  have hA : DataW.TrodAll enc Try.prog W 0 (fun _ => true) true Try.f4.params.toList args.toList ds p := hA0
  rw [Try.params4] at hA hval hsz
  obtain ⟨v0, vs0, d0, ds0, p0, q0, hargs, rfl, rfl, h0, r0⟩ := trodAll_cons hA
  obtain ⟨v1, vs1, d1, ds1, p1, q1, rfl, rfl, rfl, h1, r1⟩ := trodAll_cons r0
  obtain ⟨v2, vs2, d2, ds2, p2, q2, rfl, rfl, rfl, h2, r2⟩ := trodAll_cons r1
  obtain ⟨rfl, rfl, rfl⟩ := trodAll_nil r2
  obtain rfl : args = #[v0, v1, v2] := by cases args; simp_all
  obtain ⟨rfl, rfl⟩ := trodVars_none hV
  obtain ⟨a0, rfl, rfl, rfl, w0⟩ := open_int Try.underlying3 (hval 0 3 v0 rfl rfl) h0
  obtain ⟨a1, rfl, rfl, rfl, w1⟩ := open_int Try.underlying3 (hval 1 3 v1 rfl rfl) h1
  obtain ⟨a2, rfl, rfl, rfl, w2⟩ := open_int Try.underlying3 (hval 2 3 v2 rfl rfl) h2
  clear hA0 hval0
  refine (walk W a0 w0 a1 w1 a2 w2).mono fun e W' ⟨he, bel⟩ => ?_
  subst he
  exact ⟨_, rfl, _, _, _, [], _, [], hW', trodAll_mk1 (shut_bool Try.underlying4 _), (trodAll_cons_mk (shut_int Try.underlying3 w0) (trodAll_cons_mk (shut_int Try.underlying3 w1) (trodAll_cons_mk (shut_int Try.underlying3 w2) trodAll_mk0))), rfl, bel.frame _, fun h => by cases h⟩

theorem over : Rows.planParentsRow.holds Try.pinned (OpenSpec.ofChange Rows.planParentsSpec) :=
  OpenClaim.holds_of_wide 4 Try.f4 rfl rfl rfl rfl rfl rfl rfl ⟨rfl, rfl, rfl, rfl, rfl⟩ rfl rfl rfl rfl rfl (by kernel_rfl) Try.func4 (by kernel_rfl)
    (of_decide_eq_true (by kernel_rfl)) (by unfold Func.isWrapper; first | (rw [if_pos (by decide +kernel)]; kernel_rfl) | (rw [if_neg (by decide +kernel)]; exact ⟨rfl, rfl⟩))
    (fun os started H enc _ => lifted os started H enc)

/-- THE STATEMENT. -/
theorem proved : Rows.PlanParentsSaid := over

#print axioms proved
end Go.Proofs.Ytnkoniagakhacaa.planParents
