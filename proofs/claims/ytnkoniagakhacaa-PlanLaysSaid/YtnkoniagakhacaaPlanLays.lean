/- PlanLays: for every pages and every budget the law returns true. -/
import Derived.Test.YtnkoniagakhacaaPi
import Derived.ProofKit
import Derived.OpenShut
import Derived.SizedLaws
namespace Go.Proofs.Ytnkoniagakhacaa.planLays
open Go.ChangeShapes Go.WideShapes Go.ChangeAt Go.RowKit
set_option maxRecDepth 100000
set_option maxHeartbeats 1000000 in
theorem walk (W : World) (P : Int) (_hp : (Lit.int .i64 P).wf = true) (B : Int) (_hb : (Lit.int .i64 B).wf = true) :
    Calls Try.prog 3 #[.int .i64 P, .int .i64 B] W fun e w' => e = .returned (.bool true) ∧ Below W.heap.size W w' := by
  by_cases h : (1 ≤ P ∧ P ≤ 4096) ∧ (1 ≤ B ∧ B ≤ 256)
  · obtain ⟨hP, hB⟩ := h
    go_enter Try.func3, Try.ntmps3
    go_wp2_with (go_at_call 9; refine (planOf_in _ P B hP hB).mono ?_; rintro e w1 ⟨v, rfl, hown, hB1⟩; obtain ⟨va, vc, rfl, hI, hva⟩ := isI_own hown (levs_wf hP))
    have HI := Lib.hid (hI.same ((Below.refl _ w1).alloc (Nat.le_refl _) (.cells #[.int .i64 P, .int .i64 B, .int .i64 (cnt P), .slice va (levs (cnt P)).length vc, .int .i64 (nod P), .int .i64 (hd P), .int .i64 (hds B), .int .i64 (hd P + hds B), .int .i64 (hd P + hds B + B), .int .i64 (hd P + hds B + B + B)] 24)))
    have hb := heap_alloc_new w1 (.cells #[.int .i64 P, .int .i64 B, .int .i64 (cnt P), .slice va (levs (cnt P)).length vc, .int .i64 (nod P), .int .i64 (hd P), .int .i64 (hds B), .int .i64 (hd P + hds B), .int .i64 (hd P + hds B + B), .int .i64 (hd P + hds B + B + B)] 24)
    have hB2 : Below W.heap.size W (w1.alloc (.cells #[.int .i64 P, .int .i64 B, .int .i64 (cnt P), .slice va (levs (cnt P)).length vc, .int .i64 (nod P), .int .i64 (hd P), .int .i64 (hds B), .int .i64 (hd P + hds B), .int .i64 (hd P + hds B + B), .int .i64 (hd P + hds B + B + B)] 24)) := hB1.alloc hB1.size _
    clear hown hI hB1 hva
    refine (refOf_in _ P B hP hB).mono ?_
    rintro e w3 ⟨v2, rfl, hown2, hB3⟩
    obtain ⟨pa, pc, rfl, hJ, hpa⟩ := isI_own hown2 (levs_wf hP)
    have hb3 : Blk w3 w1.heap.size 24 _ := Blk.below hb hB3 (by simp)
    have HI3 := Lib.hid ((HI.out.same hB3).same ((Below.refl _ w3).alloc (Nat.le_refl _) (.cells #[.int .i64 P, .int .i64 B, .int .i64 (cnt P), .slice pa (levs (cnt P)).length pc, .int .i64 (nod P), .int .i64 (hd P), .int .i64 (hds B), .int .i64 (hd P + hds B), .int .i64 (hd P + hds B + B), .int .i64 (hd P + hds B + B + B)] 24)))
    have HJ3 := Lib.hid (hJ.same ((Below.refl _ w3).alloc (Nat.le_refl _) (.cells #[.int .i64 P, .int .i64 B, .int .i64 (cnt P), .slice pa (levs (cnt P)).length pc, .int .i64 (nod P), .int .i64 (hd P), .int .i64 (hds B), .int .i64 (hd P + hds B), .int .i64 (hd P + hds B + B), .int .i64 (hd P + hds B + B + B)] 24)))
    have hB13 := below_chain hB2 hB3
    clear hJ hown2 hb hB2 hB3 HI hpa
    obtain ⟨p0, p1, p2, p3, p4, p5, p6, p7, p8, p9⟩ := hb3.ten
    have lt1 := hb3.lt
    have g0 : ((0 : Int) == 0) = true := rfl
    go_wp2_with (first | (go_at_call 11; refine (same_plans _ P B hP va pa vc pc HI3.out HJ3.out).mono ?_; rintro e w5 ⟨rfl, hB5⟩) | (go_at_call 12; refine (awake_any _).mono ?_; rintro e w6 ⟨rfl, hB6⟩))
    go_ret
    exact ⟨rfl, below_chain (below_chain (hB13.alloc hB13.size _) hB5) hB6⟩
  · go_enter Try.func3, Try.ntmps3
    have HN := Lib.hid h; clear h
    go_wp2_with (first | (go_at_call 9; refine (planOf_out _ P B HN.out).mono ?_; rintro e w1 ⟨rfl, hB1⟩) | (go_at_call 10; refine (refOf_out _ P B HN.out).mono ?_; rintro e w3 ⟨rfl, hB3⟩; have hb3 := Blk.below (heap_alloc_new w1 (.cells #[.int .i64 0, .int .i64 0, .int .i64 0, .slice none 0 0, .int .i64 0, .int .i64 0, .int .i64 0, .int .i64 0, .int .i64 0, .int .i64 0] 24)) hB3 (by simp); obtain ⟨p0, p1, p2, p3, p4, p5, p6, p7, p8, p9⟩ := hb3.ten; have lt1 := hb3.lt) | (go_at_call 11; refine (same_zero _).mono ?_; rintro e w5 ⟨rfl, hB5⟩) | (go_at_call 12; refine (awake_any _).mono ?_; rintro e w6 ⟨rfl, hB6⟩))
    go_ret
    have hB13 := below_chain (hB1.alloc hB1.size _) hB3
    exact ⟨rfl, below_chain (below_chain (hB13.alloc hB13.size _) hB5) hB6⟩

/-! The row's step. -/
theorem own : ownKnob Try.prog.godebug = none := by kernel_rfl
theorem laidOut : laidOutB Try.prog = true := by kernel_rfl
set_option linter.unusedVariables false
set_option maxRecDepth 100000 in
theorem lifted (os : Os) (started : os.Started) (H : Type) (enc : TypeId × Value → H) :
    ReturnsInHanded {} Try.checked os 3 .any (Rows.planLaysSpec.pre6 enc Try.prog Try.f3 Rows.planLaysRow.domain false) (Rows.planLaysSpec.post enc Try.prog Try.f3 false true false false) := by
  refine returnsInHanded_of_change_sized (C := Try.checked) own started (by kernel_rfl) Try.func3
    (ChangeSpec.witness6 (enc := enc) (C := Try.checked) false ⟨#[], #[.int .i64 0, .int .i64 0], []⟩ 8 (by kernel_rfl) (by kernel_rfl) (by kernel_rfl) (by kernel_rfl)) ?_
  intro W base args ds gs before hval0 hW _ hsz0 _
  have hsz : (DataW.weightsEach Try.prog (Try.f3.params.toList ++ Rows.planLaysSpec.plain.varTypes Try.prog) (ds ++ gs)).all (· ≤ reachBytes) = true := hsz0
  clear hsz0
  have hval : ∀ (j : Nat) t v, Try.f3.params[j]? = some t → args[j]? = some v → Value.okWide Try.prog W .any base t v := hval0
  have hW' := hW
  obtain ⟨p, q, hA0, hV, rfl, hfz, hnd⟩ := hW
  have hA : DataW.TrodAll enc Try.prog W 0 (fun _ => true) true Try.f3.params.toList args.toList ds p := hA0
  rw [Try.params3] at hA hval hsz
  obtain ⟨v0, vs0, d0, ds0, p0, q0, hargs, rfl, rfl, h0, r0⟩ := trodAll_cons hA
  obtain ⟨v1, vs1, d1, ds1, p1, q1, rfl, rfl, rfl, h1, r1⟩ := trodAll_cons r0
  obtain ⟨rfl, rfl, rfl⟩ := trodAll_nil r1
  obtain rfl : args = #[v0, v1] := by cases args; simp_all
  obtain ⟨rfl, rfl⟩ := trodVars_none hV
  obtain ⟨a0, rfl, rfl, rfl, w0⟩ := open_int Try.underlying3 (hval 0 3 v0 rfl rfl) h0
  obtain ⟨a1, rfl, rfl, rfl, w1⟩ := open_int Try.underlying3 (hval 1 3 v1 rfl rfl) h1
  clear hA0 hval0
  refine (walk W a0 w0 a1 w1).mono fun e W' ⟨he, bel⟩ => ?_
  subst he
  exact ⟨_, rfl, _, _, _, [], _, [], hW', trodAll_mk1 (shut_bool Try.underlying4 _), (trodAll_cons_mk (shut_int Try.underlying3 w0) (trodAll_cons_mk (shut_int Try.underlying3 w1) trodAll_mk0)), rfl, bel.frame _, fun h => by cases h⟩

theorem over : Rows.planLaysRow.holds Try.pinned (OpenSpec.ofChange Rows.planLaysSpec) :=
  OpenClaim.holds_of_wide 3 Try.f3 rfl rfl rfl rfl rfl rfl rfl ⟨rfl, rfl, rfl, rfl, rfl⟩ rfl rfl rfl rfl rfl (by kernel_rfl) Try.func3 (by kernel_rfl)
    (of_decide_eq_true (by kernel_rfl)) (by unfold Func.isWrapper; first | (rw [if_pos (by decide +kernel)]; kernel_rfl) | (rw [if_neg (by decide +kernel)]; exact ⟨rfl, rfl⟩))
    (fun os started H enc _ => lifted os started H enc)

/-- THE STATEMENT. -/
theorem proved : Rows.PlanLaysSaid := over

#print axioms proved
end Go.Proofs.Ytnkoniagakhacaa.planLays
