/- PlanNeeds: for every pages, every budget and every list the law returns true. -/
import Derived.Test.YtnkoniagakhacaaQu
import Derived.Test.YtnkoniagakhacaaPq
import Derived.ProofKit
import Derived.OpenShut
import Derived.SizedLaws
namespace Go.Proofs.Ytnkoniagakhacaa.planNeeds
open Go.ChangeShapes Go.WideShapes Go.ChangeAt Go.RowKit Go.Deep
set_option maxRecDepth 100000
def nears (P : Int) (A : List Int) : List Int := A.map (· % P)
theorem nears_snoc (P : Int) {A : List Int} {i : Nat} (h : i < A.length) : nears P (A.take (i + 1)) = nears P (A.take i) ++ [A.getD i 0 % P] := by
  unfold nears; rw [take_snocI h, List.map_append]; rfl
set_option maxHeartbeats 4000000 in
theorem walk (W : World) (pg : Int) (hp : (Lit.int .i64 pg).wf = true) (bd : Int) (hb : (Lit.int .i64 bd).wf = true) (x : Option Addr) (len2 cap2 : Nat) (A : List Int) (hA : IsI W x len2 cap2 A) (_r : len2 * 8 ≤ 140737488351232) :
    Calls Try.prog 6 #[.int .i64 pg, .int .i64 bd, .slice x len2 cap2] W fun e w' => e = .returned (.bool true) ∧ Below W.heap.size W w' := by
  obtain rfl := hA.hlen
  have hcA : Hid (∀ i, i < A.length → ∃ b off, x = some ⟨b, off, none⟩ ∧ b < W.heap.size ∧ W.cell? ⟨b, off + i, none⟩ = some (.int .i64 (A.getD i 0))) := by
    intro i hi
    rcases hA.at_ with e | ⟨b, off, e, hb, hc⟩
    · rw [e] at hi; simp at hi
    · exact ⟨b, off, e, hb, hc i hi⟩
  have HWF := Lib.hid hA.wf
  have HA0 := Lib.hid hA
  have hca := hA.hcap
  obtain ⟨i0, hi, hz0, hz1, hz2⟩ := info_parts infoIntP
  clear hA
  go_enter Try.func6, Try.ntmps6
  go_wp2_with fail
  refine (made_any _ pg bd (bounds_i64 hp) (bounds_i64 hb)).mono ?_
  rintro e w0 ⟨P, B, a, c, rfl, hP, hB, -, -, hI, hB0⟩
  clear hp hb
  have hhd := hd_le hP
  have hls := levs_short (cnt P) (by unfold cnt; omega)
  by_cases h3 : 300 < (A.length : Int)
  · go_wp2_with (go_at_call 12; refine (awake_any _).mono ?_; rintro e w2 ⟨rfl, hB2⟩)
    go_ret
    exact ⟨rfl, below_chain (hB0.alloc hB0.size _) hB2⟩
  · obtain ⟨w1, hw1⟩ : ∃ w1, w1 = w0.alloc (.cells #[.int .i64 P, .int .i64 B, .int .i64 (cnt P), .slice a (levs (cnt P)).length c, .int .i64 (nod P), .int .i64 (hd P), .int .i64 (hds B), .int .i64 (hd P + hds B), .int .i64 (hd P + hds B + B), .int .i64 (hd P + hds B + B + B)] 24) := ⟨_, rfl⟩
    have hB1 : Below W.heap.size W w1 := by rw [hw1]; exact hB0.alloc hB0.size _
    have k0 : Blk w1 w0.heap.size 24 #[.int .i64 P, .int .i64 B, .int .i64 (cnt P), .slice a (levs (cnt P)).length c, .int .i64 (nod P), .int .i64 (hd P), .int .i64 (hds B), .int .i64 (hd P + hds B), .int .i64 (hd P + hds B + B), .int .i64 (hd P + hds B + B + B)] := by rw [hw1]; exact heap_alloc_new w0 _
    have HI := Lib.hid (show IsI w1 a (levs (cnt P)).length c (levs (cnt P)) by rw [hw1]; exact hI.same ((Below.refl _ _).alloc (Nat.le_refl _) _))
    have lt1 := k0.lt
    go_wp2
    rw [← hw1]
    clear hw1 hI
    go_loopw [9, 10] (fun u t wr => ∃ (i : Nat), t = .int .i64 i ∧ i ≤ A.length ∧ wr.ownsRow w1.heap.size 3 1 u i (ints (nears P (A.take i))) ∧ Below w1.heap.size w1 wr) (fun _ t => fun _ => A.length - (intOf t).toNat)
    case atStart => exact ⟨0, rfl, Nat.zero_le _, ⟨rfl, Or.inl ⟨rfl, rfl⟩⟩, Below.refl _ _⟩
    case round =>
      obtain ⟨i, rfl, i1, hown, hBr⟩ := hrel
      obtain ⟨va, vc, rfl⟩ := own_shape' hown
      have hi0 : (0 : Int) ≤ (i : Int) := Int.natCast_nonneg _
      have kr := k0.below hBr lt1
      have p0 := kr.cell 0
      have p3 := kr.cell 3
      simp only [List.getElem?_toArray, List.getElem?_cons_succ, List.getElem?_cons_zero] at p0 p3
      have ltr := kr.lt
      have hBW := below_chain hB1 hBr
      by_cases hlt : i < A.length
      · have hi1 : (i : Int) < (A.length : Int) := by omega
        obtain ⟨b, off, rfl, hbl, c1'⟩ := hcA.out i hlt
        have c1 := (hBW.cell (p := ⟨b, off + i, none⟩) hbl).trans c1'
        have hwf := HWF.out (A.getD i 0) (by rw [List.getD_eq_getElem?_getD, List.getElem?_eq_getElem hlt]; exact List.getElem_mem hlt)
        have HN := Lib.hid (nears_snoc P hlt)
        generalize A.getD i 0 = y at c1 hwf HN
        have HPK := Lib.hid (pick_any y P hP.1 (by omega) hwf)
        have hc3 : i + 1 ≤ maxLen := by unfold maxLen; omega
        have hc4 : (i + 1) * 8 ≤ 140737488355328 := by omega
        generalize nears P (A.take i) = N at hown HN
        generalize hyq : y % P = yq at HPK HN
        clear c1'
        have hbw : b < wr.heap.size := Nat.lt_of_lt_of_le hbl hBW.size
        have hrs := hBr.size
        have hlw := hB1.size
        have Hnb : Hid (some b ≠ (Value.slice va i vc).ownBlock) := fun h => by have := own_base hown h.symm; omega
        have Hn0 : Hid (some w0.heap.size ≠ (Value.slice va i vc).ownBlock) := fun h => by have := own_base hown h.symm; omega
        have Hrow : Hid (∀ k, (Value.slice va i vc).ownBlock = some k → w1.heap.size ≤ k) := fun k hk => own_base hown hk
        go_wp2_with fail
        go_region_held3 (fun w' => w'.cell? ⟨b, off + i, none⟩ = some (.int .i64 y) ∧ w'.cell? ⟨w0.heap.size, 0, none⟩ = some (.int .i64 P))
          (first | go_keep | exact ⟨c1, p0⟩ | exact ⟨c4, p4⟩)
          (first | (go_at_call 14; refine (HPK.out _).mono ?_; rintro e w' ⟨rfl, rfl⟩) | (refine step_append_lies _ (by rfl) _ _ _ (by rfl) w1.heap.size 3 i0 _ 1 8 Try.underlying22 hi hz0 hz1 hz2 rfl (by omega) (.slice va i vc) i (ints N) (by rfl) ((hown.alloc _).drew) ⟨wr.heap.size, 0, none⟩ 1 1 [.int .i64 yq] (by rfl) (by rfl) (World.news_of_block (cs := #[.int .i64 yq]) (t := 3) (fr := (0, 0)) (heap_alloc_new wr _)) (by simp [Value.oneCell']) (by omega) (by omega) (by omega) (by simp; omega) (wr.heap.size + 1) (by simp) ?_; intro gg cap w4 hown4 hgrow4 hat4 hlt4; have c4 := World.grownBy.cell hgrow4 ((World.cell?_alloc_past _ _ _ hbw).trans c1) Hnb.out; have p4 := World.grownBy.cell hgrow4 ((World.cell?_alloc_past _ _ _ ltr).trans p0) Hn0.out))
        have hB4 := ((hBr.alloc hrs (.cells #[.int .i64 yq] 3)).drew).grown hgrow4 (by simp; omega) Hrow.out
        go_wp2
        go_roundw
        case rel => exact ⟨i + 1, by go_num, by omega, by rw [HN.out]; unfold ints; rw [List.map_append]; exact hown4, hB4⟩
        case measure => simp only [intOf]; omega
      · obtain rfl : i = A.length := by omega
        rw [List.take_length] at hown
        have hNlen : (nears P A).length = A.length := by simp [nears]
        have hNw : ∀ n ∈ nears P A, -9223372036854775808 ≤ n ∧ n ≤ 9223372036854775807 := by
          intro n hn
          obtain ⟨z, hz, rfl⟩ := List.mem_map.1 hn
          have := Int.emod_nonneg z (show P ≠ 0 by omega)
          have := Int.emod_lt_of_pos z (show 0 < P by omega)
          omega
        generalize nears P A = N at hown hNlen hNw
        rw [← hNlen] at hown
        obtain ⟨za, zc, hzz, hZ, -⟩ := isI_own hown hNw
        cases hzz
        have hZ' : IsI wr va A.length vc N := by rw [← hNlen]; exact hZ
        have HN1 := Lib.hid fun (w' : World) (hw' : Below wr.heap.size wr w') => need_any w' P B hP hB a c (HI.out.same (below_chain hBr hw')) x A.length cap2 A (HA0.out.same (below_chain hBW hw')) (by omega)
        have HN2 := Lib.hid fun (w' : World) (hw' : Below wr.heap.size wr w') => need_any w' P B hP hB a c (HI.out.same (below_chain hBr hw')) va A.length vc N (hZ'.same hw') (by omega)
        have HR1 := Lib.hid fun (w' : World) (hw' : Below wr.heap.size wr w') => by
          have h := refNeed_any w' P B hP hB a c (HI.out.same (below_chain hBr hw')) x A.length cap2 A (HA0.out.same (below_chain hBW hw')) (by omega)
          rw [need_eq] at h
          exact h
        have HR2 := Lib.hid fun (w' : World) (hw' : Below wr.heap.size wr w') => by
          have h := refNeed_any w' P B hP hB a c (HI.out.same (below_chain hBr hw')) va A.length vc N (hZ'.same hw') (by omega)
          rw [need_eq] at h
          exact h
        generalize (needL P A).length = nA at HN1 HR1
        generalize (needL P N).length = nN at HN2 HR2
        clear hown hZ hZ' hNw hNlen p0 p3
        go_wp2_with fail
        refine region_class (C := fun w' => Below wr.heap.size wr w') (by kernel_rfl) (by kernel_rfl) (Below.refl _ wr).drew ?_
        refine q_load _ _ rfl w0.heap.size 24 #[.int .i64 P, .int .i64 B, .int .i64 (cnt P), .slice a (levs (cnt P)).length c, .int .i64 (nod P), .int .i64 (hd P), .int .i64 (hds B), .int .i64 (hd P + hds B), .int .i64 (hd P + hds B + B), .int .i64 (hd P + hds B + B + B)] _ rfl rfl rfl (by kernel_rfl) rfl (fun w' hw' => kr.below hw' ltr) ?_
        quiet_step (first | (intro _; rfl))
        refine wpQuiet_step (fun K hK => ?_)
        go_simp
        apply Exists.intro
        refine ⟨fun w' hw' => ?_, hK _ ?_⟩
        · exact (HN1.out w' hw').mono fun e w'' h => ⟨h.1, below_chain hw' h.2⟩
        clear hK K
        refine q_load _ _ rfl w0.heap.size 24 #[.int .i64 P, .int .i64 B, .int .i64 (cnt P), .slice a (levs (cnt P)).length c, .int .i64 (nod P), .int .i64 (hd P), .int .i64 (hds B), .int .i64 (hd P + hds B), .int .i64 (hd P + hds B + B), .int .i64 (hd P + hds B + B + B)] _ rfl rfl rfl (by kernel_rfl) rfl (fun w' hw' => kr.below hw' ltr) ?_
        quiet_step (first | (intro _; rfl))
        refine wpQuiet_step (fun K hK => ?_)
        go_simp
        apply Exists.intro
        refine ⟨fun w' hw' => ?_, hK _ ?_⟩
        · exact (HR1.out w' hw').mono fun e w'' h => ⟨h.1, below_chain hw' h.2⟩
        clear hK K
        quiet_step (first | (intro _; rfl))
        quiet_step (first | (intro _; rfl))
        refine q_load _ _ rfl w0.heap.size 24 #[.int .i64 P, .int .i64 B, .int .i64 (cnt P), .slice a (levs (cnt P)).length c, .int .i64 (nod P), .int .i64 (hd P), .int .i64 (hds B), .int .i64 (hd P + hds B), .int .i64 (hd P + hds B + B), .int .i64 (hd P + hds B + B + B)] _ rfl rfl rfl (by kernel_rfl) rfl (fun w' hw' => kr.below hw' ltr) ?_
        quiet_step (first | (intro _; rfl))
        refine wpQuiet_step (fun K hK => ?_)
        go_simp
        apply Exists.intro
        refine ⟨fun w' hw' => ?_, hK _ ?_⟩
        · exact (HN2.out w' hw').mono fun e w'' h => ⟨h.1, below_chain hw' h.2⟩
        clear hK K
        refine q_load _ _ rfl w0.heap.size 24 #[.int .i64 P, .int .i64 B, .int .i64 (cnt P), .slice a (levs (cnt P)).length c, .int .i64 (nod P), .int .i64 (hd P), .int .i64 (hds B), .int .i64 (hd P + hds B), .int .i64 (hd P + hds B + B), .int .i64 (hd P + hds B + B + B)] _ rfl rfl rfl (by kernel_rfl) rfl (fun w' hw' => kr.below hw' ltr) ?_
        quiet_step (first | (intro _; rfl))
        refine wpQuiet_step (fun K hK => ?_)
        go_simp
        apply Exists.intro
        refine ⟨fun w' hw' => ?_, hK _ ?_⟩
        · exact (HR2.out w' hw').mono fun e w'' h => ⟨h.1, below_chain hw' h.2⟩
        clear hK K
        quiet_step (first | (intro _; rfl))
        quiet_step (first | (intro _; rfl))
        quiet_step (first | (intro _; rfl))
        refine wpQuiet_step (fun K hK => ?_)
        go_simp
        apply Exists.intro
        refine ⟨fun w' hw' => ?_, hK _ ?_⟩
        · exact (awake_any w').mono fun e w'' h => ⟨h.1, below_chain hw' h.2⟩
        clear hK K
        quiet_step (first | (intro _; rfl))
        quiet_step (first | (intro _; rfl))
        refine wpQuiet_nil ?_
        intro w5 hw5
        go_wp2
        go_ret
        exact ⟨rfl, below_chain hBW hw5⟩

/-! The row's step. -/
theorem own : ownKnob Try.prog.godebug = none := by kernel_rfl
theorem laidOut : laidOutB Try.prog = true := by kernel_rfl
set_option linter.unusedVariables false
set_option maxRecDepth 100000 in
theorem lifted (os : Os) (started : os.Started) (H : Type) (enc : TypeId × Value → H) :
    ReturnsInHanded {} Try.checked os 6 .any (Rows.planNeedsSpec.pre6 enc Try.prog Try.f6 Rows.planNeedsRow.domain false) (Rows.planNeedsSpec.post enc Try.prog Try.f6 false true false false) := by
  refine returnsInHanded_of_change_sized (C := Try.checked) own started (by kernel_rfl) Try.func6
    (ChangeSpec.witness6 (enc := enc) (C := Try.checked) false ⟨#[], #[.int .i64 0, .int .i64 0, .slice none 0 0], []⟩ 8 (by kernel_rfl) (by kernel_rfl) (by kernel_rfl) (by kernel_rfl)) ?_
  intro W base args ds gs before hval0 hW _ hsz0 _
  have hsz : (DataW.weightsEach Try.prog (Try.f6.params.toList ++ Rows.planNeedsSpec.plain.varTypes Try.prog) (ds ++ gs)).all (· ≤ reachBytes) = true := hsz0
  clear hsz0
  have hval : ∀ (j : Nat) t v, Try.f6.params[j]? = some t → args[j]? = some v → Value.okWide Try.prog W .any base t v := hval0
  have hW' := hW
  obtain ⟨p, q, hA0, hV, rfl, hfz, hnd⟩ := hW
  have hA : DataW.TrodAll enc Try.prog W 0 (fun _ => true) true Try.f6.params.toList args.toList ds p := hA0
  rw [Try.params6] at hA hval hsz
  obtain ⟨v0, vs0, d0, ds0, p0, q0, hargs, rfl, rfl, h0, r0⟩ := trodAll_cons hA
  obtain ⟨v1, vs1, d1, ds1, p1, q1, rfl, rfl, rfl, h1, r1⟩ := trodAll_cons r0
  obtain ⟨v2, vs2, d2, ds2, p2, q2, rfl, rfl, rfl, h2, r2⟩ := trodAll_cons r1
  obtain ⟨rfl, rfl, rfl⟩ := trodAll_nil r2
  obtain rfl : args = #[v0, v1, v2] := by cases args; simp_all
  obtain ⟨rfl, rfl⟩ := trodVars_none hV
  obtain ⟨a0, rfl, rfl, rfl, w0⟩ := open_int Try.underlying3 (hval 0 3 v0 rfl rfl) h0
  obtain ⟨a1, rfl, rfl, rfl, w1⟩ := open_int Try.underlying3 (hval 1 3 v1 rfl rfl) h1
  obtain ⟨a2, len2, cap2, rfl⟩ := okWide_slice Try.underlying22 (hval 2 22 v2 rfl rfl)
  have lt2 : ∀ x ∈ p2, x.block < W.heap.size := by obtain ⟨m, hm⟩ := h2; exact DataW.trod_lt m _ _ _ hm
  obtain ⟨⟨z2, w2⟩, hf2⟩ := open_i Try.underlying22 Try.underlying3 (by kernel_rfl) h2
  have rc2 := reach_slice hsz (j := 2) (e := 3) rfl rfl Try.underlying22 (k := 8) (by kernel_rfl) hf2
  clear hf2
  clear hA0 hval0
  refine (walk W a0 w0 a1 w1 a2 len2 cap2 z2 w2 rc2).mono fun e W' ⟨he, bel⟩ => ?_
  subst he
  exact ⟨_, rfl, _, _, _, [], _, [], hW', trodAll_mk1 (shut_bool Try.underlying4 _), (trodAll_cons_mk (shut_int Try.underlying3 w0) (trodAll_cons_mk (shut_int Try.underlying3 w1) (trodAll_cons_mk (Below.trod laidOut (by kernel_rfl) (of_decide_eq_true (by kernel_rfl)) h2 bel lt2) trodAll_mk0))), rfl, bel.frame _, fun h => by cases h⟩

theorem over : Rows.planNeedsRow.holds Try.pinned (OpenSpec.ofChange Rows.planNeedsSpec) :=
  OpenClaim.holds_of_wide 6 Try.f6 rfl rfl rfl rfl rfl rfl rfl ⟨rfl, rfl, rfl, rfl, rfl⟩ rfl rfl rfl rfl rfl (by kernel_rfl) Try.func6 (by kernel_rfl)
    (of_decide_eq_true (by kernel_rfl)) (by unfold Func.isWrapper; first | (rw [if_pos (by decide +kernel)]; kernel_rfl) | (rw [if_neg (by decide +kernel)]; exact ⟨rfl, rfl⟩))
    (fun os started H enc _ => lifted os started H enc)

/-- THE STATEMENT. -/
theorem proved : Rows.PlanNeedsSaid := over

#print axioms proved
end Go.Proofs.Ytnkoniagakhacaa.planNeeds
