/- HeatColdest: for every half, every list of acts and every list of keys the law returns true. -/
import Derived.Test.YtfkbdijgdhddaaaHn
namespace Go.Proofs.Ytfkbdijgdhddaaa.heatColdest
open Go.ChangeShapes Go.WideShapes Go.ChangeAt Go.RowKit
set_option maxRecDepth 100000
theorem own_cells1 {w : World} {base : Nat} {e : TypeId} {v : Value} {n : Nat} {xs : List Value} (h : w.ownsRow base e 1 v n xs) (hn : 0 < n) :
    ∃ g cap, v = .slice (some ⟨g, 0, none⟩) n cap ∧ base ≤ g ∧ n ≤ cap ∧ cap ≤ maxLen ∧ g < w.heap.size ∧ ∀ i u, xs[i]? = some u → w.cell? ⟨g, 0 + i, none⟩ = some u := by
  obtain ⟨hl, ⟨-, h0⟩ | ⟨g, cap, cur, rfl, hg, hh, hnc, hcm, hcs, ht⟩⟩ := h
  · omega
  · refine ⟨g, cap, rfl, hg, hnc, hcm, (Array.getElem?_eq_some_iff.1 hh).1, fun i u hi => ?_⟩
    have hlt := (List.getElem?_eq_some_iff.1 hi).1
    rw [← ht, List.getElem?_take_of_lt (by omega)] at hi
    simp only [World.cell?, hh, Nat.zero_add]
    simpa using hi
theorem infoInt : (Try.prog.info? 3).map (fun i => (i.zero, i.size, i.bytes)) = some (some (.int .i64 0), 1, 8) := by kernel_rfl
theorem walk_big (W : World) (hf : Int) (a c : Option Addr) (len cap len2 cap2 : Nat) (h : 300 < (len2 : Int)) :
    Calls Try.prog 4 #[.int .i64 hf, .slice a len cap, .slice c len2 cap2] W fun e w' => e = .returned (.bool true) ∧ Below W.heap.size W w' := by
  go_enter Try.func4, Try.ntmps4
  go_wp2_with (go_at_call 13; refine (awake_any _).mono ?_; rintro e w' ⟨rfl, hBz⟩)
  go_ret
  exact ⟨rfl, hBz⟩
theorem run_append_nilsrc {P : Program} (w : World) (t ty e : TypeId) (i : TypeInfo) (ht : P.underlying t = some (.slice e)) (hi : P.info? e = some i) (g c : Nat) :
    (Builtin.append_ #[t, t] ty #[.slice (some ⟨g, 0, none⟩) 0 0, .slice none 0 c]).run P w = .ok (.slice (some ⟨g, 0, none⟩) 0 0) w := by
  simp [Builtin.append_, run_underlying ht, sizeOf, typeInfo, hi, Builtin.lenOf, Builtin.firstCells, storeCells]
theorem wpList_append_nilsrc {P : Program} {w : World} {ops : Array Oper} {rest : List Oper} {o : Oper} {a : Go.Act} {Q : Exit → Go.Act → World → Prop} (hgd : o.guard = none) (s x : Operand) (t : TypeId)
    (ho : o.op = .call { callee := .builtin .append, args := #[s, x], argTypes := #[t, t] }) (e : TypeId) (i : TypeInfo) (ht : P.underlying t = some (.slice e)) (hi : P.info? e = some i)
    (g c : Nat) (hs : a.eval s = .slice (some ⟨g, 0, none⟩) 0 0) (hx : a.eval x = .slice none 0 c)
    (h : wpList P ops Q rest (a.put o.dst (.slice (some ⟨g, 0, none⟩) 0 0)) w) : wpList P ops Q (o :: rest) a w := by
  refine wpList_plain hgd fun K hK => ?_
  have hrun := run_append_nilsrc (P := P) w t o.type e i ht hi g c
  unfold Oper.wp
  simp [execOp, ho, resolve, invoke, builtin, hs, hx, hrun, Result.andThen]
  exact hK _ _ h
set_option maxHeartbeats 1000000 in
theorem walk_none (W : World) (hf : Int) (bh : -9223372036854775808 ≤ hf ∧ hf ≤ 9223372036854775807) (a : Option Addr) (len cap : Nat) (zs : List (Int × Int × Nat)) (hI : IsA W a len cap zs) (c : Option Addr) (cap2 : Nat) :
    Calls Try.prog 4 #[.int .i64 hf, .slice a len cap, .slice c 0 cap2] W fun e w' => e = .returned (.bool true) ∧ Below W.heap.size W w' := by
  have HL := Lib.hid (laid_any W hf bh a len cap zs hI)
  clear bh hI
  obtain ⟨i0, hi, hz0, hz1, hz2⟩ := info_parts infoInt
  cases c with
  | none =>
    go_enter Try.func4, Try.ntmps4
    go_wp2_with fail
    refine HL.out.mono ?_
    rintro e w1 ⟨p, q, r, half, now, rfl, hb, _, hB⟩
    clear HL hb
    have hBa := (Below.refl w1.heap.size w1).alloc (Nat.le_refl _) (.cells #[] 3)
    go_wp2_with (first | (go_at_call 11; refine (coldest_none _ _ _ _).mono ?_; rintro e w' ⟨rfl, rfl⟩) | (go_at_call 15; refine (refColdest_none _ _ _ _).mono ?_; rintro e w' ⟨rfl, rfl⟩) | (at_builtin; go_must (refine wpList_append_nilsrc rfl _ _ 22 rfl 3 i0 Try.underlying22 hi w1.heap.size cap2 rfl rfl ?_)))
    refine wp_loop_rounds 1 ?_
    rw [rounds_succ]
    go_wp2_with (go_at_call 13; refine (awake_any _).mono ?_; rintro e w' ⟨rfl, hBz⟩)
    go_ret
    exact ⟨rfl, below_chain hB (below_chain hBa hBz)⟩
  | some ad =>
    go_enter Try.func4, Try.ntmps4
    go_wp2_with fail
    refine HL.out.mono ?_
    rintro e w1 ⟨p, q, r, half, now, rfl, hb, _, hB⟩
    clear HL hb
    have hBa := (Below.refl w1.heap.size w1).alloc (Nat.le_refl _) (.cells #[] 3)
    have Hown : Hid ((w1.alloc (.cells #[] 3)).ownsRow w1.heap.size 3 1 (.slice (some ⟨w1.heap.size, 0, none⟩) 0 0) 0 []) := ⟨rfl, Or.inr ⟨w1.heap.size, 0, #[], rfl, Nat.le_refl _, heap_alloc_new w1 _, Nat.le_refl _, by unfold maxLen; omega, rfl, rfl⟩⟩
    have Hnews : Hid (∀ (j : Nat) (u : Value), ([] : List Value)[j]? = some u → (w1.alloc (.cells #[] 3)).cell? (ad.add j) = some u) := by intro j u hj; simp at hj
    have Hone : Hid (∀ u ∈ ([] : List Value), u.oneCell' = true) := by intro u hu; simp at hu
    have Hlen : Hid (([] : List Value).length = 0 * 1) := rfl
    have hc3 : 0 + 0 ≤ maxLen := by unfold maxLen; omega
    have hc4 : (0 + 0) * 8 ≤ 140737488355328 := by omega
    have Hc5 : Hid (w1.heap.size ≤ (w1.alloc (.cells #[] 3)).heap.size) := by show _ ≤ _; simp
    go_wp2_with (at_builtin; go_must (refine wpList_append_own _ rfl _ _ 22 rfl w1.heap.size 3 i0 (.int .i64 0) 1 8 Try.underlying22 hi hz0 hz1 hz2 rfl (by decide) (.slice (some ⟨w1.heap.size, 0, none⟩) 0 0) 0 [] rfl Hown.out ad 0 cap2 [] rfl Hlen.out Hnews.out Hone.out hc3 hc4 Hc5.out ?_); intro v' w2 hown2 hgrow2 hnil2)
    have hB2 : Below w1.heap.size w1 w2 := hBa.grown hgrow2 (by simp) (by intro k hk; have e : w1.heap.size = k := (by injection hk); omega)
    obtain ⟨x1, x2, rfl⟩ : ∃ x1 x2, v' = .slice x1 0 x2 := by
      rcases hown2.2 with ⟨e, -⟩ | ⟨g, cap, cur, e, -⟩
      · exact ⟨_, _, e⟩
      · exact ⟨_, _, e⟩
    clear hown2 hgrow2 hnil2 Hown Hnews Hone Hlen Hc5
    refine (coldest_none _ _ _ _).mono ?_
    rintro e w3 ⟨rfl, rfl⟩
    go_wp2_with (go_at_call 15; refine (refColdest_none _ _ _ _).mono ?_; rintro e w' ⟨rfl, rfl⟩)
    refine wp_loop_rounds 1 ?_
    rw [rounds_succ]
    go_wp2_with (go_at_call 13; refine (awake_any _).mono ?_; rintro e w' ⟨rfl, hBz⟩)
    go_ret
    exact ⟨rfl, below_chain hB (below_chain hB2 hBz)⟩
set_option maxHeartbeats 1000000 in
theorem walk_some (W : World) (hf : Int) (bh : -9223372036854775808 ≤ hf ∧ hf ≤ 9223372036854775807) (a : Option Addr) (len cap : Nat) (zs : List (Int × Int × Nat)) (hI : IsA W a len cap zs) (b off cap2 : Nat) (ks : List Int) (hne : 0 < ks.length) (hb : b < W.heap.size) (hcap : ks.length ≤ cap2) (hmax : cap2 ≤ maxLen) (hc : ∀ i, i < ks.length → W.cell? ⟨b, off + i, none⟩ = some (.int .i64 (ks.getD i 0))) (hs : (ks.length : Int) ≤ 300) :
    Calls Try.prog 4 #[.int .i64 hf, .slice a len cap, .slice (some ⟨b, off, none⟩) ks.length cap2] W fun e w' => e = .returned (.bool true) ∧ Below W.heap.size W w' := by
  have HL := Lib.hid (laid_any W hf bh a len cap zs hI)
  clear bh hI
  have HC := Lib.hid hc; clear hc
  have Hmax := Lib.hid hmax
  unfold maxLen at hmax
  obtain ⟨i0, hi, hz0, hz1, hz2⟩ := info_parts infoInt
  go_enter Try.func4, Try.ntmps4
  go_wp2_with fail
  refine HL.out.mono ?_
  rintro e w1 ⟨p, q, r, half, now, rfl, hbo, _, hB⟩
  clear HL
  obtain ⟨f, hf1, hf2⟩ := both_of hbo
  clear hbo
  have F1 := Lib.hid hf1; clear hf1
  have F2 := Lib.hid hf2; clear hf2
  have hb1 : b < w1.heap.size := Nat.lt_of_lt_of_le hb hB.size
  have HC1 : Hid (∀ i, i < ks.length → w1.cell? ⟨b, off + i, none⟩ = some (.int .i64 (ks.getD i 0))) := fun i hi => (hB.cell (p := ⟨b, off + i, none⟩) hb).trans (HC.out i hi)
  have Hown : Hid ((w1.alloc (.cells #[] 3)).ownsRow w1.heap.size 3 1 (.slice (some ⟨w1.heap.size, 0, none⟩) 0 0) 0 []) := ⟨rfl, Or.inr ⟨w1.heap.size, 0, #[], rfl, Nat.le_refl _, heap_alloc_new w1 _, Nat.le_refl _, by unfold maxLen; omega, rfl, rfl⟩⟩
  have hBa := (Below.refl w1.heap.size w1).alloc (Nat.le_refl _) (.cells #[] 3)
  have Hnews : Hid (∀ (j : Nat) u, (ks.map (Value.int .i64))[j]? = some u → (w1.alloc (.cells #[] 3)).cell? ((Addr.mk b off none).add j) = some u) := by
    intro j u hj
    have hlt : j < ks.length := by have := (List.getElem?_eq_some_iff.1 hj).1; simpa using this
    rw [add_none, World.cell?_alloc_past _ _ _ hb1, HC1.out j hlt]
    rw [← hj]; simp [List.getD, hlt]
  have Hone : Hid (∀ u ∈ ks.map (Value.int .i64), u.oneCell' = true) := by
    intro u hu
    obtain ⟨x, _, rfl⟩ := List.mem_map.1 hu
    rfl
  have Hlen : Hid ((ks.map (Value.int .i64)).length = ks.length * 1) := by simp [Hid]
  have hc3 : 0 + ks.length ≤ maxLen := by unfold maxLen; omega
  have hc4 : (0 + ks.length) * 8 ≤ 140737488355328 := by omega
  have Hc5 : Hid (w1.heap.size ≤ (w1.alloc (.cells #[] 3)).heap.size) := by show _ ≤ _; simp
  go_wp2_with (at_builtin; go_must (refine wpList_append_own _ rfl _ _ 22 rfl w1.heap.size 3 i0 (.int .i64 0) 1 8 Try.underlying22 hi hz0 hz1 hz2 rfl (by decide) (.slice (some ⟨w1.heap.size, 0, none⟩) 0 0) 0 [] rfl Hown.out ⟨b, off, none⟩ ks.length cap2 (ks.map (Value.int .i64)) rfl Hlen.out Hnews.out Hone.out hc3 hc4 Hc5.out ?_); intro v' w2 hown2 hgrow2 hnil2)
  rw [Nat.zero_add] at hown2
  obtain ⟨g, cap3, rfl, hg1, hg2, hg3, hg4, hg5⟩ := own_cells1 hown2 hne
  have hB2 : Below w1.heap.size w1 w2 := hBa.grown hgrow2 (by simp) (by intro k hk; have e : w1.heap.size = k := (by injection hk); omega)
  clear hgrow2 hnil2 hown2 Hown Hnews Hone Hlen Hc5
  have HG : Hid (∀ i, i < ks.length → w2.cell? ⟨g, 0 + i, none⟩ = some (.int .i64 (ks.getD i 0))) := fun i hi => hg5 i _ (by simp [List.getD, hi])
  clear hg5
  have HE := Lib.hid (cold_ref f ks (by intro e; rw [e] at hne; simp at hne))
  refine (coldest_gen f (fun k => (F1.out k).2) _ w2 g 0 cap3 ks hne hg4 hg2 hg3 HG.out (fun k w3 hB3 => (F2.out w3 (below_chain hB2 hB3) k).1)).mono ?_
  rintro e w3 ⟨rfl, hB3⟩
  rw [HE.out]
  have hB13 := below_chain hB2 hB3
  go_wp2_with fail
  refine (refColdest_gen f (fun k => (F1.out k).2) _ w3 b off cap2 ks hne (Nat.lt_of_lt_of_le hb1 hB13.size) hcap Hmax.out (fun i hi => (hB13.cell (p := ⟨b, off + i, none⟩) hb1).trans (HC1.out i hi)) (fun k w4 hB4 => (F2.out w4 (below_chain hB13 hB4) k).2)).mono ?_
  rintro e w4 ⟨rfl, hB4⟩
  generalize coldR f ks = kk
  have hB14 := below_chain hB13 hB4
  have hB24 := below_chain hB3 hB4
  go_wp2_with fail
  go_loopw [14] (fun iv wr => ∃ i : Nat, iv = .int .i64 i ∧ i ≤ ks.length ∧ Below w1.heap.size w1 wr ∧ Below w2.heap.size w2 wr) (fun iv _ => ks.length - (intOf iv).toNat)
  case atStart => exact ⟨0, rfl, by omega, hB14, hB24⟩
  case round =>
    obtain ⟨i, rfl, i1, hBr, hBr2⟩ := hrel
    by_cases hlt : i < ks.length
    · have hcx := (hBr.cell (p := ⟨b, off + i, none⟩) hb1).trans (HC1.out i hlt)
      have hcg := (hBr2.cell (p := ⟨g, 0 + i, none⟩) hg4).trans (HG.out i hlt)
      rw [Nat.zero_add] at hcg
      generalize ks.getD i 0 = x at hcx hcg
      have hi0 : (0 : Int) ≤ (i : Int) := Int.natCast_nonneg _
      have hi1 : (i : Int) < (ks.length : Int) := by omega
      go_wp2_with fail
      go_quiet (fail)
      have hBn : Below w1.heap.size w1 (wr.drewN nq) := below_drewN hBr nq
      have hBn2 : Below w2.heap.size w2 (wr.drewN nq) := below_drewN hBr2 nq
      go_wp2
      go_roundw
      case rel => exact ⟨i + 1, by go_num, by omega, hBn, hBn2⟩
      case measure => simp only [intOf] <;> omega
    · go_wp2_with (go_at_call 13; refine (awake_any _).mono ?_; rintro e w' ⟨rfl, hBz⟩)
      go_ret
      exact ⟨rfl, below_chain hB (below_chain hBr hBz)⟩
theorem walk (W : World) (hf : Int) (wh : (Lit.int .i64 hf).wf = true) (a : Option Addr) (len cap : Nat) (zs : List (Int × Int × Nat)) (hI : IsA W a len cap zs) (_r : len * 24 ≤ 140737488351232) (c : Option Addr) (len2 cap2 : Nat) (ks : List Int) (hK : IsI W c len2 cap2 ks) (_r2 : len2 * 8 ≤ 140737488351232) :
    Calls Try.prog 4 #[.int .i64 hf, .slice a len cap, .slice c len2 cap2] W fun e w' => e = .returned (.bool true) ∧ Below W.heap.size W w' := by
  by_cases h3 : 300 < (len2 : Int)
  · exact walk_big W hf a c len cap len2 cap2 h3
  · obtain ⟨h1, h2, hm, h4, h5⟩ := hK
    subst h1
    by_cases h0 : ks = []
    · subst h0; exact walk_none W hf (bounds_i64 wh) a len cap zs hI c cap2
    · rcases h5 with e | ⟨b, off, rfl, hb, hc⟩
      · exact absurd e h0
      · exact walk_some W hf (bounds_i64 wh) a len cap zs hI b off cap2 ks (List.length_pos_iff.2 h0) hb h2 hm hc (by omega)

/-! The row's step. -/
theorem own : ownKnob Try.prog.godebug = none := by kernel_rfl
theorem laidOut : laidOutB Try.prog = true := by kernel_rfl
set_option linter.unusedVariables false
set_option maxRecDepth 100000 in
theorem lifted (os : Os) (started : os.Started) (H : Type) (enc : TypeId × Value → H) :
    ReturnsInHanded {} Try.checked os 4 .any (Rows.heatColdestSpec.pre6 enc Try.prog Try.f4 Rows.heatColdestRow.domain false) (Rows.heatColdestSpec.post enc Try.prog Try.f4 false true false false) := by
  refine returnsInHanded_of_change_sized (C := Try.checked) own started (by kernel_rfl) Try.func4
    (ChangeSpec.witness6 (enc := enc) (C := Try.checked) false ⟨#[], #[.int .i64 0, .slice none 0 0, .slice none 0 0], []⟩ 8 (by kernel_rfl) (by kernel_rfl) (by kernel_rfl) (by kernel_rfl)) ?_
  intro W base args ds gs before hval0 hW _ hsz0 _
  have hsz : (DataW.weightsEach Try.prog (Try.f4.params.toList ++ Rows.heatColdestSpec.plain.varTypes Try.prog) (ds ++ gs)).all (· ≤ reachBytes) = true := hsz0
  clear hsz0
  have hval : ∀ (j : Nat) t v, Try.f4.params[j]? = some t → args[j]? = some v → Value.okWide Try.prog W .any base t v := hval0
  have hW' := hW
  obtain ⟨p, q, hA0, hV, rfl, hfz, hnd⟩ := hW
  have hA : DataW.TrodAll enc Try.prog W 0 (fun _ => true) true Try.f4.params.toList args.toList ds p := hA0
  rw [Try.params4] at hA hval hsz
  obtain ⟨v0, vs0, d0, ds0, p0, q0, hargs, rfl, rfl, h0, r0⟩ := trodAll_cons hA
  obtain ⟨v1, vs1, d1, ds1, p1, q1, rfl, rfl, rfl, h1, r1⟩ := trodAll_cons r0
  obtain ⟨v2, vs2, d2, ds2, p2, q2, rfl, rfl, rfl, h2, r2⟩ := trodAll_cons r1
  obtain ⟨rfl, rfl, rfl⟩ := trodAll_nil r2
  obtain rfl : args = #[v0, v1, v2] := by cases args; simp_all
  obtain ⟨rfl, rfl⟩ := trodVars_none hV
  obtain ⟨a0, rfl, rfl, rfl, w0⟩ := open_int Try.underlying3 (hval 0 3 v0 rfl rfl) h0
  obtain ⟨a1, len1, cap1, rfl⟩ := okWide_slice Try.underlying32 (hval 1 32 v1 rfl rfl)
  have lt1 : ∀ x ∈ p1, x.block < W.heap.size := by obtain ⟨m, hm⟩ := h1; exact DataW.trod_lt m _ _ _ hm
  obtain ⟨⟨z1, w1⟩, hf1⟩ := open_a Try.underlying32 Try.underlying39 rfl rfl rfl rfl rfl rfl Try.underlying3 Try.underlying3 Try.underlying23 (by kernel_rfl) (by kernel_rfl) (by kernel_rfl) (by kernel_rfl) h1
  have rc1 := reach_slice hsz (j := 1) (e := 39) rfl rfl Try.underlying32 (k := 24) (by kernel_rfl) hf1
  clear hf1
  obtain ⟨a2, len2, cap2, rfl⟩ := okWide_slice Try.underlying22 (hval 2 22 v2 rfl rfl)
  have lt2 : ∀ x ∈ p2, x.block < W.heap.size := by obtain ⟨m, hm⟩ := h2; exact DataW.trod_lt m _ _ _ hm
  obtain ⟨⟨z2, w2⟩, hf2⟩ := open_i Try.underlying22 Try.underlying3 (by kernel_rfl) h2
  have rc2 := reach_slice hsz (j := 2) (e := 3) rfl rfl Try.underlying22 (k := 8) (by kernel_rfl) hf2
  clear hf2
  clear hA0 hval0
  refine (walk W a0 w0 a1 len1 cap1 z1 w1 rc1 a2 len2 cap2 z2 w2 rc2).mono fun e W' ⟨he, bel⟩ => ?_
  subst he
  exact ⟨_, rfl, _, _, _, [], _, [], hW', trodAll_mk1 (shut_bool Try.underlying4 _), (trodAll_cons_mk (shut_int Try.underlying3 w0) (trodAll_cons_mk (Below.trod laidOut (by kernel_rfl) (of_decide_eq_true (by kernel_rfl)) h1 bel lt1) (trodAll_cons_mk (Below.trod laidOut (by kernel_rfl) (of_decide_eq_true (by kernel_rfl)) h2 bel lt2) trodAll_mk0))), rfl, bel.frame _, fun h => by cases h⟩

theorem over : Rows.heatColdestRow.holds Try.pinned (OpenSpec.ofChange Rows.heatColdestSpec) :=
  OpenClaim.holds_of_wide 4 Try.f4 rfl rfl rfl rfl rfl rfl rfl ⟨rfl, rfl, rfl, rfl, rfl⟩ rfl rfl rfl rfl rfl (by kernel_rfl) Try.func4 (by kernel_rfl)
    (of_decide_eq_true (by kernel_rfl)) (by unfold Func.isWrapper; first | (rw [if_pos (by decide +kernel)]; kernel_rfl) | (rw [if_neg (by decide +kernel)]; exact ⟨rfl, rfl⟩))
    (fun os started H enc _ => lifted os started H enc)

/-- THE STATEMENT. -/
theorem proved : Rows.HeatColdestSaid := over

#print axioms proved
end Go.Proofs.Ytfkbdijgdhddaaa.heatColdest
