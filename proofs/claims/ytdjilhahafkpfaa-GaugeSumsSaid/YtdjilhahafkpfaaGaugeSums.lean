/- GaugeSums: for every list of numbers the law returns true. -/
import Derived.Test.YtdjilhahafkpfaaLy
import Derived.Test.YtdjilhahafkpfaaOc
import Derived.ProofKit
import Derived.OpenShut
import Derived.SizedLaws
namespace Go.Proofs.Ytdjilhahafkpfaa.gaugeSums
open Go.ChangeShapes Go.WideShapes Go.ChangeAt Go.RowKit
set_option maxRecDepth 100000
theorem sumOf_lt (G : Gs) : sumOf G < 18446744073709551616 := by
  unfold sumOf
  split
  · omega
  · split
    · omega
    · split
      · omega
      · split
        · have := FP.rd_le_inf G.V.toNat 0; omega
        · unfold negB; exact FP.word_num _ _ (FP.rung_lt _)
theorem total_of (zs : List Nat) : (gsOf zs).c + (gsOf zs).o + (gsOf zs).h + (gsOf zs).l = zs.length := by
  have h : ∀ (zs : List Nat) (G : Gs), (zs.foldl addG G).c + (zs.foldl addG G).o + (zs.foldl addG G).h + (zs.foldl addG G).l = G.c + G.o + G.h + G.l + zs.length := by
    intro zs
    induction zs with
    | nil => intro G; rfl
    | cons x zs ih =>
      intro G
      rw [List.foldl_cons, ih, List.length_cons]
      rcases kinds x with k | k | k | k
      · rw [addG_nan k]; show G.c + (G.o + 1) + G.h + G.l + _ = _; omega
      · rw [addG_lo k]; show G.c + G.o + G.h + (G.l + 1) + _ = _; omega
      · rw [addG_hi k]; show G.c + G.o + (G.h + 1) + G.l + _ = _; omega
      · rw [addG_fin k]; show G.c + 1 + G.o + G.h + G.l + _ = _; omega
  have := h zs gs0
  simpa [gs0, gsOf] using this
theorem walk_long (W : World) (a : Option Addr) (len cap : Nat) (hl : 40 < len) (hc : len ≤ 9223372036854775807) :
    Calls Try.prog 6 #[.slice a len cap] W fun e w' => e = .returned (.bool true) ∧ Below W.heap.size W w' := by
  have hl' : (40 : Int) < (len : Int) := by omega
  have HA := Lib.hid (awake_ok W)
  go_enter Try.func6, Try.ntmps6
  go_wp2_with (go_at_call 10; refine HA.out.mono ?_; rintro e w' ⟨rfl, hB⟩)
  go_ret
  exact ⟨rfl, hB⟩
theorem gmean_zero (w : World) (p : Nat) (hG : GA w p gs0) :
    Calls Try.prog 19 #[.pointer (some ⟨p, 0, none⟩)] w fun e w' => e = .returned (.float .f64 9221120237041090561) ∧ ∃ n, w' = w.drewN n := by
  have HC : Hid (Calls Try.prog 21 #[.pointer (some ⟨p, 0, none⟩)] w fun e w' => e = .returned (.tuple #[.int .i64 0, .int .i64 0, .int .i64 0, .int .i64 0]) ∧ ∃ n, w' = w.drewN n) := count_any w p gs0 hG
  clear hG
  go_enter Try.func19, Try.ntmps19
  go_wp2_with (first | (go_at_call 21; refine HC.out.mono ?_; rintro e w2 ⟨rfl, nd, rfl⟩) | (go_at_call 25; refine (nan_any _).mono ?_; rintro e w' ⟨rfl, rfl⟩))
  go_ret
  exact ⟨rfl, nd, rfl⟩
theorem isF_take {W w : World} {b off : Nat} {cap : Nat} {zs : List Nat} (h : IsF W (some ⟨b, off, none⟩) zs.length cap zs) (hB : Below W.heap.size W w) {i : Nat} (hi : i < zs.length) : IsF w (some ⟨b, off, none⟩) (i + 1) cap (zs.take (i + 1)) := by
  refine ⟨by rw [List.length_take]; omega, by have := h.hcap; omega, h.hmax, fun x hx => h.wf x (List.mem_of_mem_take hx), Or.inr ?_⟩
  rcases h.at_ with e | ⟨b', off', e, hb, hc⟩
  · rw [e] at hi; simp at hi
  · cases e
    refine ⟨b, off, rfl, Nat.lt_of_lt_of_le hb hB.size, fun j hj => ?_⟩
    rw [List.length_take] at hj
    rw [(hB.cell (p := ⟨b, off + j, none⟩) hb).trans (hc j (by omega))]
    congr 2
    simp only [List.getD_eq_getElem?_getD]
    rw [List.getElem?_take, if_pos (by omega)]
set_option maxHeartbeats 8000000 in
theorem walk_short (W : World) (a : Option Addr) (len cap : Nat) (zs : List Nat) (hI : IsF W a len cap zs) (hl : len ≤ 40) :
    Calls Try.prog 6 #[.slice a len cap] W fun e w' => e = .returned (.bool true) ∧ Below W.heap.size W w' := by
  obtain rfl := hI.hlen
  have hcap := hI.hcap
  have hmax := hI.hmax
  have HI := Lib.hid hI
  have HW := Lib.hid hI.wf
  clear hI
  unfold maxLen at hmax
  have hl' : ¬ (40 : Int) < (zs.length : Int) := by omega
  have HSm : Hid (∀ x y, x < 18446744073709551616 → y < 18446744073709551616 → FP.sameB x y = true → ∀ w, Calls Try.prog 14 #[.float .f64 x, .float .f64 y] w fun e w'' => e = .returned (.bool true) ∧ w = w'') := fun x y hx hy h w => by
    have := same_any x y w hx hy
    rwa [h] at this
  go_enter Try.func6, Try.ntmps6
  go_wp2_with (go_at_call 11; refine (gnew _).mono ?_; rintro e w1 ⟨rfl, hg, hb⟩)
  have HG := Lib.hid hg
  have HB := Lib.hid hb
  obtain ⟨p, hp⟩ : ∃ p, p = W.heap.size := ⟨_, rfl⟩
  rw [← hp] at HG ⊢
  have HPp := Lib.hid hp
  clear hg hb hp
  go_loopw [4] (fun iv wr => ∃ i : Nat, iv = .int .i64 i ∧ i ≤ zs.length ∧ Hid (GA wr p (gsOf (zs.take i))) ∧ Hid (Below W.heap.size W wr)) (fun iv _ => zs.length - (intOf iv).toNat)
  case atStart => exact ⟨0, rfl, by omega, HG, HB⟩
  case round =>
    obtain ⟨i, rfl, i1, hG, hB⟩ := hrel
    clear HG HB
    have hi0 : (0 : Int) ≤ (i : Int) := Int.natCast_nonneg _
    by_cases hlt : i < zs.length
    · have hlt' : (i : Int) < (zs.length : Int) := by omega
      obtain ⟨b, off, rfl, hc⟩ := HI.out.one hB.out hlt
      have hH : Held i (gsOf (zs.take i)) := by
        have := heldOf (zs := zs.take i) fun x hx => HW.out x (List.mem_of_mem_take hx)
        rwa [List.length_take, Nat.min_eq_left i1] at this
      have hx : zs.getD i 0 < 18446744073709551616 := FP.getD_lt HW.out i
      have HA := Lib.hid (gadd_any wr p _ i hG.out hH (by omega) (zs.getD i 0) hx)
      have hH1 := hH.add hx
      rw [← gsOf_snoc, ← take_snocN hlt] at HA hH1
      have htot := total_of (zs.take (i + 1))
      rw [List.length_take, Nat.min_eq_left (by omega)] at htot
      have HRS := Lib.hid fun w (h : Below W.heap.size W w) => rsum_any w (some ⟨b, off, none⟩) (i + 1) cap (zs.take (i + 1)) (isF_take HI.out h hlt) (by omega)
      have HSum := Lib.hid fun w2 w (h2 : GA w2 p (gsOf (zs.take (i + 1)))) (h : Below w2.heap.size w2 w) => gsum_any w p _ (GB.below h2 h) (hH1.lim (by omega))
      have HMean := Lib.hid fun w2 w (h2 : GA w2 p (gsOf (zs.take (i + 1)))) (h : Below w2.heap.size w2 w) => gmean_any w p _ _ (GB.below h2 h) hH1 (by omega) (by omega)
      rw [show (((gsOf (zs.take (i + 1))).c : Int) + (gsOf (zs.take (i + 1))).o + (gsOf (zs.take (i + 1))).h + (gsOf (zs.take (i + 1))).l) = (i : Int) + 1 by omega] at HMean
      have K1 := Lib.hid (HSm.out _ _ (sumOf_lt (gsOf (zs.take (i + 1)))) (sumOf_lt _) (FP.sameB_refl _))
      have HMs := Lib.hid fun q (h : floatBits .quo .f64 (sumOf (gsOf (zs.take (i + 1)))) (floatOfInt .f64 ((i : Int) + 1)) = some q) => meanIs_some h
      have HMn := Lib.hid fun (h : floatBits .quo .f64 (sumOf (gsOf (zs.take (i + 1)))) (floatOfInt .f64 ((i : Int) + 1)) = none) => meanIs_none h
      have HGS : Hid (∃ G, G = gsOf (zs.take (i + 1))) := ⟨_, rfl⟩
      generalize zs.getD i 0 = x at hc HA
      generalize sumOf (gsOf (zs.take (i + 1))) = S at HRS HSum HMean K1 HMs HMn
      clear hH hx hG hH1 htot HGS
      cases hq : floatBits .quo .f64 S (floatOfInt .f64 ((i : Int) + 1)) with
      | some q =>
        have hqq := fun t w => run_fquo hq t w
        have HM := Lib.hid (HMs.out q hq)
        clear hq HMs HMn
        go_wp2_with (first
          | (go_at_call 13; refine HA.out.mono ?_; rintro e w2 ⟨rfl, h2, f2⟩; replace h2 := Lib.hid h2; have hW2 := Lib.hid (hB.out.trans (f2.below hB.out.size fun q hq => by rw [hq, HPp.out]; exact Nat.le_refl _)); clear f2)
          | (go_at_call 18; refine (HRS.out _ hW2.out).mono ?_; rintro e w3 ⟨rfl, b3⟩; replace b3 := Lib.hid b3)
          | (go_at_call 15; refine (HSum.out _ _ h2.out b3.out).mono ?_; rintro e w4 ⟨rfl, b4⟩; replace b4 := Lib.hid (below_chain b3.out b4))
          | (go_at_call 19; refine (HMean.out _ _ h2.out b4.out).mono ?_; rintro e w5 ⟨r, rfl, hm, b5⟩; replace b5 := Lib.hid (below_chain b4.out b5); have K2 := Lib.hid (HSm.out _ _ hm.1 HM.out.1 (hm.same HM.out)); clear hm)
          | (go_at_call 14; first | ((with_reducible refine (K1.out _).mono ?_); rintro e w' ⟨rfl, rfl⟩) | ((with_reducible refine (K2.out _).mono ?_); rintro e w' ⟨rfl, rfl⟩)))
        go_roundw
        case rel => exact ⟨i + 1, by go_num, by omega, GB.below h2.out b5.out, below_chain hW2.out b5.out⟩
        case measure => simp only [intOf]; omega
      | none =>
        have hqq := fun t w => run_quo_none hq t w
        have HM := Lib.hid (HMn.out hq)
        clear hq HMs HMn
        go_wp2_with (first
          | (go_at_call 13; refine HA.out.mono ?_; rintro e w2 ⟨rfl, h2, f2⟩; replace h2 := Lib.hid h2; have hW2 := Lib.hid (hB.out.trans (f2.below hB.out.size fun q hq => by rw [hq, HPp.out]; exact Nat.le_refl _)); clear f2)
          | (go_at_call 18; refine (HRS.out _ hW2.out).mono ?_; rintro e w3 ⟨rfl, b3⟩; replace b3 := Lib.hid b3)
          | (go_at_call 15; refine (HSum.out _ _ h2.out b3.out).mono ?_; rintro e w4 ⟨rfl, b4⟩; replace b4 := Lib.hid (below_chain b3.out b4))
          | (go_at_call 19; refine (HMean.out _ _ h2.out b4.out).mono ?_; rintro e w5 ⟨r, rfl, hm, b5⟩; replace b5 := Lib.hid (below_chain b4.out b5); have K2 := Lib.hid (HSm.out _ _ hm.1 (HM.out _ _).1 (hm.same (HM.out (floatOfInt .f64 ((i : Int) + 1)) w5))); clear hm)
          | (go_at_call 14; first | ((with_reducible refine (K1.out _).mono ?_); rintro e w' ⟨rfl, rfl⟩) | ((with_reducible refine (K2.out _).mono ?_); rintro e w' ⟨rfl, rfl⟩)))
        go_roundw
        case rel =>
          have b6 := below_chain (w' := w5.drew) b5.out ⟨rfl, rfl, rfl, Nat.le_refl _, fun _ _ => rfl⟩
          exact ⟨i + 1, by go_num, by omega, GB.below h2.out b6, below_chain hW2.out b6⟩
        case measure => simp only [intOf]; omega
    · obtain rfl : i = zs.length := by omega
      have hnn := nan_ne (b := 9221120237041090561) (v := true) (by decide +kernel)
      have h00 : (FloatKind.f64.format.order 0 0 == some Ordering.eq) = true := by decide +kernel
      have HSg : Hid (∀ w, Calls Try.prog 20 #[.float .f64 0] w fun e w' => e = .returned (.bool false) ∧ w = w') := fun w => signbit_any 0 w (by omega)
      have HS0 : Hid (∀ w p, GA w p gs0 → Calls Try.prog 15 #[.pointer (some ⟨p, 0, none⟩)] w fun e w' => e = .returned (.float .f64 0) ∧ Below w.heap.size w w') := fun w p h => by
        have := gsum_any w p gs0 h (held0.lim (by omega))
        rwa [show sumOf gs0 = 0 by decide +kernel] at this
      have HD : Hid (∀ (w : World) n, Below w.heap.size w (w.drewN n)) := fun w n => ⟨rfl, rfl, rfl, Nat.le_refl _, fun _ _ => rfl⟩
      clear hG
      go_wp2_with (first
        | (go_at_call 11; refine (gnew _).mono ?_; rintro e w1 ⟨rfl, hg, hb⟩; have hg1 := Lib.hid hg; have hb1 := Lib.hid hb; clear hg hb)
        | (go_at_call 19; refine (gmean_zero _ _ hg1.out).mono ?_; rintro e w2 ⟨rfl, nd, rfl⟩; have hg2 := Lib.hid (GB.below hg1.out (HD.out w1 nd)))
        | (go_at_call 15; first | (refine (HS0.out _ _ hg2.out).mono ?_; rintro e w3 ⟨rfl, hb⟩; have hg3 := Lib.hid (GB.below hg2.out hb); have hb3 := Lib.hid (below_chain (HD.out w1 nd) hb); clear hb) | (refine (HS0.out _ _ hg3.out).mono ?_; rintro e w4 ⟨rfl, hb⟩; have hb4 := Lib.hid (below_chain hb3.out hb); clear hb))
        | (go_at_call 20; refine (HSg.out _).mono ?_; rintro e w' ⟨rfl, rfl⟩)
        | (go_at_call 10; refine (awake_ok _).mono ?_; rintro e w5 ⟨rfl, hb5⟩))
      go_ret
      exact ⟨rfl, below_chain (below_chain (below_chain hB.out hb1.out) hb4.out) hb5⟩
theorem walk (W : World) (a : Option Addr) (len cap : Nat) (zs : List Nat) (hI : IsF W a len cap zs) (hr : len * 8 ≤ 140737488351232) :
    Calls Try.prog 6 #[.slice a len cap] W fun e w' => e = .returned (.bool true) ∧ Below W.heap.size W w' := by
  by_cases h : len ≤ 40
  · exact walk_short W a len cap zs hI h
  · exact walk_long W a len cap (by omega) (by omega)

/-! The row's step. -/
theorem own : ownKnob Try.prog.godebug = none := by kernel_rfl
theorem laidOut : laidOutB Try.prog = true := by kernel_rfl
set_option linter.unusedVariables false
set_option maxRecDepth 100000 in
theorem lifted (os : Os) (started : os.Started) (H : Type) (enc : TypeId × Value → H) :
    ReturnsInHanded {} Try.checked os 6 .any (Rows.gaugeSumsSpec.pre6 enc Try.prog Try.f6 Rows.gaugeSumsRow.domain false) (Rows.gaugeSumsSpec.post enc Try.prog Try.f6 false true false false) := by
  refine returnsInHanded_of_change_sized (C := Try.checked) own started (by kernel_rfl) Try.func6
    (ChangeSpec.witness6 (enc := enc) (C := Try.checked) false ⟨#[], #[.slice none 0 0], []⟩ 8 (by kernel_rfl) (by kernel_rfl) (by kernel_rfl) (by kernel_rfl)) ?_
  intro W base args ds gs before hval0 hW _ hsz0 _
  have hsz : (DataW.weightsEach Try.prog (Try.f6.params.toList ++ Rows.gaugeSumsSpec.plain.varTypes Try.prog) (ds ++ gs)).all (· ≤ reachBytes) = true := hsz0
  clear hsz0
  have hval : ∀ (j : Nat) t v, Try.f6.params[j]? = some t → args[j]? = some v → Value.okWide Try.prog W .any base t v := hval0
  have hW' := hW
  obtain ⟨p, q, hA0, hV, rfl, hfz, hnd⟩ := hW
  have hA : DataW.TrodAll enc Try.prog W 0 (fun _ => true) true Try.f6.params.toList args.toList ds p := hA0
  rw [Try.params6] at hA hval hsz
  obtain ⟨v0, vs0, d0, ds0, p0, q0, hargs, rfl, rfl, h0, r0⟩ := trodAll_cons hA
  obtain ⟨rfl, rfl, rfl⟩ := trodAll_nil r0
  obtain rfl : args = #[v0] := by cases args; simp_all
  obtain ⟨rfl, rfl⟩ := trodVars_none hV
  obtain ⟨a0, len0, cap0, rfl⟩ := okWide_slice Try.underlying22 (hval 0 22 v0 rfl rfl)
  have lt0 : ∀ x ∈ p0, x.block < W.heap.size := by obtain ⟨m, hm⟩ := h0; exact DataW.trod_lt m _ _ _ hm
  obtain ⟨⟨z0, w0⟩, hf0⟩ := open_f Try.underlying22 Try.underlying23 (by kernel_rfl) h0
  have rc0 := reach_slice hsz (j := 0) (e := 23) rfl rfl Try.underlying22 (k := 8) (by kernel_rfl) hf0
  clear hf0
  clear hA0 hval0
  refine (walk W a0 len0 cap0 z0 w0 rc0).mono fun e W' ⟨he, bel⟩ => ?_
  subst he
  exact ⟨_, rfl, _, _, _, [], _, [], hW', trodAll_mk1 (shut_bool Try.underlying4 _), (trodAll_cons_mk (Below.trod laidOut (by kernel_rfl) (of_decide_eq_true (by kernel_rfl)) h0 bel lt0) trodAll_mk0), rfl, bel.frame _, fun h => by cases h⟩

theorem over : Rows.gaugeSumsRow.holds Try.pinned (OpenSpec.ofChange Rows.gaugeSumsSpec) :=
  OpenClaim.holds_of_wide 6 Try.f6 rfl rfl rfl rfl rfl rfl rfl ⟨rfl, rfl, rfl, rfl, rfl⟩ rfl rfl rfl rfl rfl (by kernel_rfl) Try.func6 (by kernel_rfl)
    (of_decide_eq_true (by kernel_rfl)) (by unfold Func.isWrapper; first | (rw [if_pos (by decide +kernel)]; kernel_rfl) | (rw [if_neg (by decide +kernel)]; exact ⟨rfl, rfl⟩))
    (fun os started H enc _ => lifted os started H enc)

/-- THE STATEMENT. -/
theorem proved : Rows.GaugeSumsSaid := over

#print axioms proved
end Go.Proofs.Ytdjilhahafkpfaa.gaugeSums
