/- GaugeTurns: for every list of numbers and whatever place the law returns true. -/
import Derived.Test.YtdjilhahafkpfaaLy
import Derived.ProofKit
import Derived.OpenShut
import Derived.SizedLaws
namespace Go.Proofs.Ytdjilhahafkpfaa.gaugeTurns
open Go.ChangeShapes Go.WideShapes Go.ChangeAt Go.RowKit
set_option maxRecDepth 100000
theorem sumOf_lt (G : Gs) : sumOf G < 18446744073709551616 := by
  unfold sumOf
  split
  · omega
  · split
    · omega
    · split
      · omega
      · split
        · have := FP.rd_le_inf G.V.toNat 0; omega
        · unfold negB; exact FP.word_num _ _ (FP.rung_lt _)
theorem walk_long (W : World) (a : Option Addr) (len cap : Nat) (hl : 200 < len) (hc : len ≤ 9223372036854775807) (by_ : Int) :
    Calls Try.prog 8 #[.slice a len cap, .int .i64 by_] W fun e w' => e = .returned (.bool true) ∧ Below W.heap.size W w' := by
  have hl' : (200 : Int) < (len : Int) := by omega
  have HA := Lib.hid (awake_ok W)
  go_enter Try.func8, Try.ntmps8
  go_wp2_with (go_at_call 10; refine HA.out.mono ?_; rintro e w' ⟨rfl, hB⟩)
  go_ret
  exact ⟨rfl, hB⟩
theorem walk_none (W : World) (a : Option Addr) (cap : Nat) (by_ : Int) :
    Calls Try.prog 8 #[.slice a 0 cap, .int .i64 by_] W fun e w' => e = .returned (.bool true) ∧ Below W.heap.size W w' := by
  have HA := Lib.hid (awake_ok W)
  go_enter Try.func8, Try.ntmps8
  go_wp2_with (go_at_call 10; refine HA.out.mono ?_; rintro e w' ⟨rfl, hB⟩)
  go_ret
  exact ⟨rfl, hB⟩
theorem total_of (zs : List Nat) : (gsOf zs).c + (gsOf zs).o + (gsOf zs).h + (gsOf zs).l = zs.length := by
  have h : ∀ (zs : List Nat) (G : Gs), (zs.foldl addG G).c + (zs.foldl addG G).o + (zs.foldl addG G).h + (zs.foldl addG G).l = G.c + G.o + G.h + G.l + zs.length := by
    intro zs
    induction zs with
    | nil => intro G; rfl
    | cons x zs ih =>
      intro G
      rw [List.foldl_cons, ih, List.length_cons]
      rcases kinds x with k | k | k | k
      · rw [addG_nan k]; show G.c + (G.o + 1) + G.h + G.l + _ = _; omega
      · rw [addG_lo k]; show G.c + G.o + G.h + (G.l + 1) + _ = _; omega
      · rw [addG_hi k]; show G.c + G.o + (G.h + 1) + G.l + _ = _; omega
      · rw [addG_fin k]; show G.c + 1 + G.o + G.h + G.l + _ = _; omega
  have := h zs gs0
  simpa [gs0, gsOf] using this
theorem same_comm (x y : Nat) : FP.sameB x y = FP.sameB y x := by
  unfold FP.sameB; rw [decide_eq_decide]; exact eq_comm
theorem tmod_two (x n : Int) (h1 : 1 ≤ n) : x.tmod n = x % n ∨ x.tmod n = x % n - n := by
  rw [Int.tmod_eq_emod]
  split
  · left; omega
  · right; omega
theorem at_case (x n : Int) (h1 : 1 ≤ n) : ∃ a : Nat, (a : Int) < n ∧ ∃ m : Int, x.tmod n = m ∧ ((m < 0 ∧ m + n = a) ∨ (¬ m < 0 ∧ m = a)) := by
  have hm := Int.emod_nonneg x (show n ≠ 0 by omega)
  have hm2 := Int.emod_lt_of_pos x (show 0 < n by omega)
  refine ⟨(x % n).toNat, by omega, _, rfl, ?_⟩
  rcases tmod_two x n h1 with e | e
  · right; omega
  · left; omega
set_option maxHeartbeats 8000000 in
theorem walk_short (W : World) (a : Option Addr) (len cap : Nat) (zs : List Nat) (hI : IsF W a len cap zs) (hl : len ≤ 200) (hl0 : 0 < len) (by_ : Int) :
    Calls Try.prog 8 #[.slice a len cap, .int .i64 by_] W fun e w' => e = .returned (.bool true) ∧ Below W.heap.size W w' := by
  have HO := Lib.hid (of_ex W a len cap zs hI (by omega))
  obtain rfl := hI.hlen
  have hcap := hI.hcap
  have hmax := hI.hmax
  have HI := Lib.hid hI
  have HW := Lib.hid hI.wf
  clear hI
  unfold maxLen at hmax
  have hl' : ¬ (200 : Int) < (zs.length : Int) := by omega
  have hl0' : (0 : Int) < (zs.length : Int) := by omega
  have hlz : ((zs.length : Int) == 0) = false := by rw [beq_eq_false_iff_ne]; omega
  have hlz2 : ¬ (zs.length : Int) = 0 := by omega
  obtain ⟨at_, hal, m, hm, hcase⟩ := at_case by_ zs.length (by omega)
  have hat : at_ < zs.length := by omega
  have ha0 : (0 : Int) ≤ (at_ : Int) := Int.natCast_nonneg _
  obtain ⟨ys, hys⟩ : ∃ ys, ys = turned zs at_ := ⟨_, rfl⟩
  have HYW : Hid (∀ x ∈ ys, x < 18446744073709551616) := by rw [hys]; exact turned_wf hat HW.out
  have HYL : Hid (ys.length = zs.length) := by rw [hys]; exact turned_len _ _
  have HYG : Hid (∀ i, i < zs.length → ys.getD i 0 = zs.getD ((at_ + zs.length - i) % zs.length) 0) := fun i hi => by rw [hys]; exact turned_get hi
  have HT : Hid (tell (gsOf ys) = tell (gsOf zs)) := by rw [hys]; exact tell_perm (turned_perm hat) HW.out
  have HAT := Lib.hid hat
  clear hys hat
  have hw : wrap64 (at_ : Int) = (at_ : Int) := IntWalk.wrap64_in _ (by omega)
  have hw2 : IntKind.i64.wrap (at_ : Int) = (at_ : Int) := IntWalk.i64_in _ (by omega)
  rcases hcase with ⟨hs, hmn⟩ | ⟨hs, hmn⟩ <;> (
  go_enter Try.func8, Try.ntmps8
  go_wp2_with (first | (go_at_call 16; refine HO.out.mono ?_; rintro e w1 ⟨p, hp, rfl, hg1, hb1⟩; replace hg1 := Lib.hid hg1; replace hb1 := Lib.hid hb1; clear hp) | (go_at_call 11; refine (gnew _).mono ?_; rintro e w2 ⟨rfl, hg2, hb2⟩; replace hg2 := Lib.hid hg2; replace hb2 := Lib.hid hb2))
  obtain ⟨q, hq⟩ : ∃ q, q = w1.heap.size := ⟨_, rfl⟩
  rw [← hq] at hg2 ⊢
  have hpq : Hid (p ≠ q ∧ W.heap.size ≤ q) := ⟨by have := hg1.out.b.lt; omega, by rw [hq]; exact hb1.out.size⟩
  have hgp : Hid (GA w2 p (gsOf zs)) := GB.below hg1.out hb2.out
  have hgq : Hid (GA w2 q (gsOf (ys.take 0))) := hg2
  have hB0 : Hid (Below W.heap.size W w2) := below_chain hb1.out hb2.out
  clear hq hg1 hb1 hg2 hb2 HO hs hmn hm hw hw2
  go_loopw [8] (fun iv wr => ∃ i : Nat, iv = .int .i64 i ∧ i ≤ zs.length ∧ Hid (GA wr q (gsOf (ys.take i))) ∧ Hid (GA wr p (gsOf zs)) ∧ Hid (Below W.heap.size W wr)) (fun iv _ => zs.length - (intOf iv).toNat)
  case atStart => exact ⟨0, rfl, by omega, hgq, hgp, hB0⟩
  case round =>
    obtain ⟨i, rfl, i1, hG, hP, hB⟩ := hrel
    clear hgp hgq hB0
    have hi0 : (0 : Int) ≤ (i : Int) := Int.natCast_nonneg _
    by_cases hlt : i < zs.length
    · have hlt' : (i : Int) < (zs.length : Int) := by omega
      obtain ⟨k, hk⟩ : ∃ k, k = (at_ + zs.length - i) % zs.length := ⟨_, rfl⟩
      have hkl : k < zs.length := by rw [hk]; exact Nat.mod_lt _ (by omega)
      have hkm : ((at_ : Int) + (zs.length : Int) - (i : Int)) % (zs.length : Int) = (k : Int) := by
        rw [show (at_ : Int) + (zs.length : Int) - (i : Int) = ((at_ + zs.length - i : Nat) : Int) by omega, hk]; rfl
      obtain ⟨b, off, rfl, hc⟩ := HI.out.one hB.out hkl
      have hH : Held i (gsOf (ys.take i)) := by
        have := heldOf (zs := ys.take i) fun x hx => HYW.out x (List.mem_of_mem_take hx)
        rwa [List.length_take, HYL.out, Nat.min_eq_left i1] at this
      have hx : zs.getD k 0 < 18446744073709551616 := FP.getD_lt HW.out k
      have HA := Lib.hid (gadd_any wr q _ i hG.out hH (by omega) (zs.getD k 0) hx)
      have e : gsOf (ys.take (i + 1)) = addG (gsOf (ys.take i)) (zs.getD k 0) := by
        rw [take_snocN (by rw [HYL.out]; exact hlt), HYG.out i hlt, ← hk, ← gsOf_snoc]
      rw [← e] at HA
      generalize zs.getD k 0 = x at hc HA
      have hk0 : (0 : Int) ≤ (k : Int) := Int.natCast_nonneg _
      have hk1 : (k : Int) < (zs.length : Int) := by omega
      clear hH hx hG e hk
      go_wp2_with (go_at_call 13; refine HA.out.mono ?_; rintro e w3 ⟨rfl, h2, f2⟩; replace h2 := Lib.hid h2; replace f2 := Lib.hid f2)
      go_roundw
      case rel => exact ⟨i + 1, by go_num, by omega, h2, ⟨(f2.out.block p hP.out.b.lt (fun e => hpq.out.1 e)).trans hP.out.b, hP.out.l, hP.out.n⟩, hB.out.trans (f2.out.below hB.out.size fun r hr => by rw [hr]; exact hpq.out.2)⟩
      case measure => simp only [intOf]; omega
    · obtain rfl : i = zs.length := by omega
      rw [← HYL.out, List.take_length] at hG
      have hE1 := endedG HW.out
      have hE2 := endedG HYW.out
      have hH1 := heldOf HW.out
      have hH2 := heldOf HYW.out
      rw [HYL.out] at hH2
      obtain ⟨e1, e2, e3, e4, e5, e6, e7⟩ := tell_same HT.out hE2 hE1
      have HtotP : 0 < (gsOf zs).c + (gsOf zs).o + (gsOf zs).h + (gsOf zs).l := by have := total_of zs; omega
      have hCp := Lib.hid (count_any wr p _ hP.out)
      have hCq := Lib.hid fun n => count_any (wr.drewN n) q _ (show GA (wr.drewN n) q (gsOf ys) from ⟨hG.out.b, hG.out.l, hG.out.n⟩)
      have hP' : ∀ w, Below wr.heap.size wr w → GA w p (gsOf zs) := fun w h => GB.below hP.out h
      have hG' : ∀ w, Below wr.heap.size wr w → GA w q (gsOf ys) := fun w h => GB.below hG.out h
      have hSp := Lib.hid fun w h => gsum_any w p _ (hP' w h) (hH1.lim (by omega))
      have hSq := Lib.hid fun w h => gsum_any w q _ (hG' w h) (hH2.lim (by omega))
      have hMp := Lib.hid fun w h => gmean_any w p _ _ (hP' w h) hH1 (by omega) HtotP
      have hMq := Lib.hid fun w h => gmean_any w q _ _ (hG' w h) hH2 (by omega) (by omega)
      have hNp := Lib.hid fun w h => gmin_any w p _ (hP' w h)
      have hNq := Lib.hid fun w h => gmin_any w q _ (hG' w h)
      have hXp := Lib.hid fun w h => gmax_any w p _ (hP' w h)
      have hXq := Lib.hid fun w h => gmax_any w q _ (hG' w h)
      rw [e1, e2, e3, e4] at hCq hMq
      rw [e5] at hSq hMq
      have HSm : Hid (∀ x y, x < 18446744073709551616 → y < 18446744073709551616 → FP.sameB x y = true → ∀ w, Calls Try.prog 14 #[.float .f64 x, .float .f64 y] w fun e w'' => e = .returned (.bool true) ∧ w = w'') := fun x y hx hy h w => by
        have := same_any x y w hx hy
        rwa [h] at this
      have k1 := HSm.out _ _ (sumOf_lt (gsOf zs)) (sumOf_lt (gsOf zs)) (FP.sameB_refl _)
      have k2 := HSm.out _ _ hH1.mn hH2.mn (by rw [same_comm]; exact e6)
      have k3 := HSm.out _ _ hH1.mx hH2.mx (by rw [same_comm]; exact e7)
      have K1 := Lib.hid k1
      have K2 := Lib.hid k2
      have K3 := Lib.hid k3
      have HD : Hid (∀ n, Below wr.heap.size wr (wr.drewN n)) := fun n => ⟨rfl, rfl, rfl, Nat.le_refl _, fun _ _ => rfl⟩
      generalize gsOf zs = GZ at *
      generalize gsOf ys = GY at *
      clear k1 k2 k3 hP' hG' e1 e2 e3 e4 e5 e6 e7 HtotP hE1 hE2 hH1 hH2 hG hP HT
      go_wp2_with (first
        | (go_at_call 21; first | ((with_reducible refine hCp.out.mono ?_); rintro e w3 ⟨rfl, nd, rfl⟩) | ((with_reducible refine (hCq.out _).mono ?_); rintro e w3 ⟨rfl, ne, rfl⟩; have hW := Lib.hid (HD.out (nd + ne))))
        | (go_at_call 15; first | ((with_reducible refine (hSp.out _ hW.out).mono ?_); rintro e w4 ⟨rfl, hb⟩; replace hW := Lib.hid (below_chain hW.out hb); clear hb) | ((with_reducible refine (hSq.out _ hW.out).mono ?_); rintro e w5 ⟨rfl, hb⟩; replace hW := Lib.hid (below_chain hW.out hb); clear hb))
        | (go_at_call 19; first | ((with_reducible refine (hMp.out _ hW.out).mono ?_); rintro e w6 ⟨r1, rfl, hm1, hb⟩; replace hm1 := Lib.hid hm1; replace hW := Lib.hid (below_chain hW.out hb); clear hb) | ((with_reducible refine (hMq.out _ hW.out).mono ?_); rintro e w7 ⟨r2, rfl, hm2, hb⟩; replace hm2 := Lib.hid hm2; replace hW := Lib.hid (below_chain hW.out hb); clear hb; have K4 := Lib.hid (HSm.out _ _ hm1.out.1 hm2.out.1 (hm1.out.same hm2.out))))
        | (go_at_call 23; first | ((with_reducible refine (hNp.out _ hW.out).mono ?_); rintro e w' ⟨rfl, rfl⟩) | ((with_reducible refine (hNq.out _ hW.out).mono ?_); rintro e w' ⟨rfl, rfl⟩))
        | (go_at_call 24; first | ((with_reducible refine (hXp.out _ hW.out).mono ?_); rintro e w' ⟨rfl, rfl⟩) | ((with_reducible refine (hXq.out _ hW.out).mono ?_); rintro e w' ⟨rfl, rfl⟩))
        | (go_at_call 14; first | ((with_reducible refine (K1.out _).mono ?_); rintro e w' ⟨rfl, rfl⟩) | ((with_reducible refine (K4.out _).mono ?_); rintro e w' ⟨rfl, rfl⟩) | ((with_reducible refine (K2.out _).mono ?_); rintro e w' ⟨rfl, rfl⟩) | ((with_reducible refine (K3.out _).mono ?_); rintro e w' ⟨rfl, rfl⟩))
        | (go_at_call 10; refine (awake_ok _).mono ?_; rintro e w8 ⟨rfl, hb8⟩))
      go_ret
      exact ⟨rfl, below_chain (below_chain hB.out hW.out) hb8⟩)
theorem walk (W : World) (a : Option Addr) (len cap : Nat) (zs : List Nat) (hI : IsF W a len cap zs) (hr : len * 8 ≤ 140737488351232) (by_ : Int) (w1 : (Lit.int .i64 by_).wf = true) :
    Calls Try.prog 8 #[.slice a len cap, .int .i64 by_] W fun e w' => e = .returned (.bool true) ∧ Below W.heap.size W w' := by
  by_cases h : len ≤ 200
  · by_cases h0 : len = 0
    · subst h0; exact walk_none W a cap by_
    · exact walk_short W a len cap zs hI h (by omega) by_
  · exact walk_long W a len cap (by omega) (by omega) by_

/-! The row's step. -/
theorem own : ownKnob Try.prog.godebug = none := by kernel_rfl
theorem laidOut : laidOutB Try.prog = true := by kernel_rfl
set_option linter.unusedVariables false
set_option maxRecDepth 100000 in
theorem lifted (os : Os) (started : os.Started) (H : Type) (enc : TypeId × Value → H) :
    ReturnsInHanded {} Try.checked os 8 .any (Rows.gaugeTurnsSpec.pre6 enc Try.prog Try.f8 Rows.gaugeTurnsRow.domain false) (Rows.gaugeTurnsSpec.post enc Try.prog Try.f8 false true false false) := by
  refine returnsInHanded_of_change_sized (C := Try.checked) own started (by kernel_rfl) Try.func8
    (ChangeSpec.witness6 (enc := enc) (C := Try.checked) false ⟨#[], #[.slice none 0 0, .int .i64 0], []⟩ 8 (by kernel_rfl) (by kernel_rfl) (by kernel_rfl) (by kernel_rfl)) ?_
  intro W base args ds gs before hval0 hW _ hsz0 _
  have hsz : (DataW.weightsEach Try.prog (Try.f8.params.toList ++ Rows.gaugeTurnsSpec.plain.varTypes Try.prog) (ds ++ gs)).all (· ≤ reachBytes) = true := hsz0
  clear hsz0
  have hval : ∀ (j : Nat) t v, Try.f8.params[j]? = some t → args[j]? = some v → Value.okWide Try.prog W .any base t v := hval0
  have hW' := hW
  obtain ⟨p, q, hA0, hV, rfl, hfz, hnd⟩ := hW
  have hA : DataW.TrodAll enc Try.prog W 0 (fun _ => true) true Try.f8.params.toList args.toList ds p := hA0
  rw [Try.params8] at hA hval hsz
  obtain ⟨v0, vs0, d0, ds0, p0, q0, hargs, rfl, rfl, h0, r0⟩ := trodAll_cons hA
  obtain ⟨v1, vs1, d1, ds1, p1, q1, rfl, rfl, rfl, h1, r1⟩ := trodAll_cons r0
  obtain ⟨rfl, rfl, rfl⟩ := trodAll_nil r1
  obtain rfl : args = #[v0, v1] := by cases args; simp_all
  obtain ⟨rfl, rfl⟩ := trodVars_none hV
  obtain ⟨a0, len0, cap0, rfl⟩ := okWide_slice Try.underlying22 (hval 0 22 v0 rfl rfl)
  have lt0 : ∀ x ∈ p0, x.block < W.heap.size := by obtain ⟨m, hm⟩ := h0; exact DataW.trod_lt m _ _ _ hm
  obtain ⟨⟨z0, w0⟩, hf0⟩ := open_f Try.underlying22 Try.underlying23 (by kernel_rfl) h0
  have rc0 := reach_slice hsz (j := 0) (e := 23) rfl rfl Try.underlying22 (k := 8) (by kernel_rfl) hf0
  clear hf0
  obtain ⟨a1, rfl, rfl, rfl, w1⟩ := open_int Try.underlying3 (hval 1 3 v1 rfl rfl) h1
  clear hA0 hval0
  refine (walk W a0 len0 cap0 z0 w0 rc0 a1 w1).mono fun e W' ⟨he, bel⟩ => ?_
  subst he
  exact ⟨_, rfl, _, _, _, [], _, [], hW', trodAll_mk1 (shut_bool Try.underlying4 _), (trodAll_cons_mk (Below.trod laidOut (by kernel_rfl) (of_decide_eq_true (by kernel_rfl)) h0 bel lt0) (trodAll_cons_mk (shut_int Try.underlying3 w1) trodAll_mk0)), rfl, bel.frame _, fun h => by cases h⟩

theorem over : Rows.gaugeTurnsRow.holds Try.pinned (OpenSpec.ofChange Rows.gaugeTurnsSpec) :=
  OpenClaim.holds_of_wide 8 Try.f8 rfl rfl rfl rfl rfl rfl rfl ⟨rfl, rfl, rfl, rfl, rfl⟩ rfl rfl rfl rfl rfl (by kernel_rfl) Try.func8 (by kernel_rfl)
    (of_decide_eq_true (by kernel_rfl)) (by unfold Func.isWrapper; first | (rw [if_pos (by decide +kernel)]; kernel_rfl) | (rw [if_neg (by decide +kernel)]; exact ⟨rfl, rfl⟩))
    (fun os started H enc _ => lifted os started H enc)

/-- THE STATEMENT. -/
theorem proved : Rows.GaugeTurnsSaid := over

#print axioms proved
end Go.Proofs.Ytdjilhahafkpfaa.gaugeTurns
