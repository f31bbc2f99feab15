/- GaugeCounts: for every list of numbers the law returns true. -/
import Derived.Test.YtdjilhahafkpfaaLv
import Derived.ProofKit
import Derived.OpenShut
import Derived.SizedLaws
namespace Go.Proofs.Ytdjilhahafkpfaa.gaugeCounts
open Go.ChangeShapes Go.WideShapes Go.ChangeAt Go.RowKit
set_option maxRecDepth 100000
theorem walk_long (W : World) (a : Option Addr) (len cap : Nat) (hl : 200 < len) (hc : len ≤ 9223372036854775807) :
    Calls Try.prog 7 #[.slice a len cap] W fun e w' => e = .returned (.bool true) ∧ Below W.heap.size W w' := by
  have hl' : (200 : Int) < (len : Int) := by omega
  have HA := Lib.hid (awake_ok W)
  go_enter Try.func7, Try.ntmps7
  go_wp2_with (go_at_call 10; refine HA.out.mono ?_; rintro e w' ⟨rfl, hB⟩)
  go_ret
  exact ⟨rfl, hB⟩
theorem eq4 (c o h l : Int) (w : World) : (Op.equalIn 10000 38 (.agg #[.int .i64 c, .int .i64 o, .int .i64 h, .int .i64 l]) (.agg #[.int .i64 c, .int .i64 o, .int .i64 h, .int .i64 l])).run Try.prog w = .ok true w := by
  obtain ⟨i, hi⟩ := Option.isSome_iff_exists.1 (show (Try.prog.info? 3).isSome = true by kernel_rfl)
  have hp : Try.prog.plainKey 3 = true := by kernel_rfl
  have hc : Try.prog.cellsOf 3 = 1 := by kernel_rfl
  have he : ∀ (a : Int) (w : World), (Op.equalIn 9999 3 (.int .i64 a) (.int .i64 a)).run Try.prog w = .ok true w := fun a w => by
    rw [show (9999 : Nat) = 9998 + 1 from rfl, run_equalIn_int w 9998 _ _ _ _ _ Try.underlying3, beq_self_eq_true]
  have ht : ∀ (xs : Array Value) (j : Nat) (v : Value) (w : World), xs[j]? = some v → (part 3 xs j).run Try.prog w = .ok v w := fun xs j v w h => run_part_plain w hp h
  generalize hxs : (#[.int .i64 c, .int .i64 o, .int .i64 h, .int .i64 l] : Array Value) = xs
  have h0 : xs[0]? = some (.int .i64 c) := by rw [← hxs]; rfl
  have h1 : xs[1]? = some (.int .i64 o) := by rw [← hxs]; rfl
  have h2 : xs[2]? = some (.int .i64 h) := by rw [← hxs]; rfl
  have h3 : xs[3]? = some (.int .i64 l) := by rw [← hxs]; rfl
  rw [show (10000 : Nat) = 9999 + 1 from rfl, run_equalIn_array w 9999 _ _ Try.underlying38 hi, hc, show List.range 4 = [0, 1, 2, 3] from rfl]
  simp only [Op.eqItems, Sem.run_bind, Nat.mul_one, ht _ 0 _ _ h0, ht _ 1 _ _ h1, ht _ 2 _ _ h2, ht _ 3 _ _ h3, he, Result.andThen_ok, Bool.not_true, Bool.false_eq_true, if_false, Sem.run_pure]
/-- The counts, as the law keeps them. -/
def cells (G : Gs) : Array Value := #[.int .i64 G.c, .int .i64 G.o, .int .i64 G.h, .int .i64 G.l]
theorem cells_get {w : World} {q : Nat} {G : Gs} (h : Blk w q 38 (cells G)) : (w.cell? ⟨q, 0, none⟩ = some (.int .i64 G.c) ∧ w.cell? ⟨q, 1, none⟩ = some (.int .i64 G.o) ∧ w.cell? ⟨q, 2, none⟩ = some (.int .i64 G.h) ∧ w.cell? ⟨q, 3, none⟩ = some (.int .i64 G.l)) ∧ w.frozen? ⟨q, 0, none⟩ = false ∧ w.frozen? ⟨q, 1, none⟩ = false ∧ w.frozen? ⟨q, 2, none⟩ = false ∧ w.frozen? ⟨q, 3, none⟩ = false :=
  ⟨⟨by rw [h.cell]; rfl, by rw [h.cell]; rfl, by rw [h.cell]; rfl, by rw [h.cell]; rfl⟩, h.froz 0, h.froz 1, h.froz 2, h.froz 3⟩
set_option maxHeartbeats 4000000 in
theorem walk_short (W : World) (a : Option Addr) (len cap : Nat) (zs : List Nat) (hI : IsF W a len cap zs) (hl : len ≤ 200) :
    Calls Try.prog 7 #[.slice a len cap] W fun e w' => e = .returned (.bool true) ∧ Below W.heap.size W w' := by
  have HO := Lib.hid (of_ex W a len cap zs hI (by omega))
  have HEn := Lib.hid fun w (hB : Below W.heap.size W w) => ends_any w a len cap zs ⟨hI.hlen, hI.hcap, hI.hmax, hI.wf, by
    rcases hI.at_ with e | ⟨b, off, e, hb, hc⟩
    · exact Or.inl e
    · exact Or.inr ⟨b, off, e, Nat.lt_of_lt_of_le hb hB.size, fun i hi => (hB.cell (p := ⟨b, off + i, none⟩) hb).trans (hc i hi)⟩⟩
  obtain rfl := hI.hlen
  have hcap := hI.hcap
  have hmax := hI.hmax
  have HI := Lib.hid hI
  have HW := Lib.hid hI.wf
  clear hI
  unfold maxLen at hmax
  have hl' : ¬ (200 : Int) < (zs.length : Int) := by omega
  have HHd := Lib.hid (heldOf HW.out)
  obtain ⟨GZ, hGZ⟩ : ∃ GZ, GZ = gsOf zs := ⟨_, rfl⟩
  have HGZ := Lib.hid hGZ
  rw [← hGZ] at HO HEn HHd
  clear hGZ
  have HSm : Hid (∀ (x : Nat), x < 18446744073709551616 → ∀ w' : World, Calls Try.prog 14 #[.float .f64 x, .float .f64 x] w' fun e w'' => e = .returned (.bool true) ∧ w' = w'') := fun x hx w' => by
    have h := same_any x x w' hx hx
    rwa [FP.sameB_refl] at h
  go_enter Try.func7, Try.ntmps7
  go_wp2_with (go_at_call 16; refine HO.out.mono ?_; rintro e w1 ⟨p, hp, rfl, hg, hb⟩; have HG := Lib.hid hg; have HB := Lib.hid hb; clear hg hb hp)
  have hk0 : Hid (Blk (w1.alloc (.cells #[.int .i64 0, .int .i64 0, .int .i64 0, .int .i64 0] 38)) w1.heap.size 38 (cells gs0)) := heap_alloc_new w1 _
  have hg0 : Hid (GA (w1.alloc (.cells #[.int .i64 0, .int .i64 0, .int .i64 0, .int .i64 0] 38)) p GZ) := GB.below HG.out ((Below.refl _ _).alloc (Nat.le_refl _) _)
  have hb0 : Hid (Below W.heap.size W (w1.alloc (.cells #[.int .i64 0, .int .i64 0, .int .i64 0, .int .i64 0] 38))) := HB.out.alloc HB.out.size _
  have hpq : Hid (p ≠ w1.heap.size ∧ W.heap.size ≤ w1.heap.size) := ⟨by have := HG.out.b.lt; omega, HB.out.size⟩
  obtain ⟨q, hq⟩ : ∃ q, q = w1.heap.size := ⟨_, rfl⟩
  rw [← hq] at hk0 hpq ⊢
  clear hq HG HB
  generalize w1.alloc (.cells #[.int .i64 0, .int .i64 0, .int .i64 0, .int .i64 0] 38) = w0 at hk0 hg0 hb0 ⊢
  go_loopw [5] (fun iv wr => ∃ i : Nat, iv = .int .i64 i ∧ i ≤ zs.length ∧ Hid (Blk wr q 38 (cells (gsOf (zs.take i)))) ∧ Hid (GA wr p GZ) ∧ Hid (Below W.heap.size W wr)) (fun iv _ => zs.length - (intOf iv).toNat)
  case atStart => exact ⟨0, rfl, by omega, hk0, hg0, hb0⟩
  case round =>
    obtain ⟨i, rfl, i1, hK, hG, hB⟩ := hrel
    clear hk0 hg0 hb0
    have hi0 : (0 : Int) ≤ (i : Int) := Int.natCast_nonneg _
    by_cases hlt : i < zs.length
    · have hlt' : (i : Int) < (zs.length : Int) := by omega
      obtain ⟨b, off, rfl, hc⟩ := HI.out.one hB.out hlt
      have hHd := heldOf (zs := zs.take i) fun x hx => HW.out x (List.mem_of_mem_take hx)
      rw [List.length_take, Nat.min_eq_left i1] at hHd
      obtain ⟨hc1, hc2, hc3, hc4, -, -, -⟩ := hHd
      have hx : zs.getD i 0 < 18446744073709551616 := FP.getD_lt HW.out i
      have HS : Hid (gsOf (zs.take (i + 1)) = addG (gsOf (zs.take i)) (zs.getD i 0)) := by unfold Hid; rw [take_snocN hlt, gsOf_snoc]
      obtain ⟨⟨k0, k1, k2, k3⟩, f0, f1, f2, f3⟩ := cells_get hK.out
      generalize zs.getD i 0 = x at hc hx HS
      have HI1 := Lib.hid fun w => isInf_any x 1 hx w
      have HI2 := Lib.hid fun w => isInf_any x (-1) hx w
      have HGS : Hid (gsOf (zs.take i) = gsOf (zs.take i)) := rfl
      generalize hGi : gsOf (zs.take i) = Gi at hK HS hc1 hc2 hc3 hc4 k0 k1 k2 k3
      clear hGi HGS hx
      obtain ⟨V, c, o, h, l, mn, mx⟩ := Gi
      dsimp only at hc1 hc2 hc3 hc4 k0 k1 k2 k3
      have hcc : (0 : Int) ≤ (c : Int) := Int.natCast_nonneg _
      have hoo : (0 : Int) ≤ (o : Int) := Int.natCast_nonneg _
      have hhh : (0 : Int) ≤ (h : Int) := Int.natCast_nonneg _
      have hll : (0 : Int) ≤ (l : Int) := Int.natCast_nonneg _
      have HPut : Hid (∀ (n j : Nat) (v : Value) (G' : Gs), (cells ⟨V, c, o, h, l, mn, mx⟩).setIfInBounds j v = cells G' → Blk ((wr.drewN n).setCell ⟨q, j, none⟩ v) q 38 (cells G') ∧ GA ((wr.drewN n).setCell ⟨q, j, none⟩ v) p GZ ∧ Below W.heap.size W ((wr.drewN n).setCell ⟨q, j, none⟩ v)) := fun n j v G' e => by
        have hd : Below wr.heap.size wr (wr.drewN n) := ⟨rfl, rfl, rfl, Nat.le_refl _, fun _ _ => rfl⟩
        refine ⟨by rw [← e]; exact (hK.out.below hd hK.out.lt).set j v, ?_, (below_chain hB.out hd).setCell hpq.out.2 _⟩
        exact ⟨(hG.out.b.below hd hG.out.b.lt).other (fun e => hpq.out.1 e.symm) j v, hG.out.l, hG.out.n⟩
      rcases kinds x with k | k | k | k
      · have hne := nan_ne k
        rw [addG_nan k] at HS
        clear k HI1 HI2
        go_wp2
        go_quiet (fail)
        have HP := HPut.out nq 1 (.int .i64 ((o : Int) + 1)) (addN ⟨V, c, o, h, l, mn, mx⟩) rfl
        rw [← HS.out] at HP
        have HPH := Lib.hid HP
        clear HP
        go_wp2
        go_roundw
        case rel => exact ⟨i + 1, by go_num, by omega, HPH.out.1, HPH.out.2.1, HPH.out.2.2⟩
        case measure => simp only [intOf]; omega
      · have hne := nan_ne k.1
        rw [addG_lo k] at HS
        have b1 : infB x 1 = false := by unfold infB; rw [if_neg (by omega), if_neg (by omega), k.2.2]; rfl
        have b2 : infB x (-1) = true := by unfold infB; rw [if_neg (by omega), if_pos (by omega), k.2.2, k.2.1]; rfl
        rw [b1] at HI1
        rw [b2] at HI2
        clear k b1 b2
        go_wp2
        go_quiet (fail)
        have HP := HPut.out nq 3 (.int .i64 ((l : Int) + 1)) (addL' ⟨V, c, o, h, l, mn, mx⟩) rfl
        rw [← HS.out] at HP
        have HPH := Lib.hid HP
        clear HP
        go_wp2_with (go_at_call 12; first | (with_reducible refine (HI1.out _).mono ?_; rintro e w' ⟨rfl, rfl⟩) | (with_reducible refine (HI2.out _).mono ?_; rintro e w' ⟨rfl, rfl⟩))
        go_roundw
        case rel => exact ⟨i + 1, by go_num, by omega, HPH.out.1, HPH.out.2.1, HPH.out.2.2⟩
        case measure => simp only [intOf]; omega
      · have hne := nan_ne k.1
        rw [addG_hi k] at HS
        have b1 : infB x 1 = true := by unfold infB; rw [if_neg (by omega), if_neg (by omega), k.2.2, k.2.1]; rfl
        rw [b1] at HI1
        clear k b1 HI2
        go_wp2
        go_quiet (fail)
        have HP := HPut.out nq 2 (.int .i64 ((h : Int) + 1)) (addH ⟨V, c, o, h, l, mn, mx⟩) rfl
        rw [← HS.out] at HP
        have HPH := Lib.hid HP
        clear HP
        go_wp2_with (go_at_call 12; refine (HI1.out _).mono ?_; rintro e w' ⟨rfl, rfl⟩)
        go_roundw
        case rel => exact ⟨i + 1, by go_num, by omega, HPH.out.1, HPH.out.2.1, HPH.out.2.2⟩
        case measure => simp only [intOf]; omega
      · have hne := nan_ne k.1
        rw [addG_fin k] at HS
        have b1 : infB x 1 = false := by unfold infB; rw [if_neg (by omega), if_neg (by omega), k.2]; simp
        have b2 : infB x (-1) = false := by unfold infB; rw [if_neg (by omega), if_pos (by omega), k.2]; simp
        rw [b1] at HI1
        rw [b2] at HI2
        clear k b1 b2
        go_wp2
        go_quiet (fail)
        have HP := HPut.out nq 0 (.int .i64 ((c : Int) + 1)) (addF ⟨V, c, o, h, l, mn, mx⟩ x) rfl
        rw [← HS.out] at HP
        have HPH := Lib.hid HP
        clear HP
        go_wp2_with (go_at_call 12; first | (with_reducible refine (HI1.out _).mono ?_; rintro e w' ⟨rfl, rfl⟩) | (with_reducible refine (HI2.out _).mono ?_; rintro e w' ⟨rfl, rfl⟩))
        go_roundw
        case rel => exact ⟨i + 1, by go_num, by omega, HPH.out.1, HPH.out.2.1, HPH.out.2.2⟩
        case measure => simp only [intOf]; omega
    · obtain rfl : i = zs.length := by omega
      rw [List.take_length, ← HGZ.out] at hK
      have HCt := Lib.hid (count_any wr p GZ hG.out)
      have HMn := Lib.hid fun n => gmin_any (wr.drewN n) p GZ ⟨hG.out.b, hG.out.l, hG.out.n⟩
      have HMx := Lib.hid fun n => gmax_any (wr.drewN n) p GZ ⟨hG.out.b, hG.out.l, hG.out.n⟩
      obtain ⟨-, -, -, -, m1, m2, -⟩ := HHd.out
      have HS1 := Lib.hid (HSm.out GZ.mn m1)
      have HS2 := Lib.hid (HSm.out GZ.mx m2)
      have HD : Hid (∀ n, Below wr.heap.size wr (wr.drewN n)) := fun n => ⟨rfl, rfl, rfl, Nat.le_refl _, fun _ _ => rfl⟩
      obtain ⟨⟨k0, k1, k2, k3⟩, -, -, -, -⟩ := cells_get hK.out
      clear m1 m2 HHd HSm
      have hjx := eq4 GZ.c GZ.o GZ.h GZ.l
      go_wp2_with (first | (go_at_call 21; refine HCt.out.mono ?_; rintro e w2 ⟨rfl, nd, rfl⟩) | (go_at_call 22; refine (HEn.out _ (below_chain hB.out (HD.out nd))).mono ?_; rintro e w3 ⟨rfl, ne, rfl⟩; have hK3 : Hid (Blk ((wr.drewN nd).drewN ne) q 38 (cells GZ)) := hK.out) | (go_at_call 23; refine (HMn.out _).mono ?_; rintro e w' ⟨rfl, rfl⟩) | (go_at_call 24; refine (HMx.out _).mono ?_; rintro e w' ⟨rfl, rfl⟩) | (go_at_call 14; first | (with_reducible refine (HS1.out _).mono ?_; rintro e w' ⟨rfl, rfl⟩) | (with_reducible refine (HS2.out _).mono ?_; rintro e w' ⟨rfl, rfl⟩)) | (go_at_call 10; refine (awake_ok _).mono ?_; rintro e w4 ⟨rfl, hb4⟩))
      go_ret
      exact ⟨rfl, below_chain (below_chain (w' := wr.drewN (nd + ne)) hB.out ⟨rfl, rfl, rfl, Nat.le_refl _, fun _ _ => rfl⟩) hb4⟩
theorem walk (W : World) (a : Option Addr) (len cap : Nat) (zs : List Nat) (hI : IsF W a len cap zs) (hr : len * 8 ≤ 140737488351232) :
    Calls Try.prog 7 #[.slice a len cap] W fun e w' => e = .returned (.bool true) ∧ Below W.heap.size W w' := by
  by_cases h : len ≤ 200
  · exact walk_short W a len cap zs hI h
  · exact walk_long W a len cap (by omega) (by omega)

/-! The row's step. -/
theorem own : ownKnob Try.prog.godebug = none := by kernel_rfl
theorem laidOut : laidOutB Try.prog = true := by kernel_rfl
set_option linter.unusedVariables false
set_option maxRecDepth 100000 in
theorem lifted (os : Os) (started : os.Started) (H : Type) (enc : TypeId × Value → H) :
    ReturnsInHanded {} Try.checked os 7 .any (Rows.gaugeCountsSpec.pre6 enc Try.prog Try.f7 Rows.gaugeCountsRow.domain false) (Rows.gaugeCountsSpec.post enc Try.prog Try.f7 false true false false) := by
  refine returnsInHanded_of_change_sized (C := Try.checked) own started (by kernel_rfl) Try.func7
    (ChangeSpec.witness6 (enc := enc) (C := Try.checked) false ⟨#[], #[.slice none 0 0], []⟩ 8 (by kernel_rfl) (by kernel_rfl) (by kernel_rfl) (by kernel_rfl)) ?_
  intro W base args ds gs before hval0 hW _ hsz0 _
  have hsz : (DataW.weightsEach Try.prog (Try.f7.params.toList ++ Rows.gaugeCountsSpec.plain.varTypes Try.prog) (ds ++ gs)).all (· ≤ reachBytes) = true := hsz0
  clear hsz0
  have hval : ∀ (j : Nat) t v, Try.f7.params[j]? = some t → args[j]? = some v → Value.okWide Try.prog W .any base t v := hval0
  have hW' := hW
  obtain ⟨p, q, hA0, hV, rfl, hfz, hnd⟩ := hW
  have hA : DataW.TrodAll enc Try.prog W 0 (fun _ => true) true Try.f7.params.toList args.toList ds p := hA0
  rw [Try.params7] at hA hval hsz
  obtain ⟨v0, vs0, d0, ds0, p0, q0, hargs, rfl, rfl, h0, r0⟩ := trodAll_cons hA
  obtain ⟨rfl, rfl, rfl⟩ := trodAll_nil r0
  obtain rfl : args = #[v0] := by cases args; simp_all
  obtain ⟨rfl, rfl⟩ := trodVars_none hV
  obtain ⟨a0, len0, cap0, rfl⟩ := okWide_slice Try.underlying22 (hval 0 22 v0 rfl rfl)
  have lt0 : ∀ x ∈ p0, x.block < W.heap.size := by obtain ⟨m, hm⟩ := h0; exact DataW.trod_lt m _ _ _ hm
  obtain ⟨⟨z0, w0⟩, hf0⟩ := open_f Try.underlying22 Try.underlying23 (by kernel_rfl) h0
  have rc0 := reach_slice hsz (j := 0) (e := 23) rfl rfl Try.underlying22 (k := 8) (by kernel_rfl) hf0
  clear hf0
  clear hA0 hval0
  refine (walk W a0 len0 cap0 z0 w0 rc0).mono fun e W' ⟨he, bel⟩ => ?_
  subst he
  exact ⟨_, rfl, _, _, _, [], _, [], hW', trodAll_mk1 (shut_bool Try.underlying4 _), (trodAll_cons_mk (Below.trod laidOut (by kernel_rfl) (of_decide_eq_true (by kernel_rfl)) h0 bel lt0) trodAll_mk0), rfl, bel.frame _, fun h => by cases h⟩

theorem over : Rows.gaugeCountsRow.holds Try.pinned (OpenSpec.ofChange Rows.gaugeCountsSpec) :=
  OpenClaim.holds_of_wide 7 Try.f7 rfl rfl rfl rfl rfl rfl rfl ⟨rfl, rfl, rfl, rfl, rfl⟩ rfl rfl rfl rfl rfl (by kernel_rfl) Try.func7 (by kernel_rfl)
    (of_decide_eq_true (by kernel_rfl)) (by unfold Func.isWrapper; first | (rw [if_pos (by decide +kernel)]; kernel_rfl) | (rw [if_neg (by decide +kernel)]; exact ⟨rfl, rfl⟩))
    (fun os started H enc _ => lifted os started H enc)

/-- THE STATEMENT. -/
theorem proved : Rows.GaugeCountsSaid := over

#print axioms proved
end Go.Proofs.Ytdjilhahafkpfaa.gaugeCounts
