/- RealFolds: for every list of numbers the law returns true. -/
import Derived.Test.YtjbpodpnefboiaaMm
namespace Go.Proofs.Ytjbpodpnefboiaa.realFolds
open Go.ChangeShapes Go.WideShapes Go.ChangeAt Go.RowKit
set_option maxRecDepth 100000
theorem min_21 (w : World) (g : Nat) (h0 : w.cell? ⟨g, 0, none⟩ = some (.float .f64 4611686018427387904)) (h1 : w.cell? ⟨g, 1, none⟩ = some (.float .f64 4607182418800017408)) :
    Calls Try.prog 26 #[.slice (some ⟨g, 0, none⟩) 2 2] w fun e w' => e = .returned (.float .f64 4607182418800017408) ∧ w = w' :=
  (min_row w g 0 2 [4611686018427387904, 4607182418800017408] (by simp) (fun i hi => by
    match i, hi with
    | 0, _ => exact h0
    | 1, _ => exact h1) (by unfold maxLen; omega) (by simp)).mono fun _ _ ⟨a, b⟩ => ⟨a.trans (ret_f64 (by decide +kernel)), b⟩
theorem walk_nil (W : World) (a : Option Addr) (cap : Nat) :
    Calls Try.prog 9 #[.slice a 0 cap] W fun e w' => e = .returned (.bool true) ∧ Below W.heap.size W w' := by
  have h1 : FP.minF [] = 9221120237041090561 := by decide +kernel
  have h2 : FP.maxF [] = 9221120237041090561 := by decide +kernel
  have h3 : (FloatKind.f64.format.order 9221120237041090561 9221120237041090561 != some Ordering.eq) = true := by decide +kernel
  have h4 : (FloatKind.f64.format.order 4607182418800017408 4607182418800017408 == some Ordering.eq) = true := by decide +kernel
  go_enter Try.func9, Try.ntmps9
  go_wp2_with (first | (go_at_call 26; with_reducible refine (min_nil _ _ _).mono ?_; rintro e w' ⟨rfl, rfl⟩) | (go_at_call 27; with_reducible refine (max_nil _ _ _).mono ?_; rintro e w' ⟨rfl, rfl⟩))
  refine (min_21 _ _ (by go_cell) (by go_cell)).mono ?_
  rintro e w' ⟨rfl, rfl⟩
  go_wp2
  go_ret
  exact ⟨rfl, by go_grown⟩
theorem info : (Try.prog.info? 22).map (fun i => (i.zero, i.size, i.bytes)) = some (some (.float .f64 0), 1, 8) := by kernel_rfl
set_option maxHeartbeats 4000000 in
theorem walk_some (W : World) (b off cap : Nat) (zs : List Nat) (hne : 0 < zs.length) (hb : b < W.heap.size) (hcap : zs.length ≤ cap) (hmax : cap ≤ maxLen) (hwf : ∀ n ∈ zs, n < 18446744073709551616) (hc : ∀ i, i < zs.length → W.cell? ⟨b, off + i, none⟩ = some (.float .f64 (zs.getD i 0))) (hr : zs.length * 8 ≤ 140737488351232) :
    Calls Try.prog 9 #[.slice (some ⟨b, off, none⟩) zs.length cap] W fun e w' => e = .returned (.bool true) ∧ Below W.heap.size W w' := by
  have hz : ((zs.length : Int) == 0) = false := by rw [beq_eq_false_iff_ne]; omega
  have HC := Lib.hid hc; clear hc
  have HW := Lib.hid hwf; clear hwf
  have Hmin := Lib.hid (FP.minF_lt HW.out)
  have Hmax := Lib.hid (FP.maxF_lt HW.out)
  go_enter Try.func9, Try.ntmps9
  go_wp2_with (first | (go_at_call 26; refine (min_row _ _ _ _ _ HW.out HC.out hmax hcap).mono ?_; rintro e w' ⟨rfl, rfl⟩) | (go_at_call 27; refine (max_row _ _ _ _ _ HW.out HC.out hmax hcap hne).mono ?_; rintro e w' ⟨rfl, rfl⟩))
  have Hne := Lib.hid (show zs ≠ [] by intro h; rw [h] at hne; simp at hne)
  obtain ⟨i0, hi, hz0, hz1, hz2⟩ := info_parts info
  generalize hmn : FP.minF zs = mn at Hmin
  generalize hmx : FP.maxF zs = mx at Hmax
  have Hmn := Lib.hid hmn; clear hmn
  have Hmx := Lib.hid hmx; clear hmx
  unfold maxLen at hmax
  go_loopw [5, 6, 7, 8] (fun f l v i wr => ∃ k : Nat, ∃ fb lb : Bool, k ≤ zs.length ∧ i = .int .i64 k ∧ f = .bool fb ∧ l = .bool lb ∧ Hid (fb = FP.hasB (zs.take k) mn ∧ lb = FP.hasB (zs.take k) mx) ∧ wr.ownsRow W.heap.size 22 1 v k ((zs.reverse.take k).map (Value.float .f64)) ∧ Below W.heap.size W wr) (fun _ _ _ i _ => zs.length - (intOf i).toNat)
  case atStart => exact ⟨0, false, false, Nat.zero_le _, rfl, rfl, rfl, ⟨rfl, rfl⟩, ⟨by simp, Or.inl ⟨rfl, rfl⟩⟩, Below.refl _ _⟩
  case round =>
    obtain ⟨k, fb, lb, hk, rfl, rfl, rfl, HF, hown, hB⟩ := hrel
    by_cases hlt : k < zs.length
    · have hcx : wr.cell? ⟨b, off + k, none⟩ = some (.float .f64 (zs.getD k 0)) := by rw [hB.cell (p := ⟨b, off + k, none⟩) hb]; exact HC.out k hlt
      have hcy : wr.cell? ⟨b, off + (zs.length - 1 - k), none⟩ = some (.float .f64 (zs.getD (zs.length - 1 - k) 0)) := by rw [hB.cell (p := ⟨b, off + (zs.length - 1 - k), none⟩) hb]; exact HC.out _ (by omega)
      have Hx := Lib.hid (FP.getD_lt HW.out k)
      have l1 : FP.ltB (zs.getD k 0) mn = false := FP.ltB_false (by have := FP.min_le (FP.getD_mem hlt); rw [Hmn.out] at this; omega)
      have l2 : FP.ltB mx (zs.getD k 0) = false := FP.ltB_false (by have := FP.max_ge (FP.getD_mem hlt); rw [Hmx.out] at this; omega)
      have Hs1 := Lib.hid (FP.has_snoc zs mn k hlt)
      have Hs2 := Lib.hid (FP.has_snoc zs mx k hlt)
      have Hr := Lib.hid (FP.rev_take zs k hlt)
      generalize zs.getD k 0 = x at hcx Hx l1 l2 Hs1 Hs2
      generalize zs.getD (zs.length - 1 - k) 0 = y at hcy Hr
      have Hone : Hid (∀ u ∈ [Value.float .f64 y], u.oneCell' = true) := by intro u hu; simp at hu; subst hu; rfl
      have hc3 : k + 1 ≤ maxLen := by unfold maxLen; omega
      have hc4 : (k + 1) * 8 ≤ 140737488355328 := by omega
      have Hc5 : Hid (W.heap.size ≤ (wr.alloc (.cells #[.float .f64 y] 22)).heap.size) := by have := hB.size; show _ ≤ _; simp; omega
      go_wp2_with (first | (at_builtin; go_must (refine wpList_append_own _ rfl _ _ 35 rfl W.heap.size 22 i0 (.float .f64 0) 1 8 Try.underlying35 hi hz0 hz1 hz2 rfl (by decide) _ _ _ rfl (hown.alloc _) ⟨wr.heap.size, 0, none⟩ 1 1 [.float .f64 y] rfl rfl (cell_one_new _ _ _) Hone.out hc3 hc4 Hc5.out ?_); intro v' w1 hown1 hgrow1 hnil1) | (go_at_call 13; refine (refLess_any _ _ _ (by first | exact Hid.out (by assumption) | omega) (by first | exact Hid.out (by assumption) | omega)).mono ?_; rintro e w' ⟨rfl, rfl⟩) | (go_at_call 18; refine (same_any _ _ _ (by first | exact Hid.out (by assumption) | omega) (by first | exact Hid.out (by assumption) | omega)).mono ?_; rintro e w' ⟨rfl, rfl⟩))
      all_goals
        have hB1 : Below W.heap.size W w1 := (hB.alloc hB.size _).grown hgrow1 Hc5.out (fun q hq => own_base hown hq)
        go_roundw
        case rel => exact ⟨k + 1, _, _, by omega, by go_num, rfl, rfl, ⟨by rw [Hs1.out, ← HF.out.1]; simp [*], by rw [Hs2.out, ← HF.out.2]; simp [*]⟩, by rw [Hr.out, List.map_append]; exact hown1, hB1⟩
        case measure => simp [intOf]; omega
    · have hkl : k = zs.length := by omega
      have ht : zs.take k = zs := List.take_of_length_le (by omega)
      have hrt : zs.reverse.take k = zs.reverse := List.take_of_length_le (by simp; omega)
      have hf := HF.out
      rw [ht, ← Hmn.out, ← Hmx.out, FP.has_min Hne.out, FP.has_max Hne.out] at hf
      obtain ⟨rfl, rfl⟩ := hf
      obtain ⟨g, gc, rfl, hg, hgc, hgm, hcells⟩ := own_cells hown (by omega)
      rw [hrt] at hcells
      have hrl : zs.reverse.length = k := by simp [hkl]
      have Hrc := Lib.hid (show ∀ i, i < zs.reverse.length → wr.cell? ⟨g, 0 + i, none⟩ = some (.float .f64 (zs.reverse.getD i 0)) from fun i hi => hcells i _ (float_ne _ hi))
      have Hrw := Lib.hid (show ∀ n ∈ zs.reverse, n < 18446744073709551616 from fun n hn => HW.out n (by simpa using hn))
      have s1 : FP.sameB (FP.minF zs.reverse) mn = true := by rw [← Hmn.out]; simp [FP.sameB]; exact FP.min_perm (fun x => by simp)
      have s2 : FP.sameB (FP.maxF zs.reverse) mx = true := by rw [← Hmx.out]; simp [FP.sameB]; exact FP.max_perm (fun x => by simp)
      have Hq1 := Lib.hid (FP.minF_lt Hrw.out)
      have Hq2 := Lib.hid (FP.maxF_lt Hrw.out)
      clear hown hcells hrt ht
      have Hkl := Lib.hid hkl
      have Hm1 := Lib.hid (show Calls Try.prog 26 #[.slice (some ⟨g, 0, none⟩) k gc] wr fun e w' => e = .returned (.float .f64 (FP.minF zs.reverse)) ∧ wr = w' by
        have := min_row wr g 0 gc zs.reverse Hrw.out Hrc.out hgm (by omega)
        rw [hrl] at this; exact this)
      have Hm2 := Lib.hid (show Calls Try.prog 27 #[.slice (some ⟨g, 0, none⟩) k gc] wr fun e w' => e = .returned (.float .f64 (FP.maxF zs.reverse)) ∧ wr = w' by
        have := max_row wr g 0 gc zs.reverse Hrw.out Hrc.out hgm (by omega) (by omega)
        rw [hrl] at this; exact this)
      clear hkl hrl
      generalize FP.minF zs.reverse = r1 at s1 Hq1 Hm1
      generalize FP.maxF zs.reverse = r2 at s2 Hq2 Hm2
      go_wp2_with (first | (go_at_call 26; refine Hm1.out.mono ?_; rintro e w' ⟨rfl, rfl⟩) | (go_at_call 27; refine Hm2.out.mono ?_; rintro e w' ⟨rfl, rfl⟩) | (go_at_call 18; refine (same_any _ _ _ (by first | exact Hid.out (by assumption) | omega) (by first | exact Hid.out (by assumption) | omega)).mono ?_; rintro e w' ⟨rfl, rfl⟩))
      go_ret
      exact ⟨rfl, hB⟩
theorem walk (W : World) (a : Option Addr) (len cap : Nat) (zs : List Nat) (h : IsF W a len cap zs) (r : len * 8 ≤ 140737488351232) :
    Calls Try.prog 9 #[.slice a len cap] W fun e w' => e = .returned (.bool true) ∧ Below W.heap.size W w' := by
  obtain ⟨h1, h2, h3, h4, h5⟩ := h
  subst h1
  rcases h5 with rfl | ⟨b, off, rfl, hb, hc⟩
  · exact walk_nil W a cap
  · by_cases h0 : zs = []
    · subst h0; exact walk_nil W _ cap
    · exact walk_some W b off cap zs (List.length_pos_iff.2 h0) hb h2 h3 h4 hc r

/-! The row's step. -/
theorem own : ownKnob Try.prog.godebug = none := by kernel_rfl
theorem laidOut : laidOutB Try.prog = true := by kernel_rfl
set_option linter.unusedVariables false
set_option maxRecDepth 100000 in
theorem lifted (os : Os) (started : os.Started) (H : Type) (enc : TypeId × Value → H) :
    ReturnsInHanded {} Try.checked os 9 .any (Rows.realFoldsSpec.pre6 enc Try.prog Try.f9 Rows.realFoldsRow.domain false) (Rows.realFoldsSpec.post enc Try.prog Try.f9 false true false false) := by
  refine returnsInHanded_of_change_sized (C := Try.checked) own started (by kernel_rfl) Try.func9
    (ChangeSpec.witness6 (enc := enc) (C := Try.checked) false ⟨#[], #[.slice none 0 0], []⟩ 8 (by kernel_rfl) (by kernel_rfl) (by kernel_rfl) (by kernel_rfl)) ?_
  intro W base args ds gs before hval0 hW _ hsz0 _
  have hsz : (DataW.weightsEach Try.prog (Try.f9.params.toList ++ Rows.realFoldsSpec.plain.varTypes Try.prog) (ds ++ gs)).all (· ≤ reachBytes) = true := hsz0
  clear hsz0
  have hval : ∀ (j : Nat) t v, Try.f9.params[j]? = some t → args[j]? = some v → Value.okWide Try.prog W .any base t v := hval0
  have hW' := hW
  obtain ⟨p, q, hA0, hV, rfl, hfz, hnd⟩ := hW
  have hA : DataW.TrodAll enc Try.prog W 0 (fun _ => true) true Try.f9.params.toList args.toList ds p := hA0
  rw [Try.params9] at hA hval hsz
  obtain ⟨v0, vs0, d0, ds0, p0, q0, hargs, rfl, rfl, h0, r0⟩ := trodAll_cons hA
  obtain ⟨rfl, rfl, rfl⟩ := trodAll_nil r0
  obtain rfl : args = #[v0] := by cases args; simp_all
  obtain ⟨rfl, rfl⟩ := trodVars_none hV
  obtain ⟨a0, len0, cap0, rfl⟩ := okWide_slice Try.underlying35 (hval 0 35 v0 rfl rfl)
  have lt0 : ∀ x ∈ p0, x.block < W.heap.size := by obtain ⟨m, hm⟩ := h0; exact DataW.trod_lt m _ _ _ hm
  obtain ⟨⟨z0, w0⟩, hf0⟩ := open_f Try.underlying35 Try.underlying22 (by kernel_rfl) h0
  have rc0 := reach_slice hsz (j := 0) (e := 22) rfl rfl Try.underlying35 (k := 8) (by kernel_rfl) hf0
  clear hf0
  clear hA0 hval0
  refine (walk W a0 len0 cap0 z0 w0 rc0).mono fun e W' ⟨he, bel⟩ => ?_
  subst he
  exact ⟨_, rfl, _, _, _, [], _, [], hW', trodAll_mk1 (shut_bool Try.underlying4 _), (trodAll_cons_mk (Below.trod laidOut (by kernel_rfl) (of_decide_eq_true (by kernel_rfl)) h0 bel lt0) trodAll_mk0), rfl, bel.frame _, fun h => by cases h⟩

theorem over : Rows.realFoldsRow.holds Try.pinned (OpenSpec.ofChange Rows.realFoldsSpec) :=
  OpenClaim.holds_of_wide 9 Try.f9 rfl rfl rfl rfl rfl rfl rfl ⟨rfl, rfl, rfl, rfl, rfl⟩ rfl rfl rfl rfl rfl (by kernel_rfl) Try.func9 (by kernel_rfl)
    (of_decide_eq_true (by kernel_rfl)) (by unfold Func.isWrapper; first | (rw [if_pos (by decide +kernel)]; kernel_rfl) | (rw [if_neg (by decide +kernel)]; exact ⟨rfl, rfl⟩))
    (fun os started H enc _ => lifted os started H enc)

/-- THE STATEMENT. -/
theorem proved : Rows.RealFoldsSaid := over

#print axioms proved
end Go.Proofs.Ytjbpodpnefboiaa.realFolds
