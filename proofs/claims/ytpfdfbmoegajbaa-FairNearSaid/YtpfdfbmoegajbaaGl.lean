/- Rows of tasks: the reference's Next and Wake. -/
import Derived.Test.YtpfdfbmoegajbaaGk
namespace Go.Proofs.Ytpfdfbmoegajbaa
open Go.RowKit Go.Deep
set_option maxRecDepth 100000
theorem bestF_succ (T : List Tk) (n : Nat) : bestF T (awk T (n + 1)) = if (T.getD n tk0).1 then nb T (bestF T (awk T n)) n else bestF T (awk T n) := by
  rw [awk_succ]
  cases hN : (T.getD n tk0).1
  · simp
  · simp only [if_true]; unfold bestF; rw [List.foldl_append]; rfl
set_option maxHeartbeats 4000000 in
theorem rnext_any (w : World) (p g cap : Nat) (T : List Tk) (h : RefAt w p g cap T) (hf : Fit T) :
    Calls Try.prog 31 #[.pointer (some ⟨p, 0, none⟩)] w fun e w' => e = .returned (.tuple #[.int .i64 (nextK T), .bool (nextOk T)]) ∧ RefAt w' p g cap (nextT T) ∧ OnlyG g w w' := by
  have H := Lib.hid h
  have c0 := h.c0
  have h8 := h.n8
  have hcap := h.hc
  have hmx := h.hm
  have HF := Lib.hid hf
  clear hf h
  unfold maxLen at hmx
  go_enter Try.func31, Try.ntmps31
  go_wp2
  go_loopw [4, 5] (fun u t wr => ∃ k : Nat, ∃ b' : Int, t = .int .i64 k ∧ k ≤ T.length ∧ u = .int .i64 b' ∧ Hid (bestF T (awk T k) = b') ∧ (b' = -1 ∨ ∃ bn : Nat, b' = bn ∧ bn < T.length) ∧ ∃ n, wr = w.drewN n) (fun _ t _ => T.length - (intOf t).toNat)
  case atStart => exact ⟨0, -1, rfl, Nat.zero_le _, rfl, rfl, Or.inl rfl, 0, rfl⟩
  case round =>
    obtain ⟨k, b', rfl, j1, rfl, HBk, hb', nd, rfl⟩ := hrel
    have hk0 : (0 : Int) ≤ (k : Int) := Int.natCast_nonneg _
    by_cases hlt : k < T.length
    · have hlt' : (k : Int) < (T.length : Int) := by omega
      have HS := Lib.hid (bestF_succ T k)
      rw [HBk.out] at HS
      obtain ⟨a0, a1, a2⟩ := H.out.task hlt
      have wx := Lib.hid (H.out.wfD hlt).2
      have HG : Hid ((T.getD k tk0).2.2 = (T.getD k tk0).2.2) := rfl
      have HN : Hid (∀ bn : Nat, nb T (bn : Int) (k : Int) = if FP.ltB (T.getD k tk0).2.2 (T.getD bn tk0).2.2 then (k : Int) else (bn : Int)) := fun bn => nb_at T bn k
      generalize hT : (T.getD k tk0).2.2 = fx at a2 wx HN
      generalize hT1 : (T.getD k tk0).1 = tb at a0 HS
      clear hT hT1 HG a1
      cases tb with
      | false =>
        have HS' : Hid (bestF T (awk T (k + 1)) = b') := by unfold Hid; rw [HS.out]; rfl
        clear HS HN
        go_wp2
        go_quiet (fail)
        go_wp2
        go_roundw
        case rel => exact ⟨k + 1, b', by go_num, by omega, rfl, HS'.out, hb', nd + nq, by simp [World.drewN]⟩
        case measure => simp only [intOf]; omega
      | true =>
        rcases hb' with rfl | ⟨bn, rfl, hbn⟩
        · have HS' : Hid (bestF T (awk T (k + 1)) = k) := by unfold Hid; rw [HS.out]; rfl
          clear HS HN
          go_wp2
          go_quiet (fail)
          go_wp2
          go_roundw
          case rel => exact ⟨k + 1, k, by go_num, by omega, rfl, HS'.out, Or.inr ⟨k, rfl, hlt⟩, nd + nq, by simp [World.drewN]⟩
          case measure => simp only [intOf]; omega
        · have hb0 : (0 : Int) ≤ (bn : Int) := Int.natCast_nonneg _
          have hbn' : (bn : Int) < (T.length : Int) := by omega
          have hdec : decide ((bn : Int) < 0) = false := decide_eq_false (by omega)
          have hnb := HN.out bn
          have pb := (H.out.task hbn).2.2
          have wb := Lib.hid (H.out.wfD hbn).2
          have HS' : Hid (bestF T (awk T (k + 1)) = if FP.ltB fx (T.getD bn tk0).2.2 then (k : Int) else bn) := by unfold Hid; rw [HS.out, if_pos rfl]; exact hnb
          clear HS HN hnb
          generalize (T.getD bn tk0).2.2 = fb at pb wb HS'
          have HL := Lib.hid fun (w' : World) => refLess_any fx fb w' wx.out wb.out
          generalize FP.ltB fx fb = l at HL HS'
          cases l with
          | true =>
            go_wp2
            go_quiet (first | (go_at_call 37; exact (HL.out _).mono fun _ _ h => ⟨h.1, _, by first | exact h.2 | exact h.2.symm⟩))
            go_wp2
            go_roundw
            case rel => exact ⟨k + 1, k, by go_num, by omega, rfl, by rw [HS'.out]; rfl, Or.inr ⟨k, rfl, hlt⟩, nd + nq, by simp [World.drewN]⟩
            case measure => simp only [intOf]; omega
          | false =>
            go_wp2
            go_quiet (first | (go_at_call 37; exact (HL.out _).mono fun _ _ h => ⟨h.1, _, by first | exact h.2 | exact h.2.symm⟩))
            go_wp2
            go_roundw
            case rel => exact ⟨k + 1, bn, by go_num, by omega, rfl, by rw [HS'.out]; rfl, Or.inr ⟨bn, rfl, hbn⟩, nd + nq, by simp [World.drewN]⟩
            case measure => simp only [intOf]; omega
    · obtain rfl : k = T.length := by omega
      by_cases hne : awk T T.length = []
      · have e1 : nextK T = 0 := by unfold nextK; rw [if_pos hne]
        have e2 : nextOk T = false := by unfold nextOk; rw [hne]; rfl
        have e3 : nextT T = T := by unfold nextT; rw [if_pos hne]
        have eb : b' = -1 := by have := HBk.out; rw [hne] at this; exact this.symm
        have E1 := Lib.hid e1
        have E2 := Lib.hid e2
        have E3 := Lib.hid e3
        subst eb
        clear e1 e2 e3 hb' HBk hne
        go_wp2
        go_ret2
        exact ⟨by rw [E1.out, E2.out]; rfl, by rw [E3.out]; exact H.out.drewN _, Fr.of_below (below_drewN w nd)⟩
      · obtain ⟨b, hb, hbl, -, -⟩ := bestF_awk hne
        have ft := HF.out.at hbl
        have hq := fq_spec ft.1.1 ft.1.2
        have hs := fa_spec ft.2 (show fq (T.getD b tk0).2.1 ≤ 9218868437227405312 by omega)
        have eb : nextB T = b := by unfold nextB; rw [hb]; rfl
        have e1 : nextK T = (b : Int) := by unfold nextK; rw [if_neg hne, hb]
        have e2 : nextOk T = true := by unfold nextOk; simp [hne]
        have HE : Hid (∀ m, RefAt ((w.drewN m).setCell ⟨g, b * 3 + 2, none⟩ (.float .f64 (fa (T.getD b tk0).2.2 (fq (T.getD b tk0).2.1)))) p g cap (nextT T)) := fun m => by
          unfold nextT
          rw [if_neg hne, eb]
          exact (H.out.drewN m).pass hbl _ (by omega)
        have ebb : b' = (b : Int) := by rw [← HBk.out]; exact hb
        have E1 := Lib.hid e1
        have E2 := Lib.hid e2
        subst ebb
        have hfq := fun t w' => run_fquo hq.1 t w'
        have hfs := fun t w' => run_fadd hs.1 t w'
        have hb0 : (0 : Int) ≤ (b : Int) := Int.natCast_nonneg _
        have hbl' : (b : Int) < (T.length : Int) := by omega
        have hbneg : ¬ (b : Int) < 0 := by omega
        have pw := (H.out.task hbl).2.1
        have pp := (H.out.task hbl).2.2
        have pf := H.out.froz (b * 3 + 2)
        clear e1 e2 hq hs eb ft hb hne hb' HBk
        generalize fa (T.getD b tk0).2.2 (fq (T.getD b tk0).2.1) = s at HE hfs
        generalize fq (T.getD b tk0).2.1 = q at hfq hfs
        generalize (T.getD b tk0).2.1 = fw at pw hfq
        generalize (T.getD b tk0).2.2 = fp at pp hfs
        go_wp2
        go_region
        all_goals
          go_wp2
          go_ret2
          refine ⟨by rw [E1.out, E2.out]; rfl, ?_, onlyG_set (below_drewN w _) _ _⟩
          exact HE.out _
theorem passes_succ (T : List Tk) (k : Nat) : passes T (awk T (k + 1)) = passes T (awk T k) ++ (if (T.getD k tk0).1 then [(T.getD k tk0).2.2] else []) := by
  rw [awk_succ]
  unfold passes
  rw [List.map_append]
  cases (T.getD k tk0).1 <;> rfl
theorem minF_snoc (L : List Nat) (x : Nat) : FP.minF (L ++ [x]) = FP.stepMin (FP.minF L) x := by unfold FP.minF; rw [List.foldl_append]; rfl
theorem minF_one {x : Nat} (h : x ≤ 9218868437227405312) : FP.minF [x] = x := by
  show FP.stepMin 9221120237041090561 x = x
  unfold FP.stepMin
  rw [if_pos]
  unfold FP.ltB
  rw [FP.rank_pos h, FP.rank_dnan]
  simp; omega
theorem rwake_out (w : World) (p g cap : Nat) (T : List Tk) (h : RefAt w p g cap T) (i : Int) (hi : ¬ has T i) : Calls Try.prog 29 #[.pointer (some ⟨p, 0, none⟩), .int .i64 i] w fun e w' => e = .returned (.int .i64 1) ∧ w = w' := by
  have HF := Lib.hid (rhas_out w p g cap T h i hi)
  clear hi h
  go_enter Try.func29, Try.ntmps29
  go_wp2_with (go_at_call 35; refine HF.out.mono ?_; rintro e w' ⟨rfl, rfl⟩)
  go_ret
  exact ⟨rfl, rfl⟩
theorem rwake_on (w : World) (p g cap : Nat) (T : List Tk) (h : RefAt w p g cap T) (i : Nat) (hi : i < T.length) (ha : (T.getD i tk0).1 = true) : Calls Try.prog 29 #[.pointer (some ⟨p, 0, none⟩), .int .i64 i] w fun e w' => e = .returned (.int .i64 0) ∧ w = w' := by
  have HF := Lib.hid (rhas_in w p g cap T h i hi)
  have c0 := h.c0
  have c2 := (h.task hi).1
  rw [ha] at c2
  have hi0 : (0 : Int) ≤ (i : Int) := Int.natCast_nonneg _
  have hi1 : (i : Int) < (T.length : Int) := by omega
  clear ha h
  go_enter Try.func29, Try.ntmps29
  go_wp2_with (go_at_call 35; refine HF.out.mono ?_; rintro e w' ⟨rfl, rfl⟩)
  go_ret
  exact ⟨rfl, rfl⟩
set_option maxHeartbeats 4000000 in
theorem rwake_in (w : World) (p g cap : Nat) (T : List Tk) (h : RefAt w p g cap T) (hf : Fit T) (i : Nat) (hi : i < T.length) (ha : (T.getD i tk0).1 = false) :
    Calls Try.prog 29 #[.pointer (some ⟨p, 0, none⟩), .int .i64 i] w fun e w' => e = .returned (.int .i64 0) ∧ RefAt w' p g cap (wakeT T i (fa (FP.minF (passes T (awk T T.length))) 4652218415073722368)) ∧ OnlyG g w w' := by
  have H := Lib.hid h
  have HHas := Lib.hid (rhas_in w p g cap T h i hi)
  have c0 := h.c0
  have h8 := h.n8
  have hcap := h.hc
  have hmx := h.hm
  have hc1 := (h.task hi).1
  rw [ha] at hc1
  have HF := Lib.hid hf
  have hi0 : (0 : Int) ≤ (i : Int) := Int.natCast_nonneg _
  have hi1 : (i : Int) < (T.length : Int) := by omega
  clear hf h ha
  unfold maxLen at hmx
  go_enter Try.func29, Try.ntmps29
  go_wp2_with (go_at_call 35; refine HHas.out.mono ?_; rintro e w' ⟨rfl, rfl⟩)
  go_loopw [5, 6, 7] (fun s m t wr => ∃ k : Nat, t = .int .i64 k ∧ k ≤ T.length ∧ wr = w ∧ ((Hid (awk T k = []) ∧ s = .bool false ∧ m = .float .f64 0) ∨ (Hid (awk T k ≠ []) ∧ s = .bool true ∧ ∃ z, m = .float .f64 z ∧ Hid (z = FP.minF (passes T (awk T k)))))) (fun _ _ t _ => T.length - (intOf t).toNat)
  case atStart => exact ⟨0, rfl, Nat.zero_le _, rfl, Or.inl ⟨rfl, rfl, rfl⟩⟩
  case round =>
    obtain ⟨k, rfl, j1, hw, hst⟩ := hrel
    rw [hw]
    clear hw wr
    have hk0 : (0 : Int) ≤ (k : Int) := Int.natCast_nonneg _
    by_cases hlt : k < T.length
    · have hlt' : (k : Int) < (T.length : Int) := by omega
      have HA := Lib.hid (awk_succ T k)
      have HP := Lib.hid (passes_succ T k)
      obtain ⟨a0, a1, a2⟩ := H.out.task hlt
      have wx := Lib.hid (H.out.wfD hlt).2
      have px := Lib.hid (HF.out.at hlt).2
      generalize (T.getD k tk0).2.2 = fx at a2 wx HP px
      generalize (T.getD k tk0).1 = tb at a0 HA HP
      clear a1
      cases tb with
      | false =>
        have HA' : Hid (awk T (k + 1) = awk T k) := by unfold Hid; rw [HA.out]; simp
        clear HA HP
        rcases hst with ⟨hn, rfl, rfl⟩ | ⟨hn, rfl, z, rfl, hz⟩
        · go_wp2
          go_roundw
          case rel => exact ⟨k + 1, by go_num, by omega, (by first | rfl | trivial), Or.inl ⟨by rw [HA'.out]; exact hn, rfl, rfl⟩⟩
          case measure => simp only [intOf]; omega
        · go_wp2
          go_roundw
          case rel => exact ⟨k + 1, by go_num, by omega, (by first | rfl | trivial), Or.inr ⟨by rw [HA'.out]; exact hn, rfl, z, rfl, by rw [HA'.out]; exact hz⟩⟩
          case measure => simp only [intOf]; omega
      | true =>
        have HA' : Hid (awk T (k + 1) ≠ []) := by unfold Hid; rw [HA.out]; simp
        clear HA
        rcases hst with ⟨hn, rfl, rfl⟩ | ⟨hn, rfl, z, rfl, hz⟩
        · have HZ : Hid (fx = FP.minF (passes T (awk T (k + 1)))) := by
            unfold Hid
            rw [HP.out, hn.out]
            exact (minF_one px.out).symm
          clear HP
          go_wp2
          go_roundw
          case rel => exact ⟨k + 1, by go_num, by omega, (by first | rfl | trivial), Or.inr ⟨HA', rfl, fx, rfl, HZ⟩⟩
          case measure => simp only [intOf]; omega
        · have HZ : Hid (FP.minF (passes T (awk T (k + 1))) = FP.stepMin z fx) := by
            unfold Hid
            rw [HP.out, hz.out]
            exact minF_snoc _ _
          have wz : Hid (z < 18446744073709551616) := by
            unfold Hid
            rw [hz.out]
            exact FP.minF_lt fun n hn => by have := passes_pos HF.out j1 n hn; omega
          clear HP
          unfold FP.stepMin at HZ
          have HL := Lib.hid fun (w' : World) => refLess_any fx z w' wx.out wz.out
          generalize FP.ltB fx z = l at HL HZ
          cases l with
          | true =>
            go_wp2_with (go_at_call 37; refine (HL.out _).mono ?_; rintro e w' ⟨rfl, rfl⟩)
            go_roundw
            case rel => exact ⟨k + 1, by go_num, by omega, (by first | rfl | trivial), Or.inr ⟨HA', rfl, fx, rfl, by unfold Hid; rw [HZ.out]; rfl⟩⟩
            case measure => simp only [intOf]; omega
          | false =>
            go_wp2_with (go_at_call 37; refine (HL.out _).mono ?_; rintro e w' ⟨rfl, rfl⟩)
            go_roundw
            case rel => exact ⟨k + 1, by go_num, by omega, (by first | rfl | trivial), Or.inr ⟨HA', rfl, z, rfl, by unfold Hid; rw [HZ.out]; rfl⟩⟩
            case measure => simp only [intOf]; omega
    · obtain rfl : k = T.length := by omega
      have f1 := H.out.froz (i * 3)
      rcases hst with ⟨hn, rfl, rfl⟩ | ⟨hn, rfl, z, rfl, hz⟩
      · have HE : Hid (RefAt (w.setCell ⟨g, i * 3, none⟩ (.bool true)) p g cap (wakeT T i (fa (FP.minF (passes T (awk T T.length))) 4652218415073722368))) := by
          have h := H.out.awake hi true
          unfold wakeT
          rw [if_pos hn.out]; exact h
        go_wp2
        go_ret
        exact ⟨rfl, HE.out, onlyG_set (Below.refl _ _) _ _⟩
      · have hz2 := hz.out
        have hpp := passes_pos HF.out (Nat.le_refl T.length)
        have hm := minF_pos hpp (passes_ne (T := T) hn.out)
        have hml := hpp _ hm.1
        have ha := fa_spec hml (show 4652218415073722368 ≤ 9218868437227405312 by omega)
        have HE : Hid (∀ n, RefAt ((w.drewN n).setCell ⟨g, i * 3 + 2, none⟩ (.float .f64 (FP.clampB (T.getD i tk0).2.2 (FP.minF (passes T (awk T T.length))) (fa (FP.minF (passes T (awk T T.length))) 4652218415073722368)))) p g cap (T.set i ((T.getD i tk0).1, (T.getD i tk0).2.1, FP.clampB (T.getD i tk0).2.2 (FP.minF (passes T (awk T T.length))) (fa (FP.minF (passes T (awk T T.length))) 4652218415073722368)))) := fun n =>
          (H.out.drewN n).pass hi _ (FP.clampB_lt (H.out.wfD hi).2 (by omega) (by omega))
        obtain ⟨WT, hWT⟩ : ∃ WT, WT = wakeT T i (fa (FP.minF (passes T (awk T T.length))) 4652218415073722368) := ⟨_, rfl⟩
        have HWT := Lib.hid hWT
        have HE2 : Hid (∀ w2, RefAt w2 p g cap (T.set i ((T.getD i tk0).1, (T.getD i tk0).2.1, FP.clampB (T.getD i tk0).2.2 (FP.minF (passes T (awk T T.length))) (fa (FP.minF (passes T (awk T T.length))) 4652218415073722368))) → RefAt (w2.setCell ⟨g, i * 3, none⟩ (.bool true)) p g cap WT) := fun w2 h2 => by
          have h := h2.awake (i := i) (by simpa using hi) true
          rw [getD_set_self hi, List.set_set] at h
          rw [hWT]
          unfold wakeT
          rw [if_neg hn.out]; exact h
        have hy := (H.out.wfD hi).2
        have hpl := (H.out.task hi).2.2
        have hfs := fun t w' => run_fadd ha.1 t w'
        have f2 := H.out.froz (i * 3 + 2)
        have hsl : fa (FP.minF (passes T (awk T T.length))) 4652218415073722368 < 18446744073709551616 := by omega
        have hzl : FP.minF (passes T (awk T T.length)) < 18446744073709551616 := by omega
        rw [← hz2] at hfs hsl hzl
        have HCL := Lib.hid fun w' => refClamp_any (T.getD i tk0).2.2 z (fa z 4652218415073722368) hy hzl hsl w'
        rw [← hz2] at HE HE2
        have HK : Hid (∀ (j : Nat) (v : Value), (w.setCell ⟨g, j, none⟩ v).drew.cell? ⟨p, 0, none⟩ = some (.slice (some ⟨g, 0, none⟩) T.length cap)) := fun j v => show (w.setCell ⟨g, j, none⟩ v).cell? ⟨p, 0, none⟩ = _ from ((World.cell?_setCell_other _ _ _ _ (by intro e; injection e with e1 _ _; exact H.out.ne (by first | exact e1 | exact e1.symm))).trans H.out.c0)
        generalize FP.clampB (T.getD i tk0).2.2 z (fa z 4652218415073722368) = y at HCL HE HE2
        generalize hT1 : T.set i ((T.getD i tk0).1, (T.getD i tk0).2.1, y) = T1 at HE HE2
        have hl1 : Hid (T1.length = T.length) := by unfold Hid; rw [← hT1]; simp
        clear hT1
        generalize (T.getD i tk0).2.2 = fp at hpl HCL
        generalize fa z 4652218415073722368 = s at hfs HCL HE2
        clear hWT hz2 hz hm hml ha hy hsl hzl hpp
        go_wp2
        go_region_with (first | (go_at_call 36; refine (HCL.out _).mono ?_; rintro e w' ⟨rfl, rfl⟩))
        all_goals
          have h5 : Hid (RefAt (w.setCell ⟨g, i * 3 + 2, none⟩ (.float .f64 y)).drew p g cap T1) := HE.out 1
          have hB5 : Hid (OnlyG g w (w.setCell ⟨g, i * 3 + 2, none⟩ (.float .f64 y)).drew) := onlyG_set (below_drewN w 1) _ _
          generalize (w.setCell ⟨g, i * 3 + 2, none⟩ (.float .f64 y)).drew = w5 at h5 hB5 ⊢
          have d0 := h5.out.c0
          rw [hl1.out] at d0
          have d1 := (h5.out.task (i := i) (by rw [hl1.out]; exact hi)).1
          generalize (T1.getD i tk0).1 = tb at d1
          have d2 := h5.out.froz (i * 3)
          have HE3 := Lib.hid (HE2.out w5 h5.out)
          clear HE HE2 hl1 c0 hc1 f1 f2 hpl HK
          go_wp2
          go_ret
          exact ⟨rfl, by rw [← HWT.out]; exact HE3.out, hB5.out.trans (onlyG_set (Below.refl _ _) _ _)⟩
theorem rwake_any (w : World) (p g cap : Nat) (T : List Tk) (h : RefAt w p g cap T) (hf : Fit T) (i : Int) :
    Calls Try.prog 29 #[.pointer (some ⟨p, 0, none⟩), .int .i64 i] w fun e w' => e = .returned (.int .i64 (code T i)) ∧ RefAt w' p g cap (wakeA T i) ∧ OnlyG g w w' := by
  unfold code wakeA
  by_cases hi : has T i
  · obtain ⟨j, rfl, hj⟩ := has_nat hi
    rw [if_pos hi, if_pos hi, Int.toNat_natCast]
    by_cases ha : (T.getD j tk0).1 = true
    · rw [if_pos ha]
      refine (rwake_on w p g cap T h j hj ha).mono ?_
      rintro e w' ⟨rfl, rfl⟩
      exact ⟨rfl, h, Fr.refl _ _⟩
    · rw [if_neg ha]
      exact rwake_in w p g cap T h hf j hj (by simpa using ha)
  · rw [if_neg hi, if_neg hi]
    refine (rwake_out w p g cap T h i hi).mono ?_
    rintro e w' ⟨rfl, rfl⟩
    exact ⟨rfl, h, Fr.refl _ _⟩
end Go.Proofs.Ytpfdfbmoegajbaa
