/- Rows of tasks: the reference's Awake, Weight, Wake, Next. -/
import Derived.Test.YtpfdfbmoegajbaaGj
namespace Go.Proofs.Ytpfdfbmoegajbaa
open Go.RowKit Go.Deep
set_option maxRecDepth 100000
theorem below_drewN (w : World) (n : Nat) : Below w.heap.size w (w.drewN n) := ⟨rfl, rfl, rfl, Nat.le_refl _, fun _ _ => rfl⟩
set_option maxHeartbeats 1000000 in
theorem rawake_row (w : World) (p g cap : Nat) (T : List Tk) (h : RefAt w p g cap T) : Calls Try.prog 22 #[.pointer (some ⟨p, 0, none⟩)] w fun e w' => ∃ v, e = .returned v ∧ w'.ownsRow w.heap.size 3 1 v (awk T T.length).length (ints (awk T T.length)) ∧ Below w.heap.size w w' := by
  have H := Lib.hid h
  have c0 := h.c0
  have h8 := h.n8
  have hcap := h.hc
  have hmx := h.hm
  obtain ⟨cur, hb, -⟩ := h.blk
  have hgl := hb.lt
  clear hb h
  obtain ⟨i0, hi, hz0, hz1, hz2⟩ := info_parts infoIntG
  unfold maxLen at hmx
  go_enter Try.func22, Try.ntmps22
  go_wp2
  go_loopw [3, 4] (fun u t wr => ∃ i : Nat, t = .int .i64 i ∧ i ≤ T.length ∧ wr.ownsRow w.heap.size 3 1 u (awk T i).length (ints (awk T i)) ∧ Below w.heap.size w wr) (fun _ t _ => T.length - (intOf t).toNat)
  case atStart => exact ⟨0, rfl, Nat.zero_le _, ⟨rfl, Or.inl ⟨rfl, rfl⟩⟩, Below.refl _ _⟩
  case round =>
    obtain ⟨i, rfl, j1, hown, hB⟩ := hrel
    have hk0 : (0 : Int) ≤ (i : Int) := Int.natCast_nonneg _
    have c1 := (H.out.below hB).c0
    have hal := awk_le T i
    by_cases hlt : i < T.length
    · have hlt' : (i : Int) < (T.length : Int) := by omega
      obtain ⟨a0, a1, a2⟩ := (H.out.below hB).task hlt
      have HS := Lib.hid (awk_succ T i)
      generalize T.getD i tk0 = t at a0 a1 a2 HS
      obtain ⟨tb, tw, tp⟩ := t
      simp only at a0 a1 a2
      generalize awk T i = A at hown HS hal
      obtain ⟨va, vc, rfl⟩ := own_shape' hown
      have Hr : Hid (∀ k, (Value.slice va A.length vc).ownBlock = some k → w.heap.size ≤ k) := fun k hk => own_baseB hown hk
      have hBs := hB.size
      cases tb with
      | false =>
        have HS' : Hid (awk T (i + 1) = A) := by unfold Hid; rw [HS.out]; simp
        clear HS
        go_wp2
        go_roundw
        case rel => exact ⟨i + 1, by go_num, by omega, by rw [HS'.out]; exact hown, hB⟩
        case measure => simp only [intOf]; omega
      | true =>
        have HS' : Hid (awk T (i + 1) = A ++ [(i : Int)]) := by unfold Hid; rw [HS.out]; simp
        clear HS
        go_wp2_with (at_builtin; go_must (refine wpList_append_own _ rfl _ _ 42 rfl w.heap.size 3 i0 (.int .i64 0) 1 8 Try.underlying42 hi hz0 hz1 hz2 rfl (by decide) _ _ _ rfl (hown.alloc _) ⟨_, 0, none⟩ 1 1 [.int .i64 (i : Int)] rfl rfl (World.news_of_block (cs := #[.int .i64 (i : Int)]) (t := 3) (fr := (0, 0)) (heap_alloc_new' _ _ _ (by simp))) (by simp [Value.oneCell']) (by unfold maxLen; omega) (by omega) (by simp; omega) ?_); intro v4 w4 hown4 hgrow4 hnil4)
        have hB4 := (hB.alloc hB.size _).grown hgrow4 (by simp; omega) Hr.out
        go_roundw
        case rel => exact ⟨i + 1, by go_num, by omega, by rw [HS'.out]; unfold ints; rw [List.map_append, List.length_append]; exact hown4, hB4⟩
        case measure => simp only [intOf]; omega
    · obtain rfl : i = T.length := by omega
      obtain ⟨va, vc, rfl⟩ := own_shape' hown
      go_wp2
      go_ret
      exact ⟨_, rfl, hown, hB⟩
theorem rweight_out (w : World) (p g cap : Nat) (T : List Tk) (h : RefAt w p g cap T) (i : Int) (x : Nat) (hi : ¬ has T i) : Calls Try.prog 28 #[.pointer (some ⟨p, 0, none⟩), .int .i64 i, .float .f64 x] w fun e w' => e = .returned (.int .i64 1) ∧ w = w' := by
  have HF := Lib.hid (rhas_out w p g cap T h i hi)
  clear hi h
  go_enter Try.func28, Try.ntmps28
  go_wp2_with (go_at_call 35; refine HF.out.mono ?_; rintro e w' ⟨rfl, rfl⟩)
  go_ret
  exact ⟨rfl, rfl⟩
theorem rweight_in (w : World) (p g cap : Nat) (T : List Tk) (h : RefAt w p g cap T) (i : Nat) (hi : i < T.length) (x : Nat) (hx : x < 18446744073709551616) : Calls Try.prog 28 #[.pointer (some ⟨p, 0, none⟩), .int .i64 i, .float .f64 x] w fun e w' => e = .returned (.int .i64 0) ∧ ∃ n, w' = (w.drewN n).setCell ⟨g, i * 3 + 1, none⟩ (.float .f64 (wOf x)) := by
  have HF := Lib.hid (rhas_in w p g cap T h i hi)
  have c0 := h.c0
  have c2 := (h.task hi).2.1
  generalize (T.getD i tk0).2.1 = y at c2
  have f2 := h.froz (i * 3 + 1)
  have HX := Lib.hid hx
  have hi0 : (0 : Int) ≤ (i : Int) := Int.natCast_nonneg _
  have hi1 : (i : Int) < (T.length : Int) := by omega
  have HK : Hid (∀ (j : Nat) (v : Value), (w.setCell ⟨g, j, none⟩ v).drew.cell? ⟨p, 0, none⟩ = some (.slice (some ⟨g, 0, none⟩) T.length cap)) := fun j v => show (w.setCell ⟨g, j, none⟩ v).cell? ⟨p, 0, none⟩ = _ from (World.cell?_setCell_other _ _ _ _ (by intro e; injection e with e1 _ _; exact h.ne (by first | exact e1 | exact e1.symm))).trans h.c0
  unfold wOf
  clear h
  cases hN : FP.isNaN x with
  | true =>
    have hn0 : (FloatKind.f64.format.order x x == some Ordering.eq) = false := nan_eq (by rw [hN]; rfl)
    have hn : (FloatKind.f64.format.order x x != some Ordering.eq) = true := by unfold bne; rw [hn0]; rfl
    clear hn0
    have HC := Lib.hid fun w' => refClamp_any 4607182418800017408 4562146422526312448 4652218415073722368 (by omega) (by omega) (by omega) w'
    simp only [if_true]
    generalize FP.clampB 4607182418800017408 4562146422526312448 4652218415073722368 = z at HC ⊢
    clear hN hx
    go_enter Try.func28, Try.ntmps28
    go_wp2_with (first | (go_at_call 35; refine HF.out.mono ?_; rintro e w' ⟨rfl, rfl⟩))
    go_region_held3 (fun w' => w'.cell? ⟨p, 0, none⟩ = some (.slice (some ⟨g, 0, none⟩) T.length cap)) (first | exact c0 | exact HK.out _ _ | go_keep) (first | (go_at_call 36; refine (HC.out _).mono ?_; rintro e w' ⟨rfl, rfl⟩))
    all_goals
      go_wp2
      go_ret
      exact ⟨rfl, _, rfl⟩
  | false =>
    have hn0 : (FloatKind.f64.format.order x x == some Ordering.eq) = true := nan_eq (by rw [hN]; rfl)
    have hn : (FloatKind.f64.format.order x x != some Ordering.eq) = false := by unfold bne; rw [hn0]; rfl
    clear hn0
    have HC := Lib.hid fun w' => refClamp_any x 4562146422526312448 4652218415073722368 hx (by omega) (by omega) w'
    simp only [Bool.false_eq_true, if_false]
    generalize FP.clampB x 4562146422526312448 4652218415073722368 = z at HC ⊢
    clear hN hx
    go_enter Try.func28, Try.ntmps28
    go_wp2_with (first | (go_at_call 35; refine HF.out.mono ?_; rintro e w' ⟨rfl, rfl⟩))
    go_region_held3 (fun w' => w'.cell? ⟨p, 0, none⟩ = some (.slice (some ⟨g, 0, none⟩) T.length cap)) (first | exact c0 | exact HK.out _ _ | go_keep) (first | (go_at_call 36; refine (HC.out _).mono ?_; rintro e w' ⟨rfl, rfl⟩))
    all_goals
      go_wp2
      go_ret
      exact ⟨rfl, _, rfl⟩
theorem rweight_any (w : World) (p g cap : Nat) (T : List Tk) (h : RefAt w p g cap T) (i : Int) (x : Nat) (hx : x < 18446744073709551616) :
    Calls Try.prog 28 #[.pointer (some ⟨p, 0, none⟩), .int .i64 i, .float .f64 x] w fun e w' => e = .returned (.int .i64 (code T i)) ∧ RefAt w' p g cap (weightA T i x) ∧ OnlyG g w w' := by
  unfold code weightA
  by_cases hi : has T i
  · obtain ⟨j, rfl, hj⟩ := has_nat hi
    rw [if_pos hi, if_pos hi, Int.toNat_natCast]
    refine (rweight_in w p g cap T h j hj x hx).mono ?_
    rintro e w' ⟨rfl, n, rfl⟩
    exact ⟨rfl, (h.drewN n).weight hj _ (FP.clampB_lt (by split <;> omega) (by decide) (by decide)), onlyG_set (below_drewN _ n) _ _⟩
  · rw [if_neg hi, if_neg hi]
    refine (rweight_out w p g cap T h i x hi).mono ?_
    rintro e w' ⟨rfl, rfl⟩
    exact ⟨rfl, h, Fr.refl _ _⟩
end Go.Proofs.Ytpfdfbmoegajbaa
