/- Rows of tasks: what turns; rows that are none; Pass, Sleep, Weight. -/
import Derived.Test.YtpfdfbmoegajbaaGb
namespace Go.Proofs.Ytpfdfbmoegajbaa
open Go.RowKit Go.Deep
set_option maxRecDepth 100000
theorem flatT_set0 : ∀ (T : List Tk) (i : Nat) (b : Bool), i < T.length → flatT (T.set i (b, (T.getD i tk0).2)) = (flatT T).set (i * 3) (.bool b)
  | [], i, b, h => by simp at h
  | t :: T, 0, b, _ => by simp [flatT]
  | t :: T, i + 1, b, h => by
    have ih := flatT_set0 T i b (by simpa using h)
    rw [show (i + 1) * 3 = i * 3 + 3 by omega]
    simp only [List.set_cons_succ, flatT, List.getD_cons_succ]
    rw [ih]
theorem flatT_set1 : ∀ (T : List Tk) (i : Nat) (x : Nat), i < T.length → flatT (T.set i ((T.getD i tk0).1, x, (T.getD i tk0).2.2)) = (flatT T).set (i * 3 + 1) (.float .f64 x)
  | [], i, b, h => by simp at h
  | t :: T, 0, b, _ => by simp [flatT]
  | t :: T, i + 1, b, h => by
    have ih := flatT_set1 T i b (by simpa using h)
    rw [show (i + 1) * 3 + 1 = (i * 3 + 1) + 3 by omega]
    simp only [List.set_cons_succ, flatT, List.getD_cons_succ]
    rw [ih]
theorem flatT_set2 : ∀ (T : List Tk) (i : Nat) (x : Nat), i < T.length → flatT (T.set i ((T.getD i tk0).1, (T.getD i tk0).2.1, x)) = (flatT T).set (i * 3 + 2) (.float .f64 x)
  | [], i, b, h => by simp at h
  | t :: T, 0, b, _ => by simp [flatT]
  | t :: T, i + 1, b, h => by
    have ih := flatT_set2 T i b (by simpa using h)
    rw [show (i + 1) * 3 + 2 = (i * 3 + 2) + 3 by omega]
    simp only [List.set_cons_succ, flatT, List.getD_cons_succ]
    rw [ih]
theorem RowAt.put {w : World} {p g cap : Nat} {T T' : List Tk} (h : RowAt w p g cap T) (j : Nat) (v : Value) (hl : T'.length = T.length) (hf : flatT T' = (flatT T).set j v) (hw : ∀ t ∈ T', t.2.1 < 18446744073709551616 ∧ t.2.2 < 18446744073709551616) : RowAt (w.setCell ⟨g, j, none⟩ v) p g cap T' := by
  obtain ⟨cur, hb, ht⟩ := h.blk
  refine ⟨?_, ⟨_, hb.set j v, ?_⟩, h.ne, by rw [hl]; exact h.hc, h.hm, by rw [hl]; exact h.n1, by rw [hl]; exact h.n8, hw⟩
  · rw [World.cell?_setCell_other _ _ _ _ (by intro e; exact h.ne (by injection e with e1 _ _; exact e1.symm)), hl]; exact h.c0
  · rw [Array.toList_setIfInBounds, List.take_set, hl, ht, hf]
theorem mem_set_of {T : List Tk} {i : Nat} {t s : Tk} (h : s ∈ T.set i t) : s = t ∨ s ∈ T := (List.mem_or_eq_of_mem_set h).symm
theorem RowAt.wfD {w : World} {p g cap : Nat} {T : List Tk} (h : RowAt w p g cap T) {i : Nat} (hi : i < T.length) : (T.getD i tk0).2.1 < 18446744073709551616 ∧ (T.getD i tk0).2.2 < 18446744073709551616 :=
  h.wf _ (by rw [List.getD_eq_getElem?_getD, List.getElem?_eq_getElem hi]; exact List.getElem_mem hi)
theorem RowAt.awake {w : World} {p g cap : Nat} {T : List Tk} (h : RowAt w p g cap T) {i : Nat} (hi : i < T.length) (b : Bool) : RowAt (w.setCell ⟨g, i * 3, none⟩ (.bool b)) p g cap (T.set i (b, (T.getD i tk0).2)) :=
  h.put _ _ (by simp) (flatT_set0 T i b hi) (fun t ht => by rcases mem_set_of ht with rfl | ht; exact h.wfD hi; exact h.wf t ht)
theorem RowAt.weight {w : World} {p g cap : Nat} {T : List Tk} (h : RowAt w p g cap T) {i : Nat} (hi : i < T.length) (x : Nat) (hx : x < 18446744073709551616) : RowAt (w.setCell ⟨g, i * 3 + 1, none⟩ (.float .f64 x)) p g cap (T.set i ((T.getD i tk0).1, x, (T.getD i tk0).2.2)) :=
  h.put _ _ (by simp) (flatT_set1 T i x hi) (fun t ht => by rcases mem_set_of ht with rfl | ht; exact ⟨hx, (h.wfD hi).2⟩; exact h.wf t ht)
theorem RowAt.pass {w : World} {p g cap : Nat} {T : List Tk} (h : RowAt w p g cap T) {i : Nat} (hi : i < T.length) (x : Nat) (hx : x < 18446744073709551616) : RowAt (w.setCell ⟨g, i * 3 + 2, none⟩ (.float .f64 x)) p g cap (T.set i ((T.getD i tk0).1, (T.getD i tk0).2.1, x)) :=
  h.put _ _ (by simp) (flatT_set2 T i x hi) (fun t ht => by rcases mem_set_of ht with rfl | ht; exact ⟨(h.wfD hi).1, hx⟩; exact h.wf t ht)
theorem pass_nil (i : Int) (w : World) : Calls Try.prog 21 #[.pointer none, .int .i64 i] w fun e w' => e = .returned (.float .f64 0) ∧ w = w' := by
  go_enter Try.func21, Try.ntmps21
  go_wp2_with (go_at_call 24; refine (find_nil _ _).mono ?_; rintro e w' ⟨rfl, rfl⟩)
  go_ret
  exact ⟨rfl, rfl⟩
theorem pass_out (w : World) (p g cap : Nat) (T : List Tk) (h : RowAt w p g cap T) (i : Int) (hi : i < 0 ∨ (T.length : Int) ≤ i) : Calls Try.prog 21 #[.pointer (some ⟨p, 0, none⟩), .int .i64 i] w fun e w' => e = .returned (.float .f64 0) ∧ w = w' := by
  have HF := Lib.hid (find_out w p g cap T h i hi)
  go_enter Try.func21, Try.ntmps21
  go_wp2_with (go_at_call 24; refine HF.out.mono ?_; rintro e w' ⟨rfl, rfl⟩)
  go_ret
  exact ⟨rfl, rfl⟩
theorem pass_in (w : World) (p g cap : Nat) (T : List Tk) (h : RowAt w p g cap T) (i : Nat) (hi : i < T.length) : Calls Try.prog 21 #[.pointer (some ⟨p, 0, none⟩), .int .i64 i] w fun e w' => e = .returned (.float .f64 (T.getD i tk0).2.2) ∧ w = w' := by
  have HF := Lib.hid (find_in w p g cap T h i hi)
  have c2 := (h.task hi).2.2
  generalize (T.getD i tk0).2.2 = y at c2 ⊢
  go_enter Try.func21, Try.ntmps21
  go_wp2_with (go_at_call 24; refine HF.out.mono ?_; rintro e w' ⟨rfl, rfl⟩)
  go_ret
  exact ⟨rfl, rfl⟩
theorem sleep_nil (i : Int) (w : World) : Calls Try.prog 20 #[.pointer none, .int .i64 i] w fun e w' => e = .returned (.int .i64 5) ∧ w = w' := by
  go_enter Try.func20, Try.ntmps20
  go_wp2_with (go_at_call 24; refine (find_nil _ _).mono ?_; rintro e w' ⟨rfl, rfl⟩)
  go_ret
  exact ⟨rfl, rfl⟩
theorem sleep_out (w : World) (p g cap : Nat) (T : List Tk) (h : RowAt w p g cap T) (i : Int) (hi : i < 0 ∨ (T.length : Int) ≤ i) : Calls Try.prog 20 #[.pointer (some ⟨p, 0, none⟩), .int .i64 i] w fun e w' => e = .returned (.int .i64 1) ∧ w = w' := by
  have HF := Lib.hid (find_out w p g cap T h i hi)
  go_enter Try.func20, Try.ntmps20
  go_wp2_with (go_at_call 24; refine HF.out.mono ?_; rintro e w' ⟨rfl, rfl⟩)
  go_ret
  exact ⟨rfl, rfl⟩
theorem sleep_in (w : World) (p g cap : Nat) (T : List Tk) (h : RowAt w p g cap T) (i : Nat) (hi : i < T.length) : Calls Try.prog 20 #[.pointer (some ⟨p, 0, none⟩), .int .i64 i] w fun e w' => e = .returned (.int .i64 0) ∧ w' = w.setCell ⟨g, i * 3, none⟩ (.bool false) := by
  have HF := Lib.hid (find_in w p g cap T h i hi)
  have c2 := (h.task hi).1
  generalize (T.getD i tk0).1 = y at c2
  have f2 := h.froz (i * 3)
  go_enter Try.func20, Try.ntmps20
  go_wp2_with (go_at_call 24; refine HF.out.mono ?_; rintro e w' ⟨rfl, rfl⟩)
  go_ret
  exact ⟨rfl, rfl⟩
theorem weight_nil (i : Int) (x : Nat) (w : World) : Calls Try.prog 11 #[.pointer none, .int .i64 i, .float .f64 x] w fun e w' => e = .returned (.int .i64 5) ∧ w = w' := by
  go_enter Try.func11, Try.ntmps11
  go_wp2_with (go_at_call 24; refine (find_nil _ _).mono ?_; rintro e w' ⟨rfl, rfl⟩)
  go_ret
  exact ⟨rfl, rfl⟩
theorem weight_out (w : World) (p g cap : Nat) (T : List Tk) (h : RowAt w p g cap T) (i : Int) (x : Nat) (hi : i < 0 ∨ (T.length : Int) ≤ i) : Calls Try.prog 11 #[.pointer (some ⟨p, 0, none⟩), .int .i64 i, .float .f64 x] w fun e w' => e = .returned (.int .i64 1) ∧ w = w' := by
  have HF := Lib.hid (find_out w p g cap T h i hi)
  go_enter Try.func11, Try.ntmps11
  go_wp2_with (go_at_call 24; refine HF.out.mono ?_; rintro e w' ⟨rfl, rfl⟩)
  go_ret
  exact ⟨rfl, rfl⟩
theorem weight_in (w : World) (p g cap : Nat) (T : List Tk) (h : RowAt w p g cap T) (i : Nat) (hi : i < T.length) (x : Nat) (hx : x < 18446744073709551616) : Calls Try.prog 11 #[.pointer (some ⟨p, 0, none⟩), .int .i64 i, .float .f64 x] w fun e w' => e = .returned (.int .i64 0) ∧ w' = w.setCell ⟨g, i * 3 + 1, none⟩ (.float .f64 (FP.clampB (if FP.isNaN x then 4607182418800017408 else x) 4562146422526312448 4652218415073722368)) := by
  have HF := Lib.hid (find_in w p g cap T h i hi)
  have c2 := (h.task hi).2.1
  generalize (T.getD i tk0).2.1 = y at c2
  have f2 := h.froz (i * 3 + 1)
  have HX := Lib.hid hx
  cases hN : FP.isNaN x with
  | true =>
    have hn0 : (FloatKind.f64.format.order x x == some Ordering.eq) = false := nan_eq (by rw [hN]; rfl)
    have hn : (FloatKind.f64.format.order x x != some Ordering.eq) = true := by unfold bne; rw [hn0]; rfl
    clear hn0
    have HC := Lib.hid fun w' => clamp_any 4607182418800017408 4562146422526312448 4652218415073722368 (by omega) (by omega) (by omega) w'
    simp only [if_true]
    generalize FP.clampB 4607182418800017408 4562146422526312448 4652218415073722368 = z at HC ⊢
    clear hN hx
    go_enter Try.func11, Try.ntmps11
    go_wp2_with (first | (go_at_call 24; refine HF.out.mono ?_; rintro e w' ⟨rfl, rfl⟩) | (go_at_call 25; refine (HC.out _).mono ?_; rintro e w' ⟨rfl, rfl⟩))
    go_ret
    exact ⟨rfl, rfl⟩
  | false =>
    have hn0 : (FloatKind.f64.format.order x x == some Ordering.eq) = true := nan_eq (by rw [hN]; rfl)
    have hn : (FloatKind.f64.format.order x x != some Ordering.eq) = false := by unfold bne; rw [hn0]; rfl
    clear hn0
    have HC := Lib.hid fun w' => clamp_any x 4562146422526312448 4652218415073722368 hx (by omega) (by omega) w'
    simp only [Bool.false_eq_true, if_false]
    generalize FP.clampB x 4562146422526312448 4652218415073722368 = z at HC ⊢
    clear hN hx
    go_enter Try.func11, Try.ntmps11
    go_wp2_with (first | (go_at_call 24; refine HF.out.mono ?_; rintro e w' ⟨rfl, rfl⟩) | (go_at_call 25; refine (HC.out _).mono ?_; rintro e w' ⟨rfl, rfl⟩))
    go_ret
    exact ⟨rfl, rfl⟩
end Go.Proofs.Ytpfdfbmoegajbaa
