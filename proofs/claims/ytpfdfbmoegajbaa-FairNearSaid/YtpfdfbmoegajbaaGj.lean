/- Rows of tasks: the reference's row, New, has, Sleep, Weight. -/
import Derived.Test.YtpfdfbmoegajbaaGi
import Derived.Test.YtpfdfbmoegajbaaRc
import Derived.Deep.RegionHeld3
import Derived.BigQuiet
namespace Go.Proofs.Ytpfdfbmoegajbaa
open Go.RowKit Go.Deep
set_option maxRecDepth 100000
/-- A row of tasks in memory: its slice in block p, the tasks in block g. -/
structure RefAt (w : World) (p g cap : Nat) (T : List Tk) : Prop where
  c0 : w.cell? ⟨p, 0, none⟩ = some (.slice (some ⟨g, 0, none⟩) T.length cap)
  blk : ∃ cur, Blk w g 50 cur ∧ cur.toList.take (T.length * 3) = flatT T
  ne : p ≠ g
  hc : T.length ≤ cap
  hm : cap ≤ maxLen
  n1 : 1 ≤ T.length
  n8 : T.length ≤ 8
  wf : ∀ t ∈ T, t.2.1 < 18446744073709551616 ∧ t.2.2 < 18446744073709551616
theorem RefAt.task {w : World} {p g cap : Nat} {T : List Tk} (h : RefAt w p g cap T) {i : Nat} (hi : i < T.length) :
    w.cell? ⟨g, i * 3, none⟩ = some (.bool (T.getD i tk0).1) ∧ w.cell? ⟨g, i * 3 + 1, none⟩ = some (.float .f64 (T.getD i tk0).2.1) ∧ w.cell? ⟨g, i * 3 + 2, none⟩ = some (.float .f64 (T.getD i tk0).2.2) := by
  obtain ⟨cur, hb, ht⟩ := h.blk
  have hf := flatT_get T i hi
  rw [← ht] at hf
  have at_ : ∀ j u, j < T.length * 3 → (cur.toList.take (T.length * 3))[j]? = some u → w.cell? ⟨g, j, none⟩ = some u := fun j u hj e => by
    rw [List.getElem?_take_of_lt hj] at e
    rw [hb.cell j]
    simpa using e
  exact ⟨at_ _ _ (by omega) hf.1, at_ _ _ (by omega) hf.2.1, at_ _ _ (by omega) hf.2.2⟩
theorem RefAt.froz {w : World} {p g cap : Nat} {T : List Tk} (h : RefAt w p g cap T) (j : Nat) : w.frozen? ⟨g, j, none⟩ = false := by
  obtain ⟨cur, hb, ht⟩ := h.blk
  exact hb.froz j
theorem RefAt.below {w w' : World} {p g cap : Nat} {T : List Tk} (h : RefAt w p g cap T) (hB : Below w.heap.size w w') : RefAt w' p g cap T := by
  obtain ⟨cur, hb, ht⟩ := h.blk
  exact ⟨(hB.cell (p := ⟨p, 0, none⟩) (World.block_lt_of_cell? w _ h.c0)).trans h.c0, ⟨cur, hb.below hB hb.lt, ht⟩, h.ne, h.hc, h.hm, h.n1, h.n8, h.wf⟩
theorem infoRefTask : (Try.prog.info? 50).map (fun i => (i.zero, i.size, i.bytes)) = some (some (.agg #[.bool false, .float .f64 0, .float .f64 0]), 3, 24) := by kernel_rfl
theorem RefAt.put {w : World} {p g cap : Nat} {T T' : List Tk} (h : RefAt w p g cap T) (j : Nat) (v : Value) (hl : T'.length = T.length) (hf : flatT T' = (flatT T).set j v) (hw : ∀ t ∈ T', t.2.1 < 18446744073709551616 ∧ t.2.2 < 18446744073709551616) : RefAt (w.setCell ⟨g, j, none⟩ v) p g cap T' := by
  obtain ⟨cur, hb, ht⟩ := h.blk
  refine ⟨?_, ⟨_, hb.set j v, ?_⟩, h.ne, by rw [hl]; exact h.hc, h.hm, by rw [hl]; exact h.n1, by rw [hl]; exact h.n8, hw⟩
  · rw [World.cell?_setCell_other _ _ _ _ (by intro e; exact h.ne (by injection e with e1 _ _; exact e1.symm)), hl]; exact h.c0
  · rw [Array.toList_setIfInBounds, List.take_set, hl, ht, hf]
theorem RefAt.wfD {w : World} {p g cap : Nat} {T : List Tk} (h : RefAt w p g cap T) {i : Nat} (hi : i < T.length) : (T.getD i tk0).2.1 < 18446744073709551616 ∧ (T.getD i tk0).2.2 < 18446744073709551616 :=
  h.wf _ (by rw [List.getD_eq_getElem?_getD, List.getElem?_eq_getElem hi]; exact List.getElem_mem hi)
theorem RefAt.awake {w : World} {p g cap : Nat} {T : List Tk} (h : RefAt w p g cap T) {i : Nat} (hi : i < T.length) (b : Bool) : RefAt (w.setCell ⟨g, i * 3, none⟩ (.bool b)) p g cap (T.set i (b, (T.getD i tk0).2)) :=
  h.put _ _ (by simp) (flatT_set0 T i b hi) (fun t ht => by rcases mem_set_of ht with rfl | ht; exact h.wfD hi; exact h.wf t ht)
theorem RefAt.weight {w : World} {p g cap : Nat} {T : List Tk} (h : RefAt w p g cap T) {i : Nat} (hi : i < T.length) (x : Nat) (hx : x < 18446744073709551616) : RefAt (w.setCell ⟨g, i * 3 + 1, none⟩ (.float .f64 x)) p g cap (T.set i ((T.getD i tk0).1, x, (T.getD i tk0).2.2)) :=
  h.put _ _ (by simp) (flatT_set1 T i x hi) (fun t ht => by rcases mem_set_of ht with rfl | ht; exact ⟨hx, (h.wfD hi).2⟩; exact h.wf t ht)
theorem RefAt.pass {w : World} {p g cap : Nat} {T : List Tk} (h : RefAt w p g cap T) {i : Nat} (hi : i < T.length) (x : Nat) (hx : x < 18446744073709551616) : RefAt (w.setCell ⟨g, i * 3 + 2, none⟩ (.float .f64 x)) p g cap (T.set i ((T.getD i tk0).1, (T.getD i tk0).2.1, x)) :=
  h.put _ _ (by simp) (flatT_set2 T i x hi) (fun t ht => by rcases mem_set_of ht with rfl | ht; exact ⟨(h.wfD hi).1, hx⟩; exact h.wf t ht)
theorem RefAt.other {w : World} {p g cap : Nat} {T : List Tk} (h : RefAt w p g cap T) {q : Nat} (h1 : q ≠ p) (h2 : q ≠ g) (j : Nat) (v : Value) : RefAt (w.setCell ⟨q, j, none⟩ v) p g cap T := by
  obtain ⟨cur, hb, ht⟩ := h.blk
  exact ⟨by rw [World.cell?_setCell_other _ _ _ _ (by intro e; injection e with e1 _ _; exact h1 (by first | exact e1 | exact e1.symm))]; exact h.c0, ⟨cur, hb.other h2 j v, ht⟩, h.ne, h.hc, h.hm, h.n1, h.n8, h.wf⟩
theorem RefAt.glt {w : World} {p g cap : Nat} {T : List Tk} (h : RefAt w p g cap T) : g < w.heap.size := World.block_lt_of_cell? w _ (h.task (i := 0) (by have := h.n1; omega)).1
theorem RefAt.drewN {w : World} {p g cap : Nat} {T : List Tk} (h : RefAt w p g cap T) (n : Nat) : RefAt (w.drewN n) p g cap T := h.below ⟨rfl, rfl, rfl, Nat.le_refl _, fun _ _ => rfl⟩
theorem rnew_bad (w : World) (n : Int) (h : n < 1 ∨ 8 < n) : Calls Try.prog 15 #[.int .i64 n] w fun e w' => e = .returned (.pointer none) ∧ w = w' := by
  rcases h with h | h
  all_goals
    go_enter Try.func15, Try.ntmps15
    go_wp2
    all_goals
      go_ret
      exact ⟨rfl, rfl⟩
set_option maxHeartbeats 1000000 in
theorem rnew_at (w : World) (n : Nat) (h1 : 1 ≤ n) (h8 : n ≤ 8) : Calls Try.prog 15 #[.int .i64 n] w fun e w' => ∃ g cap, e = .returned (.pointer (some ⟨w.heap.size, 0, none⟩)) ∧ RefAt w' w.heap.size g cap (fresh n) ∧ w.heap.size < g ∧ Below w.heap.size w w' := by
  have hi1 : ¬ (n : Int) < 1 := by omega
  have hi8 : ¬ 8 < (n : Int) := by omega
  obtain ⟨i0, hi, hz0, hz1, hz2⟩ := info_parts infoRefTask
  go_enter Try.func15, Try.ntmps15
  go_wp2
  go_loopw [4] (fun t wr => ∃ i : Nat, ∃ v : Value, t = .int .i64 i ∧ i ≤ n ∧ wr.cell? ⟨w.heap.size, 0, none⟩ = some v ∧ wr.frozen? ⟨w.heap.size, 0, none⟩ = false ∧ wr.ownsRow (w.heap.size + 1) 50 3 v i (flatT (fresh i)) ∧ Below w.heap.size w wr ∧ w.heap.size < wr.heap.size) (fun t _ => n - (intOf t).toNat)
  case atStart => exact ⟨0, .slice none 0 0, rfl, Nat.zero_le _, by go_cell, World.frozen?_alloc_at _ _ _ _ rfl, ⟨rfl, Or.inl ⟨rfl, rfl⟩⟩, (Below.refl _ _).alloc (Nat.le_refl _) _, by simp⟩
  case round =>
    obtain ⟨i, v, rfl, j1, c0, f0, hown, hB, hsz⟩ := hrel
    have hi0 : (0 : Int) ≤ (i : Int) := Int.natCast_nonneg _
    obtain ⟨va, vc, rfl⟩ := own_shape' hown
    have Hr : Hid (∀ k, (Value.slice va i vc).ownBlock = some k → w.heap.size ≤ k) := fun k hk => by have := own_baseB hown hk; omega
    have Hn : Hid (some w.heap.size ≠ (Value.slice va i vc).ownBlock) := fun h => by have := own_baseB hown h.symm; omega
    by_cases hlt : i < n
    · have hlt' : (i : Int) < (n : Int) := by omega
      go_wp2_with (at_builtin; go_must (refine wpList_append_own _ rfl _ _ 51 rfl (w.heap.size + 1) 50 i0 (.agg #[.bool false, .float .f64 0, .float .f64 0]) 3 24 Try.underlying51 hi hz0 hz1 hz2 rfl (by decide) _ _ _ rfl (hown.alloc _) ⟨wr.heap.size, 0, none⟩ 1 1 [.bool false, .float .f64 4607182418800017408, .float .f64 0] rfl rfl (World.news_of_block (cs := #[.bool false, .float .f64 4607182418800017408, .float .f64 0]) (t := 50) (fr := (0, 0)) (heap_alloc_new wr _)) (by simp [Value.oneCell']) (by unfold maxLen; omega) (by omega) (by simp; omega) ?_); intro v4 w4 hown4 hgrow4 hnil4; obtain ⟨g4, c4, rfl, hg4⟩ := own_some hown4 (by omega); have d0 := World.grownBy.cell hgrow4 ((World.cell?_alloc_past _ _ _ hsz).trans c0) Hn.out; have d1 : w4.frozen? ⟨w.heap.size, 0, none⟩ = false := (World.frozen?_of_block (w := wr.alloc _) (a := ⟨w.heap.size, 0, none⟩) (hgrow4.block _ (by simp; omega) Hn.out)).trans ((World.frozen?_alloc_old _ _ _ (Nat.ne_of_lt hsz)).trans f0))
      have hB4 := (hB.alloc hB.size _).grown hgrow4 (by simp; have := hB.size; omega) Hr.out
      have hs4 := hgrow4.size
      go_roundw
      case rel =>
        refine ⟨i + 1, .slice (some ⟨g4, 0, none⟩) (i + 1) c4, by go_num, by omega, World.cell?_setCell_same _ _ _ d0, by rw [World.frozen?_setCell]; exact d1, ?_, hB4.setCell (Nat.le_refl _) _, by simp at hs4 ⊢; omega⟩
        rw [fresh_succ, flatT_append]
        exact own_setCellB hown4 (by simp [Value.ownBlock]; omega) _
      case measure => simp only [intOf]; omega
    · obtain rfl : i = n := by omega
      obtain ⟨g, gc, e, hg⟩ := own_some hown (by omega)
      cases e
      have HO := Lib.hid hown; clear hown
      have HC := Lib.hid c0
      go_wp2
      go_ret
      refine ⟨g, vc, rfl, ?_, by omega, hB⟩
      obtain ⟨hl, ⟨e, -⟩ | ⟨g', cap', cur, e, hg', hh, hnc, hcm, hcs, ht⟩⟩ := HO.out
      · cases e
      · cases e
        have hfl : (fresh i).length = i := by simp [fresh]
        exact ⟨by rw [hfl]; exact HC.out, ⟨cur, hh, by rw [hfl]; exact ht⟩, by omega, by rw [hfl]; exact hnc, hcm, by rw [hfl]; exact h1, by rw [hfl]; exact h8, fun t ht' => by
          have := List.eq_of_mem_replicate ht'
          subst this
          exact ⟨by decide, by decide⟩⟩
theorem rhas_any (w : World) (p g cap : Nat) (T : List Tk) (h : RefAt w p g cap T) (i : Int) : Calls Try.prog 35 #[.pointer (some ⟨p, 0, none⟩), .int .i64 i] w fun e w' => e = .returned (.bool (decide (has T i))) ∧ w = w' := by
  have c0 := h.c0
  by_cases h0 : 0 ≤ i
  · have hd : decide (i ≥ 0) = true := decide_eq_true h0
    have e : decide (has T i) = decide (i < (T.length : Int)) := by unfold has; simp [h0]
    rw [e]
    clear hd
    go_enter Try.func35, Try.ntmps35
    go_wp2
    all_goals
      go_ret
      exact ⟨rfl, rfl⟩
  · have e : decide (has T i) = false := decide_eq_false (by unfold has; omega)
    have hd : decide (i ≥ 0) = false := decide_eq_false h0
    rw [e]
    clear e
    go_enter Try.func35, Try.ntmps35
    go_wp2
    all_goals
      go_ret
      exact ⟨rfl, rfl⟩
theorem rhas_in (w : World) (p g cap : Nat) (T : List Tk) (h : RefAt w p g cap T) (i : Nat) (hi : i < T.length) : Calls Try.prog 35 #[.pointer (some ⟨p, 0, none⟩), .int .i64 i] w fun e w' => e = .returned (.bool true) ∧ w = w' := by
  have := rhas_any w p g cap T h i
  rwa [decide_eq_true (by unfold has; omega)] at this
theorem rhas_out (w : World) (p g cap : Nat) (T : List Tk) (h : RefAt w p g cap T) (i : Int) (hi : ¬ has T i) : Calls Try.prog 35 #[.pointer (some ⟨p, 0, none⟩), .int .i64 i] w fun e w' => e = .returned (.bool false) ∧ w = w' := by
  have := rhas_any w p g cap T h i
  rwa [decide_eq_false hi] at this
theorem rsleep_any (w : World) (p g cap : Nat) (T : List Tk) (h : RefAt w p g cap T) (i : Int) :
    Calls Try.prog 30 #[.pointer (some ⟨p, 0, none⟩), .int .i64 i] w fun e w' => e = .returned (.int .i64 (code T i)) ∧ RefAt w' p g cap (sleepA T i) ∧ OnlyG g w w' := by
  unfold code sleepA
  by_cases hi : has T i
  · obtain ⟨j, rfl, hj⟩ := has_nat hi
    rw [if_pos hi, if_pos hi, Int.toNat_natCast]
    have HF := Lib.hid (rhas_in w p g cap T h j hj)
    have HE := Lib.hid (h.awake hj false)
    have c0 := h.c0
    have c2 := (h.task hj).1
    have f2 := h.froz (j * 3)
    have hj0 : (0 : Int) ≤ (j : Int) := Int.natCast_nonneg _
    have hj1 : (j : Int) < (T.length : Int) := by omega
    generalize T.set j (false, (T.getD j tk0).2) = T' at HE ⊢
    generalize (T.getD j tk0).1 = y at c2
    clear hi h
    go_enter Try.func30, Try.ntmps30
    go_wp2_with (go_at_call 35; refine HF.out.mono ?_; rintro e w' ⟨rfl, rfl⟩)
    go_ret
    exact ⟨rfl, HE.out, onlyG_set (Below.refl _ _) _ _⟩
  · rw [if_neg hi, if_neg hi]
    have HF := Lib.hid (rhas_out w p g cap T h i hi)
    have H := Lib.hid h
    clear hi h
    go_enter Try.func30, Try.ntmps30
    go_wp2_with (go_at_call 35; refine HF.out.mono ?_; rintro e w' ⟨rfl, rfl⟩)
    go_ret
    exact ⟨rfl, H.out, Fr.refl _ _⟩
end Go.Proofs.Ytpfdfbmoegajbaa
