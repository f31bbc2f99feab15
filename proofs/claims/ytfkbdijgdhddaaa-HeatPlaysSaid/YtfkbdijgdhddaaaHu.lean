/- Contract of the reference's Touch. -/
import Derived.Test.YtfkbdijgdhddaaaHs
namespace Go.Proofs.Ytfkbdijgdhddaaa
open Go.RowKit Go.Deep
set_option maxRecDepth 100000
theorem ref_tick (w : World) (p base : Nat) (half now : Int) (v : Value) (R : List Ent) (h : RefAt w p half now base v R) (hn : now < 1000000) : RefAt (w.setCell ⟨p, 1, none⟩ (.int .i64 (now + 1))) p half (now + 1) base v R := by
  refine ⟨?_, ?_, ?_, ?_, ?_, own_setCell h.own h.ne _, h.ne, h.h1, h.h2, by have := h.n0; omega, by omega, by have := h.len; omega, fun s hs => by have := h.sp s hs; omega⟩
  · rw [World.cell?_setCell_other _ _ _ _ (by simp)]; exact h.c0
  · exact World.cell?_setCell_same _ _ _ h.c1
  · rw [World.cell?_setCell_other _ _ _ _ (by simp)]; exact h.c2
  · rw [World.frozen?_setCell]; exact h.f1
  · rw [World.frozen?_setCell]; exact h.f2
theorem RefAt.drewN {w : World} {p base : Nat} {half now : Int} {v : Value} {R : List Ent} (h : RefAt w p half now base v R) (n : Nat) : RefAt (w.drewN n) p half now base v R :=
  ⟨h.c0, h.c1, h.c2, h.f1, h.f2, h.own, h.ne, h.h1, h.h2, h.n0, h.n1, h.len, h.sp⟩
theorem grown_frozen {w w' : World} {row : Option Nat} {a : Addr} (hg : w.grownBy w' row) (hlt : a.block < w.heap.size) (hne : some a.block ≠ row) : w'.frozen? a = w.frozen? a := World.frozen?_of_block (w := w) (a := a) (hg.block a.block hlt hne)
/-- The last part of Touch: the entry is laid. -/
def touchR (R : List Ent) (k : Int) (x : Nat) (now : Int) : List Ent := keepS k R ++ [(k, x, now)]
theorem ref_lay {w w3 w4 : World} {p base : Nat} {half now : Int} {v3 : Value} {A : List Ent} {k : Int} {x : Nat} {O : Obj} {g cap : Nat} (F3 : Fr (fun q => q = p) w w3) (H3 : RefAt w3 p half now base v3 A) (Q3 : ∀ q, v3.ownBlock = some q → w.heap.size ≤ q) (hp : p < w.heap.size)
    (hx : x < 18446744073709551616) (hl : A.length + 1 ≤ now)
    (hown : w4.ownsRow base 61 3 (.slice (some ⟨g, 0, none⟩) (A.length + 1) cap) (A.length + 1) (flat A ++ [.int .i64 k, .float .f64 x, .int .i64 now]))
    (hgrow : (w3.alloc O).drew.grownBy w4 v3.ownBlock) (hat : v3.ownBlock = some g ∨ g = w3.heap.size + 1) :
    RefAt (w4.setCell ⟨p, 2, none⟩ (.slice (some ⟨g, 0, none⟩) (A.length + 1) cap)) p half now base (.slice (some ⟨g, 0, none⟩) (A.length + 1) cap) (A ++ [(k, x, now)]) ∧ (∀ q, (Value.slice (some ⟨g, 0, none⟩) (A.length + 1) cap).ownBlock = some q → w.heap.size ≤ q) ∧ Fr (fun q => q = p) w (w4.setCell ⟨p, 2, none⟩ (.slice (some ⟨g, 0, none⟩) (A.length + 1) cap)) := by
  have hs3 := F3.size
  have hg : w.heap.size ≤ g := by
    rcases hat with e | e
    · exact Q3 g e
    · omega
  have lp : p < w3.heap.size := by omega
  have sz : (w3.alloc O).drew.heap.size = w3.heap.size + 1 := by show (w3.alloc O).heap.size = _; simp
  have hne : (Value.slice (some ⟨g, 0, none⟩) (A.length + 1) cap).ownBlock ≠ some p := by
    intro e
    simp [Value.ownBlock] at e
    omega
  have cell : ∀ o, w4.cell? ⟨p, o, none⟩ = w3.cell? ⟨p, o, none⟩ := fun o =>
    (hgrow.cell_far ⟨p, o, none⟩ (by rw [sz]; show p < _; omega) (Ne.symm H3.ne)).trans (World.cell?_alloc_past _ _ _ lp)
  have froz : ∀ o, w4.frozen? ⟨p, o, none⟩ = w3.frozen? ⟨p, o, none⟩ := fun o =>
    (grown_frozen (a := ⟨p, o, none⟩) hgrow (by rw [sz]; show p < _; omega) (Ne.symm H3.ne)).trans (World.frozen?_alloc_old _ _ _ (Nat.ne_of_lt lp))
  refine ⟨⟨?_, ?_, ?_, ?_, ?_, ?_, hne, H3.h1, H3.h2, H3.n0, H3.n1, by simp; omega, ?_⟩, ?_, ?_⟩
  · rw [World.cell?_setCell_other _ _ _ _ (by simp), cell]; exact H3.c0
  · rw [World.cell?_setCell_other _ _ _ _ (by simp), cell]; exact H3.c1
  · exact World.cell?_setCell_same _ _ _ ((cell 2).trans H3.c2)
  · rw [World.frozen?_setCell, froz]; exact H3.f1
  · rw [World.frozen?_setCell, froz]; exact H3.f2
  · rw [flat_append, List.length_append]
    exact own_setCell hown hne _
  · intro s hs
    rcases List.mem_append.1 hs with h | h
    · exact H3.sp s h
    · simp at h; subst h; exact ⟨hx, H3.n0, Int.le_refl _⟩
  · intro q hq
    simp [Value.ownBlock] at hq
    omega
  · refine Fr.setCell (S := fun q => q = p) ?_ (x := ⟨p, 2, none⟩) (Or.inl rfl) _
    exact ((F3.alloc O).drew).grown hgrow (fun q hq => Or.inr (Q3 q hq))
set_option maxHeartbeats 2000000 in
theorem refTouch_at (w : World) (p base : Nat) (half now : Int) (v : Value) (R : List Ent) (h : RefAt w p half now base v R) (hbase : base ≤ w.heap.size) (hn : now < 1000000) (hR : R.length + 1 ≤ now + 1) (k : Int) (by_ : Nat) :
    Calls Try.prog 24 #[.pointer (some ⟨p, 0, none⟩), .int .i64 k, .float .f64 by_] w fun e w' => e = .returned (.tuple #[]) ∧ (∃ v', RefAt w' p half (now + 1) base v' (touchR R k (addR (refVal half (now + 1) R k) by_) (now + 1)) ∧ (∀ q, v'.ownBlock = some q → w.heap.size ≤ q)) ∧ Fr (fun q => q = p) w w' := by
  have H := Lib.hid h
  have c1 := h.c1
  have f1 := h.f1
  have n0 := h.n0
  have lp := World.block_lt_of_cell? w _ c1
  have H1 := Lib.hid (ref_tick w p base half now v R h hn)
  clear h
  obtain ⟨i0, hi, hz0, hz1, hz2⟩ := info_parts infoSpot
  go_enter Try.func24, Try.ntmps24
  go_wp2_with fail
  obtain ⟨W1, hW1⟩ : ∃ W1, W1 = w.setCell ⟨p, 1, none⟩ (.int .i64 (now + 1)) := ⟨_, rfl⟩
  have F1 : Hid (Fr (fun q => q = p) w W1) := by subst hW1; exact Fr.setCell (S := fun q => q = p) (Fr.refl _ _) (x := ⟨p, 1, none⟩) (Or.inl rfl) _
  rw [← hW1] at H1
  rw [← hW1]
  clear hW1 c1 f1
  refine (refOf_at W1 p base half (now + 1) v R H1.out k).mono ?_
  rintro e w2 ⟨rfl, nd, rfl⟩
  generalize hy : refVal half (now + 1) R k = y
  have HY := Lib.hid hy; clear hy
  cases hadd : Ieee.double.add y by_ with
  | some r =>
    have had := run_add_some hadd
    have Hr : Hid (addR y by_ = rightB r) := by unfold Hid addR; rw [hadd]
    clear hadd
    go_wp2_with (go_at_call 20; refine (refRight_any _ _).mono ?_; rintro e w' ⟨rfl, rfl⟩)
    have hb1 : base ≤ W1.heap.size := by have := F1.out.size; omega
    refine (refDrop_at _ p base half (now + 1) v R (H1.out.drewN nd) hb1 k).mono ?_
    rintro e w3 ⟨rfl, ⟨v3, h3, q3⟩, f3⟩
    have F3 := Lib.hid (F1.out.trans ((Fr.drewN (Fr.refl _ W1) nd).trans f3))
    have d1 := h3.c1
    have d2 := h3.c2
    have g2 := h3.f2
    have own3 := h3.own
    have ne3 := h3.ne
    have len3 := keep_le k R
    have H3 := Lib.hid h3; clear h3 f3
    generalize hA : keepS k R = A at own3 len3 H3
    have HA := Lib.hid hA; clear hA
    have lq := World.block_lt_of_cell? w3 _ d1
    have Q3 := Lib.hid q3; clear q3
    have hB3 : base ≤ w3.heap.size := by have := F3.out.size; omega
    go_wp2_with fail
    go_region_law (first | (refine step_append_lies _ (by rfl) _ _ _ (by rfl) base 61 i0 _ 3 24 Try.underlying49 hi hz0 hz1 hz2 rfl (by omega) v3 A.length (flat A) (by rfl) ((own3.alloc _).drew) ⟨w3.heap.size, 0, none⟩ 1 1 [.int .i64 k, .float .f64 (rightB r), .int .i64 (now + 1)] (by rfl) (by rfl) (World.news_of_block (cs := #[.int .i64 k, .float .f64 (rightB r), .int .i64 (now + 1)]) (t := 61) (fr := (0, 0)) (heap_alloc_new w3 _)) (one3 _ _ _) (by omega) (by unfold maxLen; omega) (by omega) (by simp; omega) (w3.heap.size + 1) (by simp) ?_; intro gg cap w4 hown4 hgrow4 hat4 hlt4; have r2 : w4.cell? ⟨p, 2, none⟩ = some v3 := (hgrow4.cell_far _ (by simp; omega) (Ne.symm ne3)).trans ((World.cell?_alloc_past _ _ _ lq).trans d2); have r3 : w4.frozen? ⟨p, 2, none⟩ = false := (grown_frozen hgrow4 (by simp; omega) (Ne.symm ne3)).trans ((World.frozen?_alloc_old _ _ _ (Nat.ne_of_lt lq)).trans g2)))
    all_goals
      go_wp2
      go_end0
      have hfin := ref_lay F3.out H3.out (fun q hq => Nat.le_trans F1.out.size (Q3.out q hq)) lp (by rw [← Hr.out]; exact addR_lt _ _) (by omega) hown4 hgrow4 hat4
      exact ⟨rfl, ⟨_, by unfold touchR; rw [HA.out, HY.out, Hr.out]; exact hfin.1, hfin.2.1⟩, hfin.2.2⟩
  | none =>
    have had := run_add_none hadd
    have Hr : Hid (addR y by_ = 0) := by unfold Hid addR; rw [hadd]
    clear hadd
    go_wp2_with (go_at_call 20; refine (refRight_any _ _).mono ?_; rw [right_nanOf]; rintro e w' ⟨rfl, rfl⟩)
    have hb1 : base ≤ W1.heap.size := by have := F1.out.size; omega
    refine (refDrop_at _ p base half (now + 1) v R (H1.out.drewN (nd + 1)) hb1 k).mono ?_
    rintro e w3 ⟨rfl, ⟨v3, h3, q3⟩, f3⟩
    have F3 := Lib.hid (F1.out.trans ((Fr.drewN (Fr.refl _ W1) (nd + 1)).trans f3))
    have d1 := h3.c1
    have d2 := h3.c2
    have g2 := h3.f2
    have own3 := h3.own
    have ne3 := h3.ne
    have len3 := keep_le k R
    have H3 := Lib.hid h3; clear h3 f3
    generalize hA : keepS k R = A at own3 len3 H3
    have HA := Lib.hid hA; clear hA
    have lq := World.block_lt_of_cell? w3 _ d1
    have Q3 := Lib.hid q3; clear q3
    have hB3 : base ≤ w3.heap.size := by have := F3.out.size; omega
    go_wp2_with fail
    go_region_law (first | (refine step_append_lies _ (by rfl) _ _ _ (by rfl) base 61 i0 _ 3 24 Try.underlying49 hi hz0 hz1 hz2 rfl (by omega) v3 A.length (flat A) (by rfl) ((own3.alloc _).drew) ⟨w3.heap.size, 0, none⟩ 1 1 [.int .i64 k, .float .f64 0, .int .i64 (now + 1)] (by rfl) (by rfl) (World.news_of_block (cs := #[.int .i64 k, .float .f64 0, .int .i64 (now + 1)]) (t := 61) (fr := (0, 0)) (heap_alloc_new w3 _)) (one3 _ _ _) (by omega) (by unfold maxLen; omega) (by omega) (by simp; omega) (w3.heap.size + 1) (by simp) ?_; intro gg cap w4 hown4 hgrow4 hat4 hlt4; have r2 : w4.cell? ⟨p, 2, none⟩ = some v3 := (hgrow4.cell_far _ (by simp; omega) (Ne.symm ne3)).trans ((World.cell?_alloc_past _ _ _ lq).trans d2); have r3 : w4.frozen? ⟨p, 2, none⟩ = false := (grown_frozen hgrow4 (by simp; omega) (Ne.symm ne3)).trans ((World.frozen?_alloc_old _ _ _ (Nat.ne_of_lt lq)).trans g2)))
    all_goals
      go_wp2
      go_end0
      have hfin := ref_lay F3.out H3.out (fun q hq => Nat.le_trans F1.out.size (Q3.out q hq)) lp (by rw [← Hr.out]; exact addR_lt _ _) (by omega) hown4 hgrow4 hat4
      exact ⟨rfl, ⟨_, by unfold touchR; rw [HA.out, HY.out, Hr.out]; exact hfin.1, hfin.2.1⟩, hfin.2.2⟩
end Go.Proofs.Ytfkbdijgdhddaaa
