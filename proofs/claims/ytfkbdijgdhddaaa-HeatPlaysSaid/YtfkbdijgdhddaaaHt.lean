/- Contract of Touch. -/
import Derived.Test.YtfkbdijgdhddaaaHa
namespace Go.Proofs.Ytfkbdijgdhddaaa
open Go.RowKit Go.Deep
set_option maxRecDepth 100000
set_option maxHeartbeats 4000000 in
theorem touch_at (w : World) (p b : Nat) (half now : Int) (L : List (Int × Spot)) (h : HeatAt w p half now b L) (hn : now < 1000000000) (k : Int) (by_ : Nat) :
    Calls Try.prog 9 #[.pointer (some ⟨p, 0, none⟩), .int .i64 k, .float .f64 by_] w fun e w' => e = .returned (.tuple #[]) ∧ HeatAt w' p half (now + 1) b (updS L k (addR (heatOf half (now + 1) (spotOf L k)) by_, now + 1)) ∧ Fr (fun q => q = p ∨ q = b) w w' := by
  have H := Lib.hid h
  obtain ⟨c0, c1, c2, fz, hm, h1, h2, n0, n1, hs⟩ := h
  clear hs hm
  have lp := World.block_lt_of_cell? w _ c0
  go_enter Try.func9, Try.ntmps9
  go_wp2_with fail
  obtain ⟨W1, hW1⟩ : ∃ W1, W1 = w.setCell ⟨p, 1, none⟩ (.int .i64 (now + 1)) := ⟨_, rfl⟩
  rw [← hW1]
  have H1 : Hid (HeatAt W1 p half (now + 1) b L) := by subst hW1; exact heat_tick w p b half now L H.out hn
  have hF : Hid (Fr (fun q => q = p ∨ q = b) w W1) := by subst hW1; exact (Fr.refl _ _).setCell (Or.inl (Or.inl rfl)) _
  have d1 : W1.cell? ⟨p, 1, none⟩ = some (.int .i64 (now + 1)) := H1.out.c1
  have d2 : W1.cell? ⟨p, 2, none⟩ = some (.map (some b)) := H1.out.c2
  have lq : p < W1.heap.size := World.block_lt_of_cell? W1 _ d1
  clear hW1 c0 c1 c2 fz lp
  have hlt := addR_lt (heatOf half (now + 1) (spotOf L k)) by_
  generalize hy : heatOf half (now + 1) (spotOf L k) = y at hlt
  have Hy := Lib.hid hy; clear hy
  have Hlt := Lib.hid hlt; clear hlt
  cases hadd : Ieee.double.add y by_ with
  | some r =>
    have had := run_add_some hadd
    have Hr : Hid (addR y by_ = rightB r) := by unfold Hid addR; rw [hadd]
    clear hadd
    go_region_held3 (fun w' => w'.cell? ⟨p, 1, none⟩ = some (.int .i64 (now + 1)) ∧ w'.cell? ⟨p, 2, none⟩ = some (.map (some b)))
      (first | go_keep | exact ⟨(hB.cell (p := ⟨p, 1, none⟩) lq).trans d1, (hB.cell (p := ⟨p, 2, none⟩) lq).trans d2⟩ | exact ⟨(heat_after H1.out hB k (by rw [← Hr.out]; exact Hlt.out) hI hG).c1, (heat_after H1.out hB k (by rw [← Hr.out]; exact Hlt.out) hI hG).c2⟩)
      ((first | (go_at_call 12; refine (of_at _ p b half (now + 1) L H1.out.drew k).mono ?_; rw [Hy.out]; rintro e w2 ⟨rfl, hB0⟩; have hB := below_undrew hB0; clear hB0; obtain ⟨w3, hrun, hI, hG⟩ := IM.Is.update (IM.Is.below H1.out.m hB H1.out.m.lt) Try.underlying52 Try.underlying3 k (.agg #[.float .f64 (rightB r), .int .i64 (now + 1)])) | (go_at_call 26; refine (right_any _ _).mono ?_; rintro e w' ⟨rfl, rfl⟩)))
    go_wp2
    go_end0
    refine ⟨rfl, ?_, (hF.out.trans (Fr.of_below hB)).grown hG (by intro q hq; cases hq; exact Or.inl (Or.inr rfl))⟩
    have := heat_after H1.out hB k (by rw [← Hr.out]; exact Hlt.out) hI hG
    rw [Hy.out, Hr.out]; exact this
  | none =>
    have had := run_add_none hadd
    have Hr : Hid (addR y by_ = 0) := by unfold Hid addR; rw [hadd]
    clear hadd
    go_region_with (first | (go_at_call 12; refine (of_at _ p b half (now + 1) L H1.out.drew k).mono ?_; rw [Hy.out]; rintro e w2 ⟨rfl, hB0⟩; have hB := below_undrew hB0; clear hB0; have f1 := (hB.cell (p := ⟨p, 1, none⟩) lq).trans d1; have f2 := (hB.cell (p := ⟨p, 2, none⟩) lq).trans d2; obtain ⟨w3, hrun, hI, hG⟩ := IM.Is.update (IM.Is.below H1.out.m hB.drew H1.out.m.lt) Try.underlying52 Try.underlying3 k (.agg #[.float .f64 0, .int .i64 (now + 1)])) | (go_at_call 26; refine (right_any _ _).mono ?_; rw [right_nanOf]; rintro e w' ⟨rfl, rfl⟩))
    all_goals
      go_wp2
      go_end0
      refine ⟨rfl, ?_, (hF.out.trans (Fr.of_below hB.drew)).grown hG (by intro q hq; cases hq; exact Or.inl (Or.inr rfl))⟩
      have := heat_after H1.out hB.drew k (by omega) hI hG
      rw [Hy.out, Hr.out]; exact this
end Go.Proofs.Ytfkbdijgdhddaaa
