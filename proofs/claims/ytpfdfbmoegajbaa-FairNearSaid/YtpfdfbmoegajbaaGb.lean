/- Contract of the code's New; rows that are none. -/
import Derived.Test.YtpfdfbmoegajbaaGa
namespace Go.Proofs.Ytpfdfbmoegajbaa
open Go.RowKit Go.Deep
set_option maxRecDepth 100000
theorem below_chain {W0 w w' : World} (h : Below W0.heap.size W0 w) (k : Below w.heap.size w w') : Below W0.heap.size W0 w' := h.trans (k.mono h.size)
theorem fnew_bad (w : World) (n : Int) (h : n < 1 ∨ 8 < n) : Calls Try.prog 10 #[.int .i64 n] w fun e w' => e = .returned (.tuple #[.pointer none, .int .i64 1]) ∧ w = w' := by
  rcases h with h | h
  all_goals
    go_enter Try.func10, Try.ntmps10
    go_wp2
    all_goals
      go_ret2
      exact ⟨rfl, rfl⟩
set_option maxHeartbeats 1000000 in
theorem fnew_at (w : World) (n : Nat) (h1 : 1 ≤ n) (h8 : n ≤ 8) : Calls Try.prog 10 #[.int .i64 n] w fun e w' => ∃ g cap, e = .returned (.tuple #[.pointer (some ⟨w.heap.size, 0, none⟩), .int .i64 0]) ∧ RowAt w' w.heap.size g cap (fresh n) ∧ w.heap.size < g ∧ Below w.heap.size w w' := by
  have hi1 : ¬ (n : Int) < 1 := by omega
  have hi8 : ¬ 8 < (n : Int) := by omega
  obtain ⟨i0, hi, hz0, hz1, hz2⟩ := info_parts infoTask
  go_enter Try.func10, Try.ntmps10
  go_wp2
  go_loopw [14] (fun t wr => ∃ i : Nat, ∃ v : Value, t = .int .i64 i ∧ i ≤ n ∧ wr.cell? ⟨w.heap.size, 0, none⟩ = some v ∧ wr.frozen? ⟨w.heap.size, 0, none⟩ = false ∧ wr.ownsRow (w.heap.size + 1) 60 3 v i (flatT (fresh i)) ∧ Below w.heap.size w wr ∧ w.heap.size < wr.heap.size) (fun t _ => n - (intOf t).toNat)
  case atStart => exact ⟨0, .slice none 0 0, rfl, Nat.zero_le _, by go_cell, World.frozen?_alloc_at _ _ _ _ rfl, ⟨rfl, Or.inl ⟨rfl, rfl⟩⟩, (Below.refl _ _).alloc (Nat.le_refl _) _, by simp⟩
  case round =>
    obtain ⟨i, v, rfl, j1, c0, f0, hown, hB, hsz⟩ := hrel
    have hi0 : (0 : Int) ≤ (i : Int) := Int.natCast_nonneg _
    obtain ⟨va, vc, rfl⟩ := own_shape' hown
    have Hr : Hid (∀ k, (Value.slice va i vc).ownBlock = some k → w.heap.size ≤ k) := fun k hk => by have := own_baseB hown hk; omega
    have Hn : Hid (some w.heap.size ≠ (Value.slice va i vc).ownBlock) := fun h => by have := own_baseB hown h.symm; omega
    by_cases hlt : i < n
    · have hlt' : (i : Int) < (n : Int) := by omega
      go_wp2_with (at_builtin; go_must (refine wpList_append_own _ rfl _ _ 56 rfl (w.heap.size + 1) 60 i0 (.agg #[.bool false, .float .f64 0, .float .f64 0]) 3 24 Try.underlying56 hi hz0 hz1 hz2 rfl (by decide) _ _ _ rfl (hown.alloc _) ⟨wr.heap.size, 0, none⟩ 1 1 [.bool false, .float .f64 4607182418800017408, .float .f64 0] rfl rfl (World.news_of_block (cs := #[.bool false, .float .f64 4607182418800017408, .float .f64 0]) (t := 60) (fr := (0, 0)) (heap_alloc_new wr _)) (by simp [Value.oneCell']) (by unfold maxLen; omega) (by omega) (by simp; omega) ?_); intro v4 w4 hown4 hgrow4 hnil4; obtain ⟨g4, c4, rfl, hg4⟩ := own_some hown4 (by omega); have d0 := World.grownBy.cell hgrow4 ((World.cell?_alloc_past _ _ _ hsz).trans c0) Hn.out; have d1 : w4.frozen? ⟨w.heap.size, 0, none⟩ = false := (World.frozen?_of_block (w := wr.alloc _) (a := ⟨w.heap.size, 0, none⟩) (hgrow4.block _ (by simp; omega) Hn.out)).trans ((World.frozen?_alloc_old _ _ _ (Nat.ne_of_lt hsz)).trans f0))
      have hB4 := (hB.alloc hB.size _).grown hgrow4 (by simp; have := hB.size; omega) Hr.out
      have hs4 := hgrow4.size
      go_roundw
      case rel =>
        refine ⟨i + 1, .slice (some ⟨g4, 0, none⟩) (i + 1) c4, by go_num, by omega, World.cell?_setCell_same _ _ _ d0, by rw [World.frozen?_setCell]; exact d1, ?_, hB4.setCell (Nat.le_refl _) _, by simp at hs4 ⊢; omega⟩
        rw [fresh_succ, flatT_append]
        exact own_setCellB hown4 (by simp [Value.ownBlock]; omega) _
      case measure => simp only [intOf]; omega
    · obtain rfl : i = n := by omega
      obtain ⟨g, gc, e, hg⟩ := own_some hown (by omega)
      cases e
      have HO := Lib.hid hown; clear hown
      have HC := Lib.hid c0
      go_wp2
      go_ret2
      refine ⟨g, vc, rfl, ?_, by omega, hB⟩
      obtain ⟨hl, ⟨e, -⟩ | ⟨g', cap', cur, e, hg', hh, hnc, hcm, hcs, ht⟩⟩ := HO.out
      · cases e
      · cases e
        have hfl : (fresh i).length = i := by simp [fresh]
        exact ⟨by rw [hfl]; exact HC.out, ⟨cur, hh, by rw [hfl]; exact ht⟩, by omega, by rw [hfl]; exact hnc, hcm, by rw [hfl]; exact h1, by rw [hfl]; exact h8, fun t ht' => by
          have := List.eq_of_mem_replicate ht'
          subst this
          exact ⟨by decide, by decide⟩⟩
end Go.Proofs.Ytpfdfbmoegajbaa
