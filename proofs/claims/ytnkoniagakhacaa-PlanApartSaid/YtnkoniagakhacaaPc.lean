/- Contracts of the plan's Of out of range, and of the reference's Of. -/
import Derived.Test.YtnkoniagakhacaaPb
namespace Go.Proofs.Ytnkoniagakhacaa
open Go.RowKit Go.Deep
set_option maxRecDepth 100000
abbrev planZ : Value := .agg #[.int .i64 0, .int .i64 0, .int .i64 0, .slice none 0 0, .int .i64 0, .int .i64 0, .int .i64 0, .int .i64 0, .int .i64 0, .int .i64 0]
theorem out_cases {P B : Int} (h : ¬ ((1 ≤ P ∧ P ≤ 4096) ∧ (1 ≤ B ∧ B ≤ 256))) : P < 1 ∨ (¬ P < 1 ∧ 4096 < P) ∨ ((¬ P < 1 ∧ ¬ 4096 < P) ∧ B < 1) ∨ ((¬ P < 1 ∧ ¬ 4096 < P ∧ ¬ B < 1) ∧ 256 < B) := by omega
theorem planOf_out (w : World) (P B : Int) (h : ¬ ((1 ≤ P ∧ P ≤ 4096) ∧ (1 ≤ B ∧ B ≤ 256))) :
    Calls Try.prog 9 #[.int .i64 P, .int .i64 B] w fun e w' => e = .returned (.tuple #[planZ, .int .i64 1]) ∧ Below w.heap.size w w' := by
  rcases out_cases h with h1 | ⟨h1, h2⟩ | ⟨⟨h1, h2⟩, h3⟩ | ⟨⟨h1, h2, h3⟩, h4⟩ <;> clear h
  all_goals
    go_enter Try.func9, Try.ntmps9
    go_wp2
    refine bodyPost_ret (results_cell_tmp rfl _ _ _ _ _ _ rfl (heap_alloc_new w _) rfl rfl (by kernel_rfl)) rfl ?_
    exact ⟨rfl, (Below.refl _ _).alloc (Nat.le_refl _) _⟩
theorem refOf_out (w : World) (P B : Int) (h : ¬ ((1 ≤ P ∧ P ≤ 4096) ∧ (1 ≤ B ∧ B ≤ 256))) :
    Calls Try.prog 10 #[.int .i64 P, .int .i64 B] w fun e w' => e = .returned (.tuple #[planZ, .int .i64 1]) ∧ Below w.heap.size w w' := by
  rcases out_cases h with h1 | ⟨h1, h2⟩ | ⟨⟨h1, h2⟩, h3⟩ | ⟨⟨h1, h2, h3⟩, h4⟩ <;> clear h
  all_goals
    go_enter Try.func10, Try.ntmps10
    go_wp2
    refine bodyPost_ret (results_cell_tmp rfl _ _ _ _ _ _ rfl (heap_alloc_new w _) rfl rfl (by kernel_rfl)) rfl ?_
    exact ⟨rfl, (Below.refl _ _).alloc (Nat.le_refl _) _⟩
set_option maxHeartbeats 1000000 in
theorem refOf_in (w : World) (P B : Int) (hP : 1 ≤ P ∧ P ≤ 4096) (hB : 1 ≤ B ∧ B ≤ 256) :
    Calls Try.prog 10 #[.int .i64 P, .int .i64 B] w fun e w' => ∃ v, e = .returned (.tuple #[planV P B v, .int .i64 0]) ∧ w'.ownsRow (w.heap.size + 2) 3 1 v (levs (cnt P)).length (ints (levs (cnt P))) ∧ Below w.heap.size w w' := by
  go_enter Try.func10, Try.ntmps10
  go_wp2_with (go_at_call 24; (first | (with_reducible refine (begun_16 _ (by omega) _).mono ?_) | (with_reducible refine (begun_8 _ (by omega) _).mono ?_) | (with_reducible refine (begun_256 _ (by omega) _).mono ?_)); rintro e w' ⟨rfl, rfl⟩)
  obtain ⟨C, hC⟩ : ∃ C, C = (P + 16 - 1) / 16 := ⟨_, rfl⟩
  rw [← hC]
  have c1 : 1 ≤ C := by omega
  have c2 : C ≤ 256 := by omega
  have HCC := Lib.hid hC; clear hC
  have hR0 : Hid (levs C = [(C + 8 - 1) / 8] ++ rest [(C + 8 - 1) / 8] ((C + 8 - 1) / 8)) := by
    have h := rest_step (L := []) (n := C) (Or.inl rfl)
    simp only [List.nil_append] at h
    unfold Hid
    rw [List.singleton_append, ← h]
    simp [rest]
  go_loopw [7] (fun iv wr => ∃ (n : Int) (L : List Int) (v : Value), iv = .int .i64 n ∧ 1 ≤ n ∧ n ≤ C ∧ Hid (levs C = L ++ rest L n) ∧ 0 < L.length ∧ 0 ≤ lsum L ∧ lsum L + 2 * n ≤ 3 * C + 3 ∧ (L.length : Int) + n ≤ 1000 ∧ wr.ownsRow (w.heap.size + 2) 3 1 v L.length (ints L)
      ∧ Blk wr (w.heap.size + 1) 24 #[.int .i64 P, .int .i64 B, .int .i64 C, v, .int .i64 (lsum L), .int .i64 0, .int .i64 0, .int .i64 0, .int .i64 0, .int .i64 0]
      ∧ Blk wr w.heap.size 24 #[.int .i64 0, .int .i64 0, .int .i64 0, .slice none 0 0, .int .i64 0, .int .i64 0, .int .i64 0, .int .i64 0, .int .i64 0, .int .i64 0] ∧ Below w.heap.size w wr)
    (fun iv _ => (intOf iv).toNat)
  case atStart =>
    refine ⟨(C + 8 - 1) / 8, [(C + 8 - 1) / 8], .slice (some ⟨w.heap.size + 1 + 1, 0, none⟩) 1 1, rfl, by omega, by omega, hR0, Nat.zero_lt_one, by simp only [lsum]; omega, by simp only [lsum]; omega, by simp only [List.length_cons, List.length_nil]; omega, ⟨rfl, Or.inr ⟨w.heap.size + 1 + 1, 1, #[.int .i64 ((C + 8 - 1) / 8)], rfl, Nat.le_refl _, heap_alloc_new' _ _ _ (by simp), Nat.le_refl _, by unfold maxLen; omega, rfl, rfl⟩⟩, ?_, ?_, ?_⟩
    · simp only [lsum, Int.add_zero]
      exact Blk.alloc (heap_alloc_new' _ _ _ (by simp)) _
    · exact Blk.alloc (Blk.alloc (heap_alloc_new w _) _) _
    · exact (((Below.refl _ _).alloc (Nat.le_refl _) _).alloc (by simp) _).alloc (by simp; omega) _
  case round =>
    obtain ⟨n, L, v, rfl, n1, n2, HL, l0, s0, s1, l1, hown, hb1, hb0, hB⟩ := hrel
    obtain ⟨g, cc, rfl, hg⟩ := own_some hown l0
    obtain ⟨d0, d1, d2, d3, d4, d5, d6, d7, d8, d9⟩ := hb1.ten
    obtain ⟨i0, hi, hz0, hz1, hz2⟩ := info_parts infoIntP
    have hc3 : L.length + 1 ≤ maxLen := by unfold maxLen; omega
    have hc4 : (L.length + 1) * 8 ≤ 140737488355328 := by omega
    have hz := hB.size
    have hlt1 := hb1.lt
    have hne : w.heap.size + 1 ≠ w.heap.size := by omega
    by_cases h : 1 < n
    · have Hc5 : Hid (w.heap.size + 2 ≤ (wr.alloc (.cells #[.int .i64 ((n + 8 - 1) / 8)] 3)).heap.size) := by show _ ≤ _; simp; omega
      have Hc5' : Hid (w.heap.size ≤ (wr.alloc (.cells #[.int .i64 ((n + 8 - 1) / 8)] 3)).heap.size) := by show _ ≤ _; simp; omega
      have Hrow : Hid (∀ k, (Value.slice (some ⟨g, 0, none⟩) L.length cc).ownBlock = some k → w.heap.size ≤ k) := fun k hk => by have := own_base hown hk; omega
      have Hne1 : Hid (some (w.heap.size + 1) ≠ (Value.slice (some ⟨g, 0, none⟩) L.length cc).ownBlock) := fun h => by have := own_base hown h.symm; omega
      have Hne0 : Hid (some w.heap.size ≠ (Value.slice (some ⟨g, 0, none⟩) L.length cc).ownBlock) := fun h => by have := own_base hown h.symm; omega
      have HL2 : Hid (levs C = (L ++ [(n + 8 - 1) / 8]) ++ rest (L ++ [(n + 8 - 1) / 8]) ((n + 8 - 1) / 8)) := by
        unfold Hid; rw [HL.out, rest_step (Or.inr h)]; simp
      clear HL
      have hn1 : (n == 1) = false := by rw [beq_eq_false_iff_ne]; omega
      go_wp2_with (first | (go_at_call 24; (first | (with_reducible refine (begun_16 _ (by omega) _).mono ?_) | (with_reducible refine (begun_8 _ (by omega) _).mono ?_) | (with_reducible refine (begun_256 _ (by omega) _).mono ?_)); rintro e w' ⟨rfl, rfl⟩) | (at_builtin; go_must (refine wpList_append_own _ rfl _ _ 22 rfl (w.heap.size + 2) 3 i0 (.int .i64 0) 1 8 Try.underlying22 hi hz0 hz1 hz2 rfl (by decide) _ _ _ rfl (hown.alloc _) ⟨wr.heap.size, 0, none⟩ 1 1 [.int .i64 ((n + 8 - 1) / 8)] rfl rfl (World.news_of_block (cs := #[.int .i64 ((n + 8 - 1) / 8)]) (t := 3) (fr := (0, 0)) (heap_alloc_new wr _)) (by simp [Value.oneCell']) hc3 hc4 Hc5.out ?_); intro v' w1 hown1 hgrow1 hnil1; obtain ⟨g', c', rfl, hg'⟩ := own_some hown1 (by omega); have k1 := (hb1.alloc _).grown hgrow1 Hne1.out; have k3 := k1.cell 3; have k4 := k1.cell 4; have f3 := k1.froz 3; have f4 := k1.froz 4; simp only [List.getElem?_toArray, List.getElem?_cons_succ, List.getElem?_cons_zero] at k3 k4))
      have hb0' := (hb0.alloc _).grown hgrow1 Hne0.out
      have hBn := (hB.alloc hB.size _).grown hgrow1 Hc5'.out Hrow.out
      go_roundw
      case rel =>
        refine ⟨(n + 8 - 1) / 8, L ++ [(n + 8 - 1) / 8], .slice (some ⟨g', 0, none⟩) (L.length + 1) c', rfl, by omega, by omega, HL2, by simp, by rw [lsum_app]; simp only [lsum]; omega, by rw [lsum_app]; simp only [lsum]; omega, by simp only [List.length_append, List.length_cons, List.length_nil]; omega, ?_, ?_, ?_, ?_⟩
        · unfold ints; rw [List.map_append, List.length_append]; exact own_setCell (own_setCell hown1 (by simp [Value.ownBlock]; omega) _) (by simp [Value.ownBlock]; omega) _
        · rw [lsum_app]; simp only [lsum, Int.add_zero]; exact (k1.set 3 _).set 4 _
        · exact (hb0'.other hne _ _).other hne _ _
        · exact (hBn.setCell (by simp) _).setCell (by simp) _
      case measure =>
        simp only [intOf]; omega
    · obtain rfl : n = 1 := by omega
      have hL : levs C = L := by rw [HL.out, rest_end (by simp; intro e; rw [e] at l0; simp at l0)]; simp
      clear hi hz0 hz1 hz2 hc3 hc4
      have h5 := hb1.froz 5
      have h6 := hb1.froz 6
      have h7 := hb1.froz 7
      have h8 := hb1.froz 8
      have h9 := hb1.froz 9
      have q0 := hb0.froz 0
      have q1 := hb0.froz 1
      have q2 := hb0.froz 2
      have q3 := hb0.froz 3
      have q4 := hb0.froz 4
      have q5 := hb0.froz 5
      have q6 := hb0.froz 6
      have q7 := hb0.froz 7
      have q8 := hb0.froz 8
      have q9 := hb0.froz 9
      obtain ⟨b0, b1, b2, b3, b4, b5, b6, b7, b8, b9⟩ := hb0.ten
      go_wp2_with (go_at_call 24; (first | (with_reducible refine (begun_16 _ (by omega) _).mono ?_) | (with_reducible refine (begun_8 _ (by omega) _).mono ?_) | (with_reducible refine (begun_256 _ (by omega) _).mono ?_)); rintro e w' ⟨rfl, rfl⟩)
      refine bodyPost_ret (results_cell_tmp rfl _ _ _ _ _ _ rfl (Blk.put (((((hb0.other hne 5 _).other hne 6 _).other hne 7 _).other hne 8 _).other hne 9 _) _ _ _ _ _ _ _ _ _ _) rfl rfl (by kernel_rfl)) rfl ?_
      have hn0 : (Value.slice (some ⟨g, 0, none⟩) L.length cc).ownBlock ≠ some w.heap.size := fun h => by have := own_base hown h; omega
      have hn1 : (Value.slice (some ⟨g, 0, none⟩) L.length cc).ownBlock ≠ some (w.heap.size + 1) := fun h => by have := own_base hown h; omega
      obtain rfl : C = cnt P := HCC.out
      subst hL
      refine ⟨.slice (some ⟨g, 0, none⟩) (levs (cnt P)).length cc, rfl, ?_, ?_⟩
      · iterate 10 (refine own_setCell ?_ hn0 _)
        iterate 5 (refine own_setCell ?_ hn1 _)
        exact hown
      · iterate 15 (refine Below.setCell ?_ (by simp) _)
        exact hB
end Go.Proofs.Ytnkoniagakhacaa
