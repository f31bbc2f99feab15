/- Contracts of the reference's Drop and Touch. -/
import Derived.Test.YtfkbdijgdhddaaaHr
import Derived.StillTactics
import Derived.OwnWalk
import Derived.Deep.AppendLies
namespace Go.Proofs.Ytfkbdijgdhddaaa
open Go.RowKit Go.Deep
set_option maxRecDepth 100000
theorem infoSpot : (Try.prog.info? 61).map (fun i => (i.zero, i.size, i.bytes)) = some (some (.agg #[.int .i64 0, .float .f64 0, .int .i64 0]), 3, 24) := by kernel_rfl
def keepS (k : Int) (R : List Ent) : List Ent := R.filter fun s => !(s.1 == k)
theorem keep_snoc (k : Int) (R : List Ent) (i : Nat) (h : i < R.length) : keepS k (R.take (i + 1)) = keepS k (R.take i) ++ (if (R.getD i (0, 0, 0)).1 = k then [] else [R.getD i (0, 0, 0)]) := by
  rw [FP.take_getD R i (0, 0, 0) h]
  unfold keepS
  rw [List.filter_append]
  by_cases hk : (R.getD i (0, 0, 0)).1 = k
  · rw [if_pos hk]; simp only [List.filter_cons, List.filter_nil]; rw [if_neg (by simpa using hk)]
  · rw [if_neg hk]; simp only [List.filter_cons, List.filter_nil]; rw [if_pos (by simpa using hk)]
theorem keep_le (k : Int) (R : List Ent) : (keepS k R).length ≤ R.length := List.length_filter_le _ _
theorem own_weak {w : World} {b1 b2 : Nat} {e : TypeId} {sz n : Nat} {v : Value} {xs : List Value} (h : w.ownsRow b1 e sz v n xs) (hb : b2 ≤ b1) : w.ownsRow b2 e sz v n xs := by
  obtain ⟨hl, h | ⟨g, cap, cur, rfl, hg, r⟩⟩ := h
  · exact ⟨hl, Or.inl h⟩
  · exact ⟨hl, Or.inr ⟨g, cap, cur, rfl, Nat.le_trans hb hg, r⟩⟩
theorem own_base' {w : World} {base : Nat} {e : TypeId} {sz : Nat} {v : Value} {n : Nat} {xs : List Value} (h : w.ownsRow base e sz v n xs) {q : Nat} (hq : v.ownBlock = some q) : base ≤ q := by
  obtain ⟨-, ⟨rfl, -⟩ | ⟨g, cap, cur, rfl, hg, -⟩⟩ := h
  · cases hq
  · cases hq; exact hg
theorem own_setCell {w : World} {base : Nat} {e : TypeId} {sz : Nat} {v : Value} {n : Nat} {xs : List Value} (h : w.ownsRow base e sz v n xs) {a : Addr} (ha : v.ownBlock ≠ some a.block) (u : Value) : (w.setCell a u).ownsRow base e sz v n xs := by
  obtain ⟨hl, h | ⟨g, cap, cur, rfl, hg, hh, r⟩⟩ := h
  · exact ⟨hl, Or.inl h⟩
  · refine ⟨hl, Or.inr ⟨g, cap, cur, rfl, hg, ?_, r⟩⟩
    rw [Below.heap_setCell w a u g (by intro e; apply ha; subst e; rfl)]; exact hh
theorem one3 (k : Int) (x : Nat) (t : Int) : ∀ u ∈ [Value.int .i64 k, .float .f64 x, .int .i64 t], u.oneCell' = true := by
  intro u hu; simp at hu; rcases hu with rfl | rfl | rfl <;> rfl
theorem ref_store {w w' : World} {p base : Nat} {half now : Int} {v v' : Value} {R A : List Ent} (h : RefAt w p half now base v R) (hbase : base ≤ w.heap.size) (hB : Below w.heap.size w w') (hA : ∀ s ∈ A, s ∈ R) (hl : A.length ≤ R.length)
    (hown : w'.ownsRow w.heap.size 61 3 v' A.length (flat A)) : RefAt (w'.setCell ⟨p, 2, none⟩ v') p half now base v' A ∧ (∀ q, v'.ownBlock = some q → w.heap.size ≤ q) ∧ Fr (fun q => q = p) w (w'.setCell ⟨p, 2, none⟩ v') := by
  have lp := World.block_lt_of_cell? w _ h.c0
  have lp' : p < w.heap.size := lp
  have hne : v'.ownBlock ≠ some p := fun e => by have := own_base' hown e; omega
  refine ⟨⟨?_, ?_, ?_, ?_, ?_, own_weak (own_setCell hown hne v') hbase, hne, h.h1, h.h2, h.n0, h.n1, by have := h.len; omega, fun s hs => h.sp s (hA s hs)⟩, fun q hq => own_base' hown hq, Fr.setCell (S := fun q => q = p) (Fr.of_below hB) (x := ⟨p, 2, none⟩) (Or.inl rfl) _⟩
  · rw [World.cell?_setCell_other _ _ _ _ (by simp)]; exact (hB.cell (p := ⟨p, 0, none⟩) lp).trans h.c0
  · rw [World.cell?_setCell_other _ _ _ _ (by simp)]; exact (hB.cell (p := ⟨p, 1, none⟩) lp).trans h.c1
  · exact World.cell?_setCell_same _ _ _ ((hB.cell (p := ⟨p, 2, none⟩) lp).trans h.c2)
  · rw [World.frozen?_setCell]; exact (hB.frozen (p := ⟨p, 1, none⟩) lp).trans h.f1
  · rw [World.frozen?_setCell]; exact (hB.frozen (p := ⟨p, 2, none⟩) lp).trans h.f2
theorem own_shape {w : World} {base : Nat} {e : TypeId} {sz : Nat} {v : Value} {n : Nat} {xs : List Value} (h : w.ownsRow base e sz v n xs) : ∃ a m c, v = .slice a m c := by
  obtain ⟨-, ⟨rfl, -⟩ | ⟨g, cap, cur, rfl, -⟩⟩ := h
  · exact ⟨_, _, _, rfl⟩
  · exact ⟨_, _, _, rfl⟩
theorem keep_mem {k : Int} {R : List Ent} : ∀ s ∈ keepS k R, s ∈ R := fun _ hs => (List.mem_filter.1 hs).1
set_option maxHeartbeats 1000000 in
theorem refDrop_at (w : World) (p base : Nat) (half now : Int) (v : Value) (R : List Ent) (h : RefAt w p half now base v R) (hbase : base ≤ w.heap.size) (k : Int) :
    Calls Try.prog 23 #[.pointer (some ⟨p, 0, none⟩), .int .i64 k] w fun e w' => e = .returned (.tuple #[]) ∧ (∃ v', RefAt w' p half now base v' (keepS k R) ∧ (∀ q, v'.ownBlock = some q → w.heap.size ≤ q)) ∧ Fr (fun q => q = p) w w' := by
  have H := Lib.hid h
  obtain ⟨c0, c1, c2, -, f2, own, -, h1, h2, n0, n1, hlen, hs⟩ := h
  clear hs
  obtain ⟨i0, hi, hz0, hz1, hz2⟩ := info_parts infoSpot
  have lp := World.block_lt_of_cell? w _ c0
  by_cases hR : R.length = 0
  · have hR' : R = [] := List.length_eq_zero_iff.1 hR
    subst hR'
    have hfin := Lib.hid (ref_store (A := []) (v' := .slice none 0 0) H.out hbase (Below.refl _ _) (by simp) (by simp) ⟨rfl, Or.inl ⟨rfl, rfl⟩⟩)
    obtain ⟨a, c, rfl⟩ : ∃ a c, v = .slice a 0 c := by
      obtain ⟨-, ⟨rfl, -⟩ | ⟨g, cap, cur, rfl, -⟩⟩ := own
      · exact ⟨_, _, rfl⟩
      · exact ⟨_, _, rfl⟩
    clear own
    go_enter Try.func23, Try.ntmps23
    go_wp2
    refine wp_loop_rounds 1 ?_
    rw [rounds_succ]
    go_wp2
    go_end0
    exact ⟨rfl, ⟨_, hfin.out.1, hfin.out.2.1⟩, hfin.out.2.2⟩
  · obtain ⟨g, cap, rfl, hg, hnc, hcm, hgs, hcells⟩ := own_cells3 own (by omega)
    have HC : Hid (∀ i, i < R.length → w.cell? ⟨g, i * 3, none⟩ = some (.int .i64 (R.getD i (0, 0, 0)).1) ∧ w.cell? ⟨g, i * 3 + 1, none⟩ = some (.float .f64 (R.getD i (0, 0, 0)).2.1) ∧ w.cell? ⟨g, i * 3 + 2, none⟩ = some (.int .i64 (R.getD i (0, 0, 0)).2.2)) :=
      fun i hi => ⟨hcells _ _ (flat_get R i hi).1, hcells _ _ (flat_get R i hi).2.1, hcells _ _ (flat_get R i hi).2.2⟩
    clear hcells own
    have C := Lib.hid (show w.cell? ⟨p, 2, none⟩ = some (.slice (some ⟨g, 0, none⟩) R.length cap) from c2)
    clear c0 c1 c2
    unfold maxLen at hcm
    go_enter Try.func23, Try.ntmps23
    go_wp2
    go_loopw [4, 5] (fun rv iv wr => ∃ i : Nat, i ≤ R.length ∧ iv = .int .i64 i ∧ wr.ownsRow w.heap.size 61 3 rv (keepS k (R.take i)).length (flat (keepS k (R.take i))) ∧ Below w.heap.size w wr) (fun _ iv _ => R.length - (intOf iv).toNat)
    case atStart => exact ⟨0, Nat.zero_le _, rfl, ⟨by simp [keepS, flat], Or.inl ⟨rfl, rfl⟩⟩, Below.refl _ _⟩
    case round =>
      obtain ⟨i, hi', rfl, hown, hB⟩ := hrel
      have c2 : wr.cell? ⟨p, 2, none⟩ = some (.slice (some ⟨g, 0, none⟩) R.length cap) := (hB.cell (p := ⟨p, 2, none⟩) lp).trans C.out
      by_cases hlt : i < R.length
      · obtain ⟨a0', a1', a2'⟩ := HC.out i hlt
        have a0 := (hB.cell (p := ⟨g, i * 3, none⟩) hgs).trans a0'
        have a1 := (hB.cell (p := ⟨g, i * 3 + 1, none⟩) hgs).trans a1'
        have a2 := (hB.cell (p := ⟨g, i * 3 + 2, none⟩) hgs).trans a2'
        clear a0' a1' a2'
        have HK := Lib.hid (keep_snoc k R i hlt)
        have hkl := keep_le k (R.take i)
        have hkl2 : (R.take i).length ≤ i := List.length_take_le _ _
        generalize R.getD i (0, 0, 0) = s at a0 a1 a2 HK
        obtain ⟨sk, sx, sa⟩ := s
        simp only at a0 a1 a2
        generalize keepS k (R.take i) = A at hown HK hkl
        by_cases hk : sk = k
        · have hk' : (sk == k) = true := by rw [beq_iff_eq]; exact hk
          have HK' : Hid (keepS k (R.take (i + 1)) = A) := by rw [HK.out, if_pos hk]; simp [Hid]
          clear hk HK
          go_wp2
          go_roundw
          case rel => exact ⟨i + 1, by omega, by go_num, by rw [HK'.out]; exact hown, hB⟩
          case measure => simp [intOf]; omega
        · have hk' : (sk == k) = false := by rw [beq_eq_false_iff_ne]; exact hk
          have HK' : Hid (keepS k (R.take (i + 1)) = A ++ [(sk, sx, sa)]) := by rw [HK.out, if_neg hk]; exact rfl
          clear hk HK
          have Hone := Lib.hid (one3 sk sx sa)
          have hc3 : A.length + 1 ≤ maxLen := by unfold maxLen; omega
          have hc4 : (A.length + 1) * 24 ≤ 140737488355328 := by omega
          have Hc5 : Hid (w.heap.size ≤ (wr.alloc (.cells #[.int .i64 sk, .float .f64 sx, .int .i64 sa] 61)).heap.size) := by have := hB.size; show _ ≤ _; simp; omega
          go_wp2_with (at_builtin; go_must (refine wpList_append_own _ rfl _ _ 49 rfl w.heap.size 61 i0 (.agg #[.int .i64 0, .float .f64 0, .int .i64 0]) 3 24 Try.underlying49 hi hz0 hz1 hz2 rfl (by decide) _ _ _ rfl (hown.alloc _) ⟨wr.heap.size, 0, none⟩ 1 1 [.int .i64 sk, .float .f64 sx, .int .i64 sa] rfl rfl (World.news_of_block (cs := #[.int .i64 sk, .float .f64 sx, .int .i64 sa]) (t := 61) (fr := (0, 0)) (heap_alloc_new wr _)) Hone.out hc3 hc4 Hc5.out ?_); intro v' w1 hown1 hgrow1 hnil1)
          have hB1 : Below w.heap.size w w1 := (hB.alloc hB.size _).grown hgrow1 Hc5.out (fun q hq => own_base' hown hq)
          go_roundw
          case rel => exact ⟨i + 1, by omega, by go_num, by rw [HK'.out, flat_append, List.length_append]; exact hown1, hB1⟩
          case measure => simp [intOf]; omega
      · have hkl : R.take i = R := List.take_of_length_le (by omega)
        rw [hkl] at hown
        clear hkl
        have hfin := Lib.hid (ref_store H.out hbase hB keep_mem (keep_le k R) hown)
        have hfz : wr.frozen? ⟨p, 2, none⟩ = false := (hB.frozen (p := ⟨p, 2, none⟩) lp).trans f2
        obtain ⟨a, m, c, ha⟩ := own_shape hown
        clear hown
        subst ha
        go_wp2
        go_end0
        exact ⟨rfl, ⟨_, hfin.out.1, hfin.out.2.1⟩, hfin.out.2.2⟩
end Go.Proofs.Ytfkbdijgdhddaaa
