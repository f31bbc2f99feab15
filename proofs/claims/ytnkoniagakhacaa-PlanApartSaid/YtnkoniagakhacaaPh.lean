/- Contract of the example. -/
import Derived.Test.YtnkoniagakhacaaPg
namespace Go.Proofs.Ytnkoniagakhacaa
open Go.RowKit Go.Deep Go.ChangeMaps
set_option maxRecDepth 100000
theorem levs20 : levs (cnt 20) = [1] := by
  have : cnt 20 = 2 := by decide
  rw [this, levs_one (by decide)]
  decide
theorem path20 (p : Int) : path 20 p = [20 + p / 16, 22 + p / 16 / 8] := by
  unfold path
  rw [levs20, show cnt 20 = 2 by decide]
  simp [pth]
theorem need20 : (needL 20 [0, 1, 17]).length = 6 := by
  simp only [needL, List.foldl_cons, List.foldl_nil, stepL, path20]
  decide
theorem hd20 : hd 20 = 23 := by unfold hd nod; rw [levs20]; decide
theorem isI_made (w : World) (q : Nat) (L : List Int) (t : TypeId) (hb : ∀ n ∈ L, -9223372036854775808 ≤ n ∧ n ≤ 9223372036854775807) (h : Blk w q t (ints L).toArray) (hl : L.length ≤ 1000) : IsI w (some ⟨q, 0, none⟩) L.length L.length L :=
  ⟨rfl, Nat.le_refl _, by unfold maxLen; omega, hb, Or.inr ⟨q, 0, rfl, h.lt, fun i hi => by
    rw [Nat.zero_add, h.cell i]; simp [ints, List.getD, hi]⟩⟩
theorem isI_2 (w : World) (q : Nat) (t : TypeId) (a b : Int) (ha : -9223372036854775808 ≤ a ∧ a ≤ 9223372036854775807) (hb : -9223372036854775808 ≤ b ∧ b ≤ 9223372036854775807) (h : Blk w q t #[.int .i64 a, .int .i64 b]) : IsI w (some ⟨q, 0, none⟩) 2 2 [a, b] :=
  isI_made w q [a, b] t (by simp; exact ⟨ha, hb⟩) h (by simp)
theorem isI_3 (w : World) (q : Nat) (t : TypeId) (a b c : Int) (ha : -9223372036854775808 ≤ a ∧ a ≤ 9223372036854775807) (hb : -9223372036854775808 ≤ b ∧ b ≤ 9223372036854775807) (hc : -9223372036854775808 ≤ c ∧ c ≤ 9223372036854775807) (h : Blk w q t #[.int .i64 a, .int .i64 b, .int .i64 c]) : IsI w (some ⟨q, 0, none⟩) 3 3 [a, b, c] :=
  isI_made w q [a, b, c] t (by simp; exact ⟨ha, hb, hc⟩) h (by simp)
theorem below_drewN {B : Nat} {a w : World} (h : Below B a w) (n : Nat) : Below B a (w.drewN n) := ⟨h.os, h.tape, h.output, h.size, h.block⟩
set_option maxHeartbeats 1000000 in
theorem awake_any (w : World) : Calls Try.prog 12 #[] w fun e w' => e = .returned (.bool true) ∧ Below w.heap.size w w' := by
  have g1 : (hd 20 == 23) = true := by rw [hd20]; rfl
  have g2 : (hd 20 + hds 4 + 4 + 4 == 32) = true := by rw [hd20]; decide
  have H6 := Lib.hid need20
  go_enter Try.func12, Try.ntmps12
  go_wp2_with (go_at_call 9; refine (planOf_in _ 20 4 (by omega) (by omega)).mono ?_; rintro e w1 ⟨v, rfl, hown, hB1⟩; obtain ⟨va, vc, rfl, hI, hva⟩ := isI_own hown (levs_wf (by omega)))
  have HI := Lib.hid (hI.same ((Below.refl _ w1).alloc (Nat.le_refl _) (.cells #[.int .i64 20, .int .i64 4, .int .i64 (cnt 20), .slice va (levs (cnt 20)).length vc, .int .i64 (nod 20), .int .i64 (hd 20), .int .i64 (hds 4), .int .i64 (hd 20 + hds 4), .int .i64 (hd 20 + hds 4 + 4), .int .i64 (hd 20 + hds 4 + 4 + 4)] 24)))
  have hb := heap_alloc_new w1 (.cells #[.int .i64 20, .int .i64 4, .int .i64 (cnt 20), .slice va (levs (cnt 20)).length vc, .int .i64 (nod 20), .int .i64 (hd 20), .int .i64 (hds 4), .int .i64 (hd 20 + hds 4), .int .i64 (hd 20 + hds 4 + 4), .int .i64 (hd 20 + hds 4 + 4 + 4)] 24)
  have hB2 : Below w.heap.size w (w1.alloc (.cells #[.int .i64 20, .int .i64 4, .int .i64 (cnt 20), .slice va (levs (cnt 20)).length vc, .int .i64 (nod 20), .int .i64 (hd 20), .int .i64 (hds 4), .int .i64 (hd 20 + hds 4), .int .i64 (hd 20 + hds 4 + 4), .int .i64 (hd 20 + hds 4 + 4 + 4)] 24)) := hB1.alloc hB1.size _
  refine (path_in _ 20 4 17 (by omega) (by omega) (by omega) va vc HI.out).mono ?_
  rintro e w3 ⟨v2, rfl, hown2, hB3⟩
  obtain ⟨pa, pc, rfl, hJ, hpa⟩ := isI_own hown2 (by rw [path20]; decide)
  have hb3 : Blk w3 w1.heap.size 24 _ := Blk.below hb hB3 (by simp)
  have HI3 := Lib.hid (HI.out.same hB3)
  have hB13 := below_chain hB2 hB3
  have hp20 := path20 17
  rw [show (20 : Int) + 17 / 16 = 21 by decide, show (22 : Int) + 17 / 16 / 8 = 22 by decide] at hp20
  rw [hp20] at hJ ⊢
  have HJ := Lib.hid hJ
  clear hJ hp20 hown2 hown hI hb hB1 hB2 hB3
  obtain ⟨p0, p1, p2, p3, p4, p5, p6, p7, p8, p9⟩ := hb3.ten
  have lt1 := hb3.lt
  go_wp2_with (first | (go_at_call 20; refine (sameInts_any _ _ _ _ _ _ _ [21, 22] [21, 22] (HJ.out.same ((Below.refl _ _).alloc (Nat.le_refl _) _)) (isI_2 _ _ _ 21 22 (by omega) (by omega) (heap_alloc_new _ _)) (by decide) (by decide)).mono ?_; rintro e w' ⟨rfl, k, rfl⟩) | (go_at_call 21; refine (need_any _ 20 4 (by omega) (by omega) va vc (HI3.out.same ((below_drewN ((Below.refl _ _).alloc (Nat.le_refl _) _) k).alloc (by simp) _)) _ 3 3 [0, 1, 17] (isI_3 _ _ _ 0 1 17 (by omega) (by omega) (by omega) (heap_alloc_new' _ _ _ (by simp))) (by omega)).mono ?_; rw [H6.out]; rintro e w5 ⟨rfl, hB5⟩))
  go_ret
  refine ⟨rfl, below_chain ?_ hB5⟩
  exact ((below_drewN (hB13.alloc hB13.size _) k).alloc (by have := hB13.size; simp; omega) _)
end Go.Proofs.Ytnkoniagakhacaa
