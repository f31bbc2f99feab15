/- Contract of Same. -/
import Derived.Test.YtnkoniagakhacaaPh
namespace Go.Proofs.Ytnkoniagakhacaa
open Go.RowKit Go.Deep
set_option maxRecDepth 100000
theorem same_zero (w : World) : Calls Try.prog 11 #[planZ, planZ] w fun e w' => e = .returned (.bool true) ∧ Below w.heap.size w w' := by
  go_enter Try.func11, Try.ntmps11
  go_wp2
  refine wp_loop_rounds 1 ?_
  rw [rounds_succ]
  go_wp2
  go_ret
  exact ⟨rfl, ((Below.refl _ _).alloc (Nat.le_refl _) _).alloc (by simp) _⟩
set_option maxHeartbeats 1000000 in
theorem same_plans (w : World) (P B : Int) (hP : 1 ≤ P ∧ P ≤ 4096) (x y : Option Addr) (c d : Nat) (hA : IsI w x (levs (cnt P)).length c (levs (cnt P))) (hB : IsI w y (levs (cnt P)).length d (levs (cnt P))) :
    Calls Try.prog 11 #[planV P B (.slice x (levs (cnt P)).length c), planV P B (.slice y (levs (cnt P)).length d)] w fun e w' => e = .returned (.bool true) ∧ Below w.heap.size w w' := by
  have hs := levs_short (cnt P) (by unfold cnt; omega)
  generalize levs (cnt P) = A at hA hB hs
  have hcA : Hid (∀ i, i < A.length → ∃ b off, x = some ⟨b, off, none⟩ ∧ b < w.heap.size ∧ w.cell? ⟨b, off + i, none⟩ = some (.int .i64 (A.getD i 0))) := by
    intro i hi
    rcases hA.at_ with e | ⟨b, off, e, hb, hc⟩
    · rw [e] at hi; simp at hi
    · exact ⟨b, off, e, hb, hc i hi⟩
  have hcB : Hid (∀ i, i < A.length → ∃ b off, y = some ⟨b, off, none⟩ ∧ b < w.heap.size ∧ w.cell? ⟨b, off + i, none⟩ = some (.int .i64 (A.getD i 0))) := by
    intro i hi
    rcases hB.at_ with e | ⟨b, off, e, hb, hc⟩
    · rw [e] at hi; simp at hi
    · exact ⟨b, off, e, hb, hc i hi⟩
  have hca := hA.hcap
  have hcb := hB.hcap
  clear hA hB
  have hlb : ((A.length : Int) == (A.length : Int)) = true := by simp
  go_enter Try.func11, Try.ntmps11
  go_wp2
  obtain ⟨w1, hw1⟩ : ∃ w1, w1 = (w.alloc (.cells #[.int .i64 P, .int .i64 B, .int .i64 (cnt P), .slice x A.length c, .int .i64 (nod P), .int .i64 (hd P), .int .i64 (hds B), .int .i64 (hd P + hds B), .int .i64 (hd P + hds B + B), .int .i64 (hd P + hds B + B + B)] 24)).alloc (.cells #[.int .i64 P, .int .i64 B, .int .i64 (cnt P), .slice y A.length d, .int .i64 (nod P), .int .i64 (hd P), .int .i64 (hds B), .int .i64 (hd P + hds B), .int .i64 (hd P + hds B + B), .int .i64 (hd P + hds B + B + B)] 24) := ⟨_, rfl⟩
  rw [← hw1]
  have hW1 : Below w.heap.size w w1 := by rw [hw1]; exact ((Below.refl _ _).alloc (Nat.le_refl _) _).alloc (by simp) _
  have b1 : Blk w1 w.heap.size 24 #[.int .i64 P, .int .i64 B, .int .i64 (cnt P), .slice x A.length c, .int .i64 (nod P), .int .i64 (hd P), .int .i64 (hds B), .int .i64 (hd P + hds B), .int .i64 (hd P + hds B + B), .int .i64 (hd P + hds B + B + B)] := by rw [hw1]; exact Blk.alloc (heap_alloc_new w _) _
  have b2 : Blk w1 (w.heap.size + 1) 24 #[.int .i64 P, .int .i64 B, .int .i64 (cnt P), .slice y A.length d, .int .i64 (nod P), .int .i64 (hd P), .int .i64 (hds B), .int .i64 (hd P + hds B), .int .i64 (hd P + hds B + B), .int .i64 (hd P + hds B + B + B)] := by rw [hw1]; exact heap_alloc_new' _ _ _ (by simp)
  clear hw1
  obtain ⟨p0, p1, p2, p3, p4, p5, p6, p7, p8, p9⟩ := b1.ten
  obtain ⟨q0, q1, q2, q3, q4, q5, q6, q7, q8, q9⟩ := b2.ten
  clear b1 b2
  go_loopw [5] (fun t wr => ∃ i : Nat, t = .int .i64 i ∧ i ≤ A.length ∧ ∃ k, wr = w1.drewN k) (fun t _ => A.length - (intOf t).toNat)
  case atStart => exact ⟨0, rfl, Nat.zero_le _, 0, rfl⟩
  case round =>
    obtain ⟨i, rfl, i1, k, rfl⟩ := hrel
    have hi0 : (0 : Int) ≤ (i : Int) := Int.natCast_nonneg _
    by_cases hlt : i < A.length
    · have hi1 : (i : Int) < (A.length : Int) := by omega
      obtain ⟨b, off, rfl, l1, c1'⟩ := hcA.out i hlt
      obtain ⟨b', off', rfl, l2, c2'⟩ := hcB.out i hlt
      have c1 := (hW1.cell (p := ⟨b, off + i, none⟩) l1).trans c1'
      have c2 := (hW1.cell (p := ⟨b', off' + i, none⟩) l2).trans c2'
      clear hcA hcB c1' c2' l1 l2
      generalize A.getD i 0 = p at c1 c2
      have hpp : (p == p) = true := by simp
      go_wp2
      go_quiet (fail)
      go_wp2
      go_roundw
      case rel => exact ⟨i + 1, by go_num, by omega, k + nq, by simp [World.drewN, Nat.add_assoc]⟩
      case measure => simp only [intOf]; omega
    · clear hcA hcB
      go_wp2
      go_ret
      exact ⟨by simp, below_drewN hW1 k⟩
end Go.Proofs.Ytnkoniagakhacaa
