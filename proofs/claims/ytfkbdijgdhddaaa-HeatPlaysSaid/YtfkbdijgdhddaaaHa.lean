/- Contracts of the heats: what a heat in memory is; a key's heat. -/
import Derived.Test.YtfkbdijgdhddaaaRc
import Derived.Test.YtfkbdijgdhddaaaSl
import Derived.Test.YtfkbdijgdhddaaaMap
import Derived.Handy
import Derived.Deep.QuietTactic
import Derived.BigQuiet
import Derived.Deep.RegionHeld3
namespace Go.Proofs.Ytfkbdijgdhddaaa
open Go.RowKit Go.Deep
set_option maxRecDepth 100000

/-- Brought right. -/
def rightB (x : Nat) : Nat := if FP.isNaN x then 0 else if FP.key x = 0 then 0 else x
theorem rightB_lt {x : Nat} (h : x < 18446744073709551616) : rightB x < 18446744073709551616 := by
  unfold rightB; repeat' split
  all_goals omega
theorem right_a {x : Nat} (h : ¬ FloatKind.f64.format.order x x = some Ordering.eq) : 0 = rightB x := by
  have h' : (Ieee.double.order x x != some Ordering.eq) = true := by
    have h0 : ¬ Ieee.double.order x x = some Ordering.eq := h
    simpa using h0
  rw [FP.ordne_self] at h'
  unfold rightB; rw [if_pos h']
theorem right_b {x : Nat} (h : FloatKind.f64.format.order x x = some Ordering.eq) (h2 : (FloatKind.f64.format.order x 0 == some Ordering.eq) = true) : 0 = rightB x := by
  have h' : (Ieee.double.order x x != some Ordering.eq) = false := by rw [show Ieee.double.order x x = some Ordering.eq from h]; rfl
  rw [FP.ordne_self] at h'
  have h3 := FP.ord_zero x
  rw [show (Ieee.double.order x 0 == some Ordering.eq) = true from h2, h'] at h3
  simp at h3
  unfold rightB; rw [if_neg (by simp [h']), if_pos h3]
theorem right_c {x : Nat} (h : FloatKind.f64.format.order x x = some Ordering.eq) (h2 : (FloatKind.f64.format.order x 0 == some Ordering.eq) = false) : x = rightB x := by
  have h' : (Ieee.double.order x x != some Ordering.eq) = false := by rw [show Ieee.double.order x x = some Ordering.eq from h]; rfl
  rw [FP.ordne_self] at h'
  have h3 := FP.ord_zero x
  rw [show (Ieee.double.order x 0 == some Ordering.eq) = false from h2, h'] at h3
  simp at h3
  unfold rightB; rw [if_neg (by simp [h']), if_neg h3]
theorem right_any (x : Nat) (w : World) : Calls Try.prog 26 #[.float .f64 x] w fun e w' => e = .returned (.float .f64 (rightB x)) ∧ w = w' := by
  go_enter Try.func26, Try.ntmps26
  go_wp2
  all_goals go_ret
  · exact ⟨ret_f64 (right_b (by assumption) (by assumption)), rfl⟩
  · exact ⟨ret_f64 (right_c (by assumption) (by assumption)), rfl⟩
  · exact ⟨ret_f64 (right_a (by assumption)), rfl⟩
theorem refRight_any (x : Nat) (w : World) : Calls Try.prog 20 #[.float .f64 x] w fun e w' => e = .returned (.float .f64 (rightB x)) ∧ w = w' := by
  go_enter Try.func20, Try.ntmps20
  go_wp2
  all_goals go_ret
  · exact ⟨ret_f64 (right_b (by assumption) (by assumption)), rfl⟩
  · exact ⟨ret_f64 (right_c (by assumption) (by assumption)), rfl⟩
  · exact ⟨ret_f64 (right_a (by assumption)), rfl⟩
/-- A spot: a heat, and when it was told. -/
abbrev Spot := Nat × Int
def ents (L : List (Int × Spot)) : List (Int × Value) := L.map fun p => (p.1, .agg #[.float .f64 p.2.1, .int .i64 p.2.2])
def spotOf : List (Int × Spot) → Int → Spot
  | [], _ => (0, 0)
  | (a, s) :: L, k => if a = k then s else spotOf L k
theorem get_ents : ∀ (L : List (Int × Spot)) (k : Int), (IM.getL (ents L) k).getD (.agg #[.float .f64 0, .int .i64 0]) = .agg #[.float .f64 (spotOf L k).1, .int .i64 (spotOf L k).2]
  | [], k => rfl
  | (a, s) :: L, k => by
    have ih := get_ents L k
    simp only [ents, List.map_cons, IM.getL, spotOf] at ih ⊢
    by_cases h : a = k <;> simp [h]
    exact ih
def updS : List (Int × Spot) → Int → Spot → List (Int × Spot)
  | [], k, s => [(k, s)]
  | (a, x) :: L, k, s => if a = k then (k, s) :: L else (a, x) :: updS L k s
theorem upd_ents : ∀ (L : List (Int × Spot)) (k : Int) (s : Spot), IM.updL (ents L) k (.agg #[.float .f64 s.1, .int .i64 s.2]) = ents (updS L k s)
  | [], k, s => rfl
  | (a, x) :: L, k, s => by
    have ih := upd_ents L k s
    simp only [ents, List.map_cons, IM.updL, updS] at ih ⊢
    by_cases h : a = k <;> simp [h]
    exact ih
structure HeatAt (w : World) (p : Nat) (half now : Int) (b : Nat) (L : List (Int × Spot)) : Prop where
  c0 : w.cell? ⟨p, 0, none⟩ = some (.int .i64 half)
  c1 : w.cell? ⟨p, 1, none⟩ = some (.int .i64 now)
  c2 : w.cell? ⟨p, 2, none⟩ = some (.map (some b))
  fz : w.frozen? ⟨p, 1, none⟩ = false
  m : IM.Is w b (ents L)
  h1 : 1 ≤ half
  h2 : half ≤ 1000
  n0 : 0 ≤ now
  n1 : now ≤ 1000000000
  sp : ∀ k, (spotOf L k).1 < 18446744073709551616 ∧ 0 ≤ (spotOf L k).2 ∧ (spotOf L k).2 ≤ now
def heatOf (half now : Int) (s : Spot) : Nat := rightB (FP.fadeB ((now - s.2) / half).toNat s.1)
theorem zero_spot (w : World) : (zeroValue 56).run Try.prog w = .ok (.agg #[.float .f64 0, .int .i64 0]) w := by kernel_rfl
theorem of_at (w : World) (p b : Nat) (half now : Int) (L : List (Int × Spot)) (h : HeatAt w p half now b L) (k : Int) :
    Calls Try.prog 12 #[.pointer (some ⟨p, 0, none⟩), .int .i64 k] w fun e w' => e = .returned (.float .f64 (heatOf half now (spotOf L k))) ∧ Below w.heap.size w w' := by
  obtain ⟨c0, c1, c2, fz, hm, h1, h2, n0, n1, hs⟩ := h
  obtain ⟨s1, s2, s3⟩ := hs k
  clear hs
  have Hg := Lib.hid (get_ents L k)
  have Hm := Lib.hid hm; clear hm
  have lp := World.block_lt_of_cell? w _ c0
  unfold heatOf
  generalize spotOf L k = s at s1 s2 s3 Hg
  obtain ⟨x, at_⟩ := s
  have Hx := Lib.hid s1; clear s1
  simp only at s2 s3 Hg
  go_enter Try.func12, Try.ntmps12
  go_wp2_with (at_lookup; go_must (refine IM.wpList_lookup rfl _ _ rfl Try.underlying52 Try.underlying3 (zero_spot _) rfl Hm.out k rfl ?_); rw [Hg.out])
  have e1 : IntKind.i64.wrap (now - at_) = now - at_ := IntWalk.i64_in _ (by omega)
  have e2 : wrap64 (now - at_) = now - at_ := IntWalk.wrap64_in _ (by omega)
  have e3 : (now - at_).tdiv half = (now - at_) / half := Int.tdiv_eq_ediv_of_nonneg (by omega)
  have e0 : 0 ≤ (now - at_) / half := Int.ediv_nonneg (by omega) (by omega)
  have e6 : (now - at_) / half ≤ now - at_ := Int.ediv_le_self _ (by omega)
  have e4 : IntKind.i64.wrap ((now - at_) / half) = (now - at_) / half := IntWalk.i64_in _ (by omega)
  have e5 : wrap64 ((now - at_) / half) = (now - at_) / half := IntWalk.wrap64_in _ (by omega)
  have n2 : ¬ half = 0 := by omega
  have n3 : (half == 0) = false := by rw [beq_eq_false_iff_ne]; exact n2
  go_quiet ((first | (go_at_call 28; exact Calls.quiet_of (fade_any _ _ Hx.out (by omega) _)) | (go_at_call 26; exact Calls.quiet_of_same ((right_any _ _).mono fun _ _ h => ⟨h.1, h.2.symm⟩))))
  go_wp2
  go_ret
  exact ⟨rfl, below_drewN ((Below.refl _ _).alloc (Nat.le_refl _) _) _⟩
/-- A sum, brought right: what has no answer is none. -/
def addR (x y : Nat) : Nat := match Ieee.double.add x y with
  | some r => rightB r
  | none => 0
/-- What a sum without an answer draws. -/
def nanOf (x y : Nat) (w : World) : Nat := (Question.nanBits .f64 x y).cut (w.tape w.drawn (.nanBits .f64 x y))
theorem right_nanOf (x y : Nat) (w : World) : rightB (nanOf x y w) = 0 := by
  unfold rightB nanOf; rw [if_pos (cut_nan _ _ _).2]
theorem run_add_none {x y : Nat} (h : Ieee.double.add x y = none) (t : TypeId) (w : World) : (binOp .add t (.float .f64 x) (.float .f64 y)).run Try.prog w = .ok (.float .f64 (nanOf x y w)) w.drew := by
  have h' : floatBits .add .f64 x y = none := h
  rw [binOp_float (by simp), floatArith_none (by simp) h']; rfl
theorem run_add_some {x y r : Nat} (h : Ieee.double.add x y = some r) (t : TypeId) (w : World) : (binOp .add t (.float .f64 x) (.float .f64 y)).run Try.prog w = .ok (.float .f64 r) w :=
  run_float_arith w .add t .f64 x y r h
theorem add_lt {x y r : Nat} (h : Ieee.double.add x y = some r) : r < 18446744073709551616 := Ieee.double.add_lt h
theorem addR_lt (x y : Nat) : addR x y < 18446744073709551616 := by
  unfold addR; split
  · rename_i h; exact rightB_lt (add_lt h)
  · omega
theorem HeatAt.drew {w : World} {p b : Nat} {half now : Int} {L : List (Int × Spot)} (h : HeatAt w p half now b L) : HeatAt w.drew p half now b L :=
  ⟨h.c0, h.c1, h.c2, h.fz, h.m, h.h1, h.h2, h.n0, h.n1, h.sp⟩
theorem heat_tick (w : World) (p b : Nat) (half now : Int) (L : List (Int × Spot)) (h : HeatAt w p half now b L) (hn : now < 1000000000) : HeatAt (w.setCell ⟨p, 1, none⟩ (.int .i64 (now + 1))) p half (now + 1) b L := by
  obtain ⟨c0, c1, c2, fz, hm, h1, h2, n0, n1, hs⟩ := h
  have hne : b ≠ p := by
    intro e
    obtain ⟨es, c, hb, -⟩ := hm
    subst e
    simp [World.cell?, hb] at c0
  refine ⟨?_, ?_, ?_, ?_, ?_, h1, h2, by omega, by omega, fun k => ?_⟩
  · rw [World.cell?_setCell_other _ _ _ _ (by simp)]; exact c0
  · exact World.cell?_setCell_same _ _ _ c1
  · rw [World.cell?_setCell_other _ _ _ _ (by simp)]; exact c2
  · rw [World.frozen?_setCell]; exact fz
  · exact hm.of_block (Below.heap_setCell w _ _ b hne)
  · have := hs k; omega
theorem below_undrew {w w' : World} (h : Below w.drew.heap.size w.drew w') : Below w.heap.size w w' := ⟨h.os, h.tape, h.output, h.size, h.block⟩
theorem spot_upd : ∀ (L : List (Int × Spot)) (k : Int) (s : Spot) (j : Int), spotOf (updS L k s) j = if k = j then s else spotOf L j
  | [], k, s, j => by simp [updS, spotOf]
  | (a, x) :: L, k, s, j => by
    have ih := spot_upd L k s j
    unfold updS
    by_cases h : a = k
    · rw [if_pos h]; simp only [spotOf]
      by_cases hj : k = j <;> simp [hj, h]
    · rw [if_neg h]; simp only [spotOf, ih]
      by_cases hj : a = j
      · have : ¬ k = j := by omega
        simp [hj, this]
      · simp [hj]
theorem HeatAt.ne {w : World} {p b : Nat} {half now : Int} {L : List (Int × Spot)} (h : HeatAt w p half now b L) : b ≠ p := by
  intro e
  obtain ⟨es, c, hb, -⟩ := h.m
  have c0 := h.c0
  subst e
  simp [World.cell?, hb] at c0
/-- Behind a touch. -/
theorem heat_after {W1 w2 w3 : World} {p b : Nat} {half now : Int} {L : List (Int × Spot)} (h : HeatAt W1 p half now b L) (hB : Below W1.heap.size W1 w2) (k : Int) {v : Nat} (hv : v < 18446744073709551616)
    (hI : IM.Is w3 b (IM.updL (ents L) k (.agg #[.float .f64 v, .int .i64 now]))) (hG : w2.grownBy w3 (some b)) : HeatAt w3 p half now b (updS L k (v, now)) := by
  have lp := World.block_lt_of_cell? W1 _ h.c0
  have hne := h.ne
  have e : w3.heap[p]? = W1.heap[p]? := (hG.block p (Nat.lt_of_lt_of_le lp hB.size) (by simp; omega)).trans (hB.block p lp)
  have ec : ∀ o, w3.cell? ⟨p, o, none⟩ = W1.cell? ⟨p, o, none⟩ := fun o => World.cell?_of_block (w := W1) (a := ⟨p, o, none⟩) e
  refine ⟨(ec 0).trans h.c0, (ec 1).trans h.c1, (ec 2).trans h.c2, (World.frozen?_of_block (w := W1) (a := ⟨p, 1, none⟩) e).trans h.fz, ?_, h.h1, h.h2, h.n0, h.n1, fun j => ?_⟩
  · rw [← upd_ents L k (v, now)]; exact hI
  · rw [spot_upd]
    have := h.n0
    split
    · exact ⟨hv, this, Int.le_refl _⟩
    · exact h.sp j
end Go.Proofs.Ytfkbdijgdhddaaa
