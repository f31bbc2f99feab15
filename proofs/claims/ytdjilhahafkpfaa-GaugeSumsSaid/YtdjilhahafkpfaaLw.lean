/- A gauge: the mean; what holds in whatever order numbers were added. -/
import Derived.Test.YtdjilhahafkpfaaLv
namespace Go.Proofs.Ytdjilhahafkpfaa
open Go.RowKit Go.Deep
set_option maxRecDepth 100000
theorem run_quo_none {x y : Nat} (h : floatBits .quo .f64 x y = none) (t : TypeId) (w : World) : (binOp .quo t (.float .f64 x) (.float .f64 y)).run Try.prog w = .ok (.float .f64 (nanOf x y w)) w.drew := by
  rw [binOp_float (by simp), floatArith_none (by simp) h]; rfl
/-- What a sum by a number of numbers may be. -/
def MeanIs (S : Nat) (n : Int) (r : Nat) : Prop := r < 18446744073709551616 ∧ (∀ q, floatBits .quo .f64 S (floatOfInt .f64 n) = some q → r = q) ∧ (floatBits .quo .f64 S (floatOfInt .f64 n) = none → FP.isNaN r = true)
theorem MeanIs.same {S : Nat} {n : Int} {r s : Nat} (h : MeanIs S n r) (k : MeanIs S n s) : FP.sameB r s = true := by
  cases hq : floatBits .quo .f64 S (floatOfInt .f64 n) with
  | some q => rw [h.2.1 q hq, k.2.1 q hq]; exact FP.sameB_refl _
  | none =>
    unfold FP.sameB
    rw [FP.rank_nan (h.2.2 hq), FP.rank_nan (k.2.2 hq)]
    simp
theorem meanIs_some {S q : Nat} {n : Int} (h : floatBits .quo .f64 S (floatOfInt .f64 n) = some q) : MeanIs S n q := by
  refine ⟨Ieee.double.div_lt h, fun q' hq' => ?_, fun hn => ?_⟩
  · rw [h] at hq'; exact Option.some.inj hq'
  · rw [h] at hn; cases hn
theorem meanIs_none {S : Nat} {n : Int} (h : floatBits .quo .f64 S (floatOfInt .f64 n) = none) (y : Nat) (w : World) : MeanIs S n (nanOf S y w) := by
  refine ⟨(nanOf_spec _ _ _).1, fun q hq => ?_, fun _ => (nanOf_spec _ _ _).2⟩
  rw [h] at hq; cases hq
set_option maxHeartbeats 1000000 in
theorem gmean_any (w : World) (p : Nat) (G : Gs) (k : Nat) (hG : GA w p G) (hH : Held k G) (hk : k ≤ 1000) (h0 : 0 < G.c + G.o + G.h + G.l) :
    Calls Try.prog 19 #[.pointer (some ⟨p, 0, none⟩)] w fun e w' => ∃ r, e = .returned (.float .f64 r) ∧ MeanIs (sumOf G) ((G.c : Int) + G.o + G.h + G.l) r ∧ Below w.heap.size w w' := by
  have HL := hH.lim hk
  have HC := Lib.hid (count_any w p G hG)
  have HS : Hid (∀ n, Calls Try.prog 15 #[.pointer (some ⟨p, 0, none⟩)] (w.drewN n) fun e w' => e = .returned (.float .f64 (sumOf G)) ∧ Below w.heap.size (w.drewN n) w') := fun n => gsum_any (w.drewN n) p G ⟨hG.b, hG.l, hG.n⟩ HL
  have h1 := hH.c
  have h2 := hH.o
  have h3 := hH.h
  have h4 := hH.l
  clear hG hH HL
  have HMs := Lib.hid fun q (h : floatBits .quo .f64 (sumOf G) (floatOfInt .f64 ((G.c : Int) + G.o + G.h + G.l)) = some q) => meanIs_some h
  have HMn := Lib.hid fun (h : floatBits .quo .f64 (sumOf G) (floatOfInt .f64 ((G.c : Int) + G.o + G.h + G.l)) = none) => meanIs_none h
  generalize sumOf G = S at HS HMs HMn ⊢
  obtain ⟨V, c, o, h, l, mn, mx⟩ := G
  dsimp only at h0 h1 h2 h3 h4 HC HMs HMn ⊢
  have i1 : (0 : Int) ≤ (c : Int) := Int.natCast_nonneg _
  have i2 : (0 : Int) ≤ (o : Int) := Int.natCast_nonneg _
  have i3 : (0 : Int) ≤ (h : Int) := Int.natCast_nonneg _
  have i4 : (0 : Int) ≤ (l : Int) := Int.natCast_nonneg _
  have hne : (c : Int) + o + h + l ≠ 0 := by omega
  cases hq : floatBits .quo .f64 S (floatOfInt .f64 ((c : Int) + o + h + l)) with
  | some q =>
    have hqq := fun t w => run_fquo hq t w
    have HM := Lib.hid (HMs.out q hq)
    clear hq HMs HMn
    go_enter Try.func19, Try.ntmps19
    go_wp2_with (first | (go_at_call 21; refine HC.out.mono ?_; rintro e w2 ⟨rfl, nd, rfl⟩) | (go_at_call 15; refine (HS.out _).mono ?_; rintro e w3 ⟨rfl, hb⟩; replace hb := Lib.hid hb))
    go_ret
    exact ⟨_, rfl, HM.out, (below_chain (show Below w.heap.size w (w.drewN nd) from ⟨rfl, rfl, rfl, Nat.le_refl _, fun _ _ => rfl⟩) hb.out)⟩
  | none =>
    have hqq := fun t w => run_quo_none hq t w
    have HM := Lib.hid (HMn.out hq)
    clear hq HMs HMn
    go_enter Try.func19, Try.ntmps19
    go_wp2_with (first | (go_at_call 21; refine HC.out.mono ?_; rintro e w2 ⟨rfl, nd, rfl⟩) | (go_at_call 15; refine (HS.out _).mono ?_; rintro e w3 ⟨rfl, hb⟩; replace hb := Lib.hid hb))
    go_ret
    exact ⟨_, rfl, HM.out _ _, below_chain (below_chain (show Below w.heap.size w (w.drewN nd) from ⟨rfl, rfl, rfl, Nat.le_refl _, fun _ _ => rfl⟩) hb.out) ⟨rfl, rfl, rfl, Nat.le_refl _, fun _ _ => rfl⟩⟩
end Go.Proofs.Ytdjilhahafkpfaa
