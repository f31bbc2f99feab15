/- Rows of tasks: a script of acts, from the start on. -/
import Derived.Test.YtpfdfbmoegajbaaGn
namespace Go.Proofs.Ytpfdfbmoegajbaa
open Go.RowKit Go.Deep
set_option maxRecDepth 100000
/-- On the way: both rows, tasks that fit, nothing old turned. -/
structure Run (W w : World) (p g cap p2 g2 cap2 : Nat) (T : List Tk) : Prop where
  pr : Pair w p g cap p2 g2 cap2 T
  fit : Fit T
  bel : Below W.heap.size W w
  hp : W.heap.size ≤ p
  hg : W.heap.size ≤ g
  hp2 : W.heap.size ≤ p2
  hg2 : W.heap.size ≤ g2
theorem Run.onGG {W w w' : World} {p g cap p2 g2 cap2 : Nat} {T T' : List Tk} (h : Run W w p g cap p2 g2 cap2 T) (hp : Pair w' p g cap p2 g2 cap2 T') (ht : Fit T') (hf : OnlyGG g g2 w w') : Run W w' p g cap p2 g2 cap2 T' :=
  ⟨hp, ht, h.bel.trans (hf.below h.bel.size (by rintro q (e | e); rw [e]; exact h.hg; rw [e]; exact h.hg2)), h.hp, h.hg, h.hp2, h.hg2⟩
theorem Run.below {W w w' : World} {p g cap p2 g2 cap2 : Nat} {T : List Tk} (h : Run W w p g cap p2 g2 cap2 T) (hB : Below w.heap.size w w') : Run W w' p g cap p2 g2 cap2 T :=
  ⟨h.pr.below hB, h.fit, below_chain h.bel hB, h.hp, h.hg, h.hp2, h.hg2⟩
theorem start_run {W w1 w2 : World} {g cap g2 cap2 n : Nat} (h1 : RowAt w1 W.heap.size g cap (fresh n)) (hg : W.heap.size < g) (hB1 : Below W.heap.size W w1) (h2 : RefAt w2 w1.heap.size g2 cap2 (fresh n)) (hg2 : w1.heap.size < g2) (hB2 : Below w1.heap.size w1 w2) : Run W w2 W.heap.size g cap w1.heap.size g2 cap2 (fresh n) := by
  have a := h1.glt
  have b : W.heap.size < w1.heap.size := World.block_lt_of_cell? w1 _ h1.c0
  exact ⟨⟨h1.below hB2, h2, by omega, by omega, by omega⟩, Fit.fresh n, below_chain hB1 hB2, Nat.le_refl _, by omega, by omega, by omega⟩
theorem actT_length (T : List Tk) (k t : Int) (x : Nat) : (actT T k t x).length = T.length := by
  unfold actT
  split
  · exact weightA_length T t x
  · split
    · exact wakeA_length T t
    · split
      · exact sleepA_length T t
      · split
        · rfl
        · exact nextT_length T
theorem run_do (W w : World) (p g cap p2 g2 cap2 : Nat) (T : List Tk) (h : Run W w p g cap p2 g2 cap2 T) (z : Int × Int × Nat) (hz : (-9223372036854775808 ≤ z.1 ∧ z.1 ≤ 9223372036854775807) ∧ (-9223372036854775808 ≤ z.2.1 ∧ z.2.1 ≤ 9223372036854775807) ∧ z.2.2 < 18446744073709551616) :
    Calls Try.prog 16 #[.pointer (some ⟨p, 0, none⟩), .pointer (some ⟨p2, 0, none⟩), .agg #[.int .i64 z.1, .int .i64 z.2.1, .float .f64 z.2.2]] w fun e w' => e = .returned (.bool true) ∧ Run W w' p g cap p2 g2 cap2 (actT T z.1 z.2.1 z.2.2) := by
  refine (do_any w p g cap p2 g2 cap2 T h.pr h.fit z.1 z.2.1 z.2.2 hz.1 hz.2.1 hz.2.2).mono ?_
  rintro e w' ⟨rfl, hp, hf⟩
  exact ⟨rfl, h.onGG hp (h.fit.act _ _ hz.2.2) hf⟩
theorem IsA.one {w W : World} {a : Option Addr} {len cap : Nat} {zs : List (Int × Int × Nat)} (h : IsA W a len cap zs) (hB : Below W.heap.size W w) {i : Nat} (hi : i < len) : ∃ b off, a = some ⟨b, off, none⟩ ∧ w.cell? ⟨b, off + i * 3, none⟩ = some (.int .i64 (zs.getD i (0, 0, 0)).1) ∧ w.cell? ⟨b, off + i * 3 + 1, none⟩ = some (.int .i64 (zs.getD i (0, 0, 0)).2.1) ∧ w.cell? ⟨b, off + i * 3 + 2, none⟩ = some (.float .f64 (zs.getD i (0, 0, 0)).2.2) := by
  have hl := h.hlen
  rcases h.at_ with e | ⟨b, off, e, hb, hc⟩
  · rw [e] at hl; simp at hl; omega
  · obtain ⟨k0, k1, k2⟩ := hc i (by omega)
    exact ⟨b, off, e, (hB.cell (p := ⟨b, off + i * 3, none⟩) hb).trans k0, (hB.cell (p := ⟨b, off + i * 3 + 1, none⟩) hb).trans k1, (hB.cell (p := ⟨b, off + i * 3 + 2, none⟩) hb).trans k2⟩
theorem IsA.wfD {W : World} {a : Option Addr} {len cap : Nat} {zs : List (Int × Int × Nat)} (h : IsA W a len cap zs) {i : Nat} (hi : i < len) : (-9223372036854775808 ≤ (zs.getD i (0, 0, 0)).1 ∧ (zs.getD i (0, 0, 0)).1 ≤ 9223372036854775807) ∧ (-9223372036854775808 ≤ (zs.getD i (0, 0, 0)).2.1 ∧ (zs.getD i (0, 0, 0)).2.1 ≤ 9223372036854775807) ∧ (zs.getD i (0, 0, 0)).2.2 < 18446744073709551616 := by
  have hl := h.hlen
  exact h.wf _ (by rw [List.getD_eq_getElem?_getD, List.getElem?_eq_getElem (by omega)]; exact List.getElem_mem (by omega))
end Go.Proofs.Ytpfdfbmoegajbaa
