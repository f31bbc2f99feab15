/- Rows of tasks: the code's New and find. -/
import Derived.Test.YtpfdfbmoegajbaaBk
import Derived.Test.YtpfdfbmoegajbaaRc
namespace Go.Proofs.Ytpfdfbmoegajbaa
open Go.RowKit Go.Deep
set_option maxRecDepth 100000
/-- A task: awake, its weight, its pass. -/
abbrev Tk := Bool × Nat × Nat
def flatT : List Tk → List Value
  | [] => []
  | t :: T => .bool t.1 :: .float .f64 t.2.1 :: .float .f64 t.2.2 :: flatT T
theorem flatT_length : ∀ T : List Tk, (flatT T).length = T.length * 3
  | [] => rfl
  | t :: T => by simp [flatT, flatT_length T]; omega
theorem flatT_append : ∀ (A B : List Tk), flatT (A ++ B) = flatT A ++ flatT B
  | [], B => rfl
  | t :: A, B => by simp [flatT, flatT_append A B]
def tk0 : Tk := (false, 0, 0)
theorem flatT_get : ∀ (T : List Tk) (i : Nat), i < T.length → (flatT T)[i * 3]? = some (.bool (T.getD i tk0).1) ∧ (flatT T)[i * 3 + 1]? = some (.float .f64 (T.getD i tk0).2.1) ∧ (flatT T)[i * 3 + 2]? = some (.float .f64 (T.getD i tk0).2.2)
  | [], i, h => by simp at h
  | t :: T, 0, _ => by simp [flatT]
  | t :: T, i + 1, h => by
    have ih := flatT_get T i (by simpa using h)
    rw [show (i + 1) * 3 = i * 3 + 3 by omega, show i * 3 + 3 + 1 = (i * 3 + 1) + 3 by omega, show i * 3 + 3 + 2 = (i * 3 + 2) + 3 by omega]
    simpa [flatT] using ih
/-- A row of tasks in memory: its slice in block p, the tasks in block g. -/
structure RowAt (w : World) (p g cap : Nat) (T : List Tk) : Prop where
  c0 : w.cell? ⟨p, 0, none⟩ = some (.slice (some ⟨g, 0, none⟩) T.length cap)
  blk : ∃ cur, Blk w g 60 cur ∧ cur.toList.take (T.length * 3) = flatT T
  ne : p ≠ g
  hc : T.length ≤ cap
  hm : cap ≤ maxLen
  n1 : 1 ≤ T.length
  n8 : T.length ≤ 8
  wf : ∀ t ∈ T, t.2.1 < 18446744073709551616 ∧ t.2.2 < 18446744073709551616
theorem RowAt.task {w : World} {p g cap : Nat} {T : List Tk} (h : RowAt w p g cap T) {i : Nat} (hi : i < T.length) :
    w.cell? ⟨g, i * 3, none⟩ = some (.bool (T.getD i tk0).1) ∧ w.cell? ⟨g, i * 3 + 1, none⟩ = some (.float .f64 (T.getD i tk0).2.1) ∧ w.cell? ⟨g, i * 3 + 2, none⟩ = some (.float .f64 (T.getD i tk0).2.2) := by
  obtain ⟨cur, hb, ht⟩ := h.blk
  have hf := flatT_get T i hi
  rw [← ht] at hf
  have at_ : ∀ j u, j < T.length * 3 → (cur.toList.take (T.length * 3))[j]? = some u → w.cell? ⟨g, j, none⟩ = some u := fun j u hj e => by
    rw [List.getElem?_take_of_lt hj] at e
    rw [hb.cell j]
    simpa using e
  exact ⟨at_ _ _ (by omega) hf.1, at_ _ _ (by omega) hf.2.1, at_ _ _ (by omega) hf.2.2⟩
theorem RowAt.froz {w : World} {p g cap : Nat} {T : List Tk} (h : RowAt w p g cap T) (j : Nat) : w.frozen? ⟨g, j, none⟩ = false := by
  obtain ⟨cur, hb, ht⟩ := h.blk
  exact hb.froz j
theorem RowAt.below {w w' : World} {p g cap : Nat} {T : List Tk} (h : RowAt w p g cap T) (hB : Below w.heap.size w w') : RowAt w' p g cap T := by
  obtain ⟨cur, hb, ht⟩ := h.blk
  exact ⟨(hB.cell (p := ⟨p, 0, none⟩) (World.block_lt_of_cell? w _ h.c0)).trans h.c0, ⟨cur, hb.below hB hb.lt, ht⟩, h.ne, h.hc, h.hm, h.n1, h.n8, h.wf⟩
theorem infoTask : (Try.prog.info? 60).map (fun i => (i.zero, i.size, i.bytes)) = some (some (.agg #[.bool false, .float .f64 0, .float .f64 0]), 3, 24) := by kernel_rfl
def fresh (n : Nat) : List Tk := List.replicate n (false, 4607182418800017408, 0)
theorem fresh_succ (n : Nat) : fresh (n + 1) = fresh n ++ [(false, 4607182418800017408, 0)] := List.replicate_succ'
theorem find_nil (i : Int) (w : World) : Calls Try.prog 24 #[.pointer none, .int .i64 i] w fun e w' => e = .returned (.tuple #[.pointer none, .int .i64 5]) ∧ w = w' := by
  go_enter Try.func24, Try.ntmps24
  go_wp2
  go_ret2
  exact ⟨rfl, rfl⟩
theorem find_out (w : World) (p g cap : Nat) (T : List Tk) (h : RowAt w p g cap T) (i : Int) (hi : i < 0 ∨ (T.length : Int) ≤ i) : Calls Try.prog 24 #[.pointer (some ⟨p, 0, none⟩), .int .i64 i] w fun e w' => e = .returned (.tuple #[.pointer none, .int .i64 1]) ∧ w = w' := by
  have c0 := h.c0
  rcases hi with hi | hi
  all_goals
    go_enter Try.func24, Try.ntmps24
    go_wp2
    all_goals
      go_ret2
      exact ⟨rfl, rfl⟩
theorem find_in (w : World) (p g cap : Nat) (T : List Tk) (h : RowAt w p g cap T) (i : Nat) (hi : i < T.length) : Calls Try.prog 24 #[.pointer (some ⟨p, 0, none⟩), .int .i64 i] w fun e w' => e = .returned (.tuple #[.pointer (some ⟨g, i * 3, none⟩), .int .i64 0]) ∧ w = w' := by
  have c0 := h.c0
  have i0 : (0 : Int) ≤ (i : Int) := Int.natCast_nonneg _
  have i1 : (i : Int) < (T.length : Int) := by omega
  go_enter Try.func24, Try.ntmps24
  go_wp2
  go_ret2
  exact ⟨rfl, rfl⟩
end Go.Proofs.Ytpfdfbmoegajbaa
