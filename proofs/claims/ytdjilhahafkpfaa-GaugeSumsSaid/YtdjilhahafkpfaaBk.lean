/- A block, whole. -/
import Derived.Test.YtdjilhahafkpfaaSl
import Derived.OwnWalk
import Derived.StillTactics
import Derived.Deep.AppendLies
import Derived.Lib.Hide
import Derived.Handy
namespace Go.Proofs.Ytdjilhahafkpfaa
open Go.RowKit Go.Deep
set_option maxRecDepth 100000
/-- A block, whole. -/
def Blk (w : World) (q : Nat) (t : TypeId) (vs : Array Value) : Prop := w.heap[q]? = some (.cells vs t (0, 0))
theorem Blk.cell {w : World} {q : Nat} {t : TypeId} {vs : Array Value} (h : Blk w q t vs) (i : Nat) : w.cell? ⟨q, i, none⟩ = vs[i]? := by
  unfold Blk at h; simp [World.cell?, h]
theorem Blk.froz {w : World} {q : Nat} {t : TypeId} {vs : Array Value} (h : Blk w q t vs) (i : Nat) : w.frozen? ⟨q, i, none⟩ = false := by
  unfold Blk at h; simp [World.frozen?, h]
theorem Blk.lt {w : World} {q : Nat} {t : TypeId} {vs : Array Value} (h : Blk w q t vs) : q < w.heap.size := (Array.getElem?_eq_some_iff.1 h).1
theorem Blk.set {w : World} {q : Nat} {t : TypeId} {vs : Array Value} (h : Blk w q t vs) (i : Nat) (v : Value) : Blk (w.setCell ⟨q, i, none⟩ v) q t (vs.setIfInBounds i v) := by
  unfold Blk at h ⊢; simp [World.setCell, Array.getElem?_modify, h]
theorem Blk.other {w : World} {q p : Nat} {t : TypeId} {vs : Array Value} (h : Blk w q t vs) (hn : p ≠ q) (i : Nat) (v : Value) : Blk (w.setCell ⟨p, i, none⟩ v) q t vs := by
  unfold Blk at h ⊢; simp [World.setCell, Array.getElem?_modify, h, hn]
theorem Blk.alloc {w : World} {q : Nat} {t : TypeId} {vs : Array Value} (h : Blk w q t vs) (o : Obj) : Blk (w.alloc o) q t vs := by
  have := h.lt
  unfold Blk at h ⊢; rw [← h]; exact (World.grownBy_alloc w o none).block q this (by simp)
theorem Blk.grown {w w' : World} {q : Nat} {t : TypeId} {vs : Array Value} {row : Option Nat} (h : Blk w q t vs) (hg : w.grownBy w' row) (hr : some q ≠ row) : Blk w' q t vs := by
  have := h.lt
  unfold Blk at h ⊢; rw [← h]; exact hg.block q this hr
theorem Blk.below {w w' : World} {q B : Nat} {t : TypeId} {vs : Array Value} (h : Blk w q t vs) (hb : Below B w w') (hr : q < B) : Blk w' q t vs := by
  unfold Blk at h ⊢; rw [← h]; exact hb.block q hr
theorem Blk.drewN {w : World} {q : Nat} {t : TypeId} {vs : Array Value} (h : Blk w q t vs) (n : Nat) : Blk (w.drewN n) q t vs := h
theorem heap_alloc_new' (w : World) (o : Obj) (q : Nat) (h : q = w.heap.size) : (w.alloc o).heap[q]? = some o := by subst h; exact heap_alloc_new w o
theorem own_some {w : World} {base : Nat} {e : TypeId} {sz : Nat} {v : Value} {n : Nat} {xs : List Value} (h : w.ownsRow base e sz v n xs) (hn : 0 < n) : ∃ g c, v = .slice (some ⟨g, 0, none⟩) n c ∧ base ≤ g := by
  obtain ⟨-, ⟨rfl, h0⟩ | ⟨g, cap, cur, rfl, hg, -⟩⟩ := h
  · omega
  · exact ⟨_, _, rfl, hg⟩
theorem own_shape' {w : World} {base : Nat} {e : TypeId} {sz : Nat} {v : Value} {n : Nat} {xs : List Value} (h : w.ownsRow base e sz v n xs) : ∃ a c, v = .slice a n c := by
  obtain ⟨-, ⟨rfl, h0⟩ | ⟨g, cap, cur, rfl, -⟩⟩ := h
  · exact ⟨_, _, by rw [h0]⟩
  · exact ⟨_, _, rfl⟩
theorem own_baseB {w : World} {base : Nat} {e : TypeId} {sz : Nat} {v : Value} {n : Nat} {xs : List Value} (h : w.ownsRow base e sz v n xs) {q : Nat} (hq : v.ownBlock = some q) : base ≤ q := by
  obtain ⟨-, ⟨rfl, -⟩ | ⟨g, cap, cur, rfl, hg, -⟩⟩ := h
  · cases hq
  · cases hq; exact hg
theorem own_setCellB {w : World} {base : Nat} {e : TypeId} {sz : Nat} {v : Value} {n : Nat} {xs : List Value} (h : w.ownsRow base e sz v n xs) {a : Addr} (ha : v.ownBlock ≠ some a.block) (u : Value) : (w.setCell a u).ownsRow base e sz v n xs := by
  obtain ⟨hl, h | ⟨g, cap, cur, rfl, hg, hh, r⟩⟩ := h
  · exact ⟨hl, Or.inl h⟩
  · refine ⟨hl, Or.inr ⟨g, cap, cur, rfl, hg, ?_, r⟩⟩
    rw [Below.heap_setCell w a u g (by intro e; apply ha; subst e; rfl)]; exact hh
end Go.Proofs.Ytdjilhahafkpfaa
