/- Slices that came in: what the walk is told of them. -/
import Derived.Test.YtdjilhahafkpfaaRows
import Derived.WalkKit
import Derived.WalkLawsBesides
import Derived.ProofKit
import Derived.OpenShut
import Derived.SizedLaws
import Derived.Maps.AppendAt
import Derived.WalkSpells
import Derived.Deep.Slices
import Derived.Deep.Strs
namespace Go.Proofs.Ytdjilhahafkpfaa
open Go.RowKit Go.ChangeShapes Go.WideShapes Go.Deep

/-- A float is stored. -/
@[go_sem] theorem run_store_float {P : Program} (w : World) (a : Addr) (m : Mode) (k : FloatKind) (b : Nat) : (store a (.float k b) m).run P w = stored P w a (.float k b) m := run_store P w a _ m rfl
/-- A slice of numbers: its words. -/
structure IsF (w : World) (a : Option Addr) (len cap : Nat) (zs : List Nat) : Prop where
  hlen : len = zs.length
  hcap : len ≤ cap
  hmax : cap ≤ maxLen
  wf : ∀ n ∈ zs, n < 18446744073709551616
  at_ : zs = [] ∨ ∃ b off, a = some ⟨b, off, none⟩ ∧ b < w.heap.size ∧ ∀ i, i < zs.length → w.cell? ⟨b, off + i, none⟩ = some (.float .f64 (zs.getD i 0))
/-- A slice of ints. -/
structure IsI (w : World) (a : Option Addr) (len cap : Nat) (zs : List Int) : Prop where
  hlen : len = zs.length
  hcap : len ≤ cap
  hmax : cap ≤ maxLen
  wf : ∀ n ∈ zs, -9223372036854775808 ≤ n ∧ n ≤ 9223372036854775807
  at_ : zs = [] ∨ ∃ b off, a = some ⟨b, off, none⟩ ∧ b < w.heap.size ∧ ∀ i, i < zs.length → w.cell? ⟨b, off + i, none⟩ = some (.int .i64 (zs.getD i 0))
/-- A slice of acts: two ints and a number each. -/
structure IsA (w : World) (a : Option Addr) (len cap : Nat) (zs : List (Int × Int × Nat)) : Prop where
  hlen : len = zs.length
  hcap : len ≤ cap
  hmax : cap ≤ maxLen
  wf : ∀ n ∈ zs, (-9223372036854775808 ≤ n.1 ∧ n.1 ≤ 9223372036854775807) ∧ (-9223372036854775808 ≤ n.2.1 ∧ n.2.1 ≤ 9223372036854775807) ∧ n.2.2 < 18446744073709551616
  at_ : zs = [] ∨ ∃ b off, a = some ⟨b, off, none⟩ ∧ b < w.heap.size ∧ ∀ i, i < zs.length → w.cell? ⟨b, off + i * 3, none⟩ = some (.int .i64 (zs.getD i (0, 0, 0)).1) ∧ w.cell? ⟨b, off + i * 3 + 1, none⟩ = some (.int .i64 (zs.getD i (0, 0, 0)).2.1) ∧ w.cell? ⟨b, off + i * 3 + 2, none⟩ = some (.float .f64 (zs.getD i (0, 0, 0)).2.2)

section
variable {H : Type} {enc : TypeId × Value → H} {P : Program} {w : World} {base : Nat} {spare : Nat → Bool} {held : Bool}
theorem trod_float {t : TypeId} {fuel : Nat} {cs : List Value} {x : DataW H × List MemPlace} (ht : P.underlying t = some (.float .f64)) (h : DataW.trod enc P w base spare held fuel t cs = some x) :
    ∃ b, cs = [.float .f64 b] ∧ x = (.lit (.float .f64 b), []) ∧ b < 18446744073709551616 := by
  have h1 : ∃ b, cs = [.float .f64 b] ∧ x = (.lit (.float .f64 b), []) ∧ (Lit.float .f64 b).wf = true := by
    cases fuel with
    | zero => simp [DataW.trod] at h
    | succ n =>
      unfold DataW.trod at h
      rw [ht] at h
      split at h <;> simp_all
  obtain ⟨b, e1, e2, e3⟩ := h1
  exact ⟨b, e1, e2, by simpa [Lit.wf] using e3⟩

/-- The elements of a slice, one value each. -/
theorem open_each {α : Type} [Inhabited α] {t e : TypeId} {a : Option Addr} {len cap : Nat} {d : DataW H} {ps : List MemPlace} (ht : P.underlying t = some (.slice e)) (h : DataW.Trod enc P w 0 (fun _ => true) true t (.slice a len cap) d ps)
    (Q : α → Addr → Prop) (hpos : 0 < P.cellsOf e)
    (hQ : ∀ (x : Addr) cs' n y, w.cells? 0 x (P.cellsOf e) = some cs' → DataW.trod enc P w 0 (fun _ => true) true n e cs' = some y → ∃ v : α, Q v x) :
    len ≤ cap ∧ cap ≤ maxLen ∧ ((d = .nil ∧ len = 0 → False) → ∃ el sp, d = .slice el sp ∧ el.length = len) ∧ (len = 0 ∨ ∃ x, a = some x ∧ x.block < w.heap.size ∧ ∃ vs : List α, vs.length = len ∧ ∀ i (hi : i < vs.length), Q vs[i] (x.add (i * P.cellsOf e))) := by
  obtain ⟨fuel, hf⟩ := h
  rcases open_slice ht hf with ⟨hcs, hx⟩ | ⟨x, len', cap', m, n, D, Pl, hcs, _, hl, hm, hmm, hx, hel⟩
  · simp [Value.cells] at hcs
    obtain ⟨rfl, rfl, rfl⟩ := hcs
    simp only [Prod.mk.injEq] at hx
    exact ⟨Nat.le_refl _, by unfold maxLen; omega, fun H' => (H' ⟨hx.1, rfl⟩).elim, Or.inl rfl⟩
  · simp [Value.cells] at hcs
    obtain ⟨rfl, rfl, rfl⟩ := hcs
    simp only [Prod.mk.injEq] at hx
    refine ⟨hl, hm, fun _ => ⟨_, _, hx.1, by simp⟩, ?_⟩
    by_cases h0 : len = 0
    · exact Or.inl h0
    · right
      simp only [if_true] at hmm
      subst hmm
      have hb : x.block < w.heap.size := by
        obtain ⟨cs', h1, h2⟩ := hel 0 (by omega)
        unfold World.cells? at h1
        rw [if_pos (Nat.zero_le _)] at h1
        obtain ⟨c, hc⟩ : ∃ c, P.cellsOf e = c + 1 := ⟨P.cellsOf e - 1, by omega⟩
        rw [hc, List.range_succ_eq_map] at h1
        simp only [List.mapM_cons, Option.bind_eq_bind, Option.bind_eq_some_iff] at h1
        obtain ⟨v, hv, -⟩ := h1
        have := World.block_lt_of_cell? w _ hv
        simpa [Addr.add] using this
      refine ⟨x, rfl, hb, ?_⟩
      have hall : ∀ i, i < len → ∃ v : α, Q v (x.add (i * P.cellsOf e)) := by
        intro i hi
        obtain ⟨cs', h1, h2⟩ := hel i (by omega)
        exact hQ _ cs' n _ h1 h2
      clear hf hx hel
      have : ∀ k, k ≤ len → ∃ vs : List α, vs.length = k ∧ ∀ i (hi : i < vs.length), Q vs[i] (x.add (i * P.cellsOf e)) := by
        intro k
        induction k with
        | zero => intro _; exact ⟨[], rfl, fun i hi => absurd hi (by simp)⟩
        | succ k ih =>
          intro hk
          obtain ⟨vs, hvl, hvs⟩ := ih (by omega)
          obtain ⟨v, hv⟩ := hall k (by omega)
          refine ⟨vs ++ [v], by simp [hvl], fun i hi => ?_⟩
          by_cases hik : i < vs.length
          · rw [List.getElem_append_left hik]; exact hvs i hik
          · have : i = k := by simp at hi; omega
            subst this
            rw [List.getElem_append_right (by omega)]
            simpa [hvl] using hv
      exact this len (Nat.le_refl _)

theorem getD_at {α : Type} {l : List α} {i : Nat} (d : α) (hi : i < l.length) : l.getD i d = l[i] := by simp [List.getD, hi]
theorem add_none (b off k : Nat) : (Addr.mk b off none).add k = ⟨b, off + k, none⟩ := by
  unfold Addr.add
  split
  · rename_i h; subst h; rfl
  · rfl
theorem add_spot {w : World} {x : Addr} {v : Value} (h : w.cell? (x.add 0) = some v) : x = ⟨x.block, x.off, none⟩ := by
  obtain ⟨b, off, spot⟩ := x
  have hspot : spot = none := by simpa [Addr.add] using World.cell?_spot h
  subst hspot; rfl

theorem open_f {t e : TypeId} {a : Option Addr} {len cap : Nat} {d : DataW H} {ps : List MemPlace} (ht : P.underlying t = some (.slice e)) (he : P.underlying e = some (.float .f64)) (hc : P.cellsOf e = 1) (h : DataW.Trod enc P w 0 (fun _ => true) true t (.slice a len cap) d ps) :
    (∃ zs, IsF w a len cap zs) ∧ ((d = .nil ∧ len = 0 → False) → ∃ el sp, d = .slice el sp ∧ el.length = len) := by
  obtain ⟨h1, h2, h3, h4⟩ := open_each (α := Nat) ht h (fun v x => w.cell? x = some (.float .f64 v) ∧ v < 18446744073709551616) (by omega) (fun x cs' n y hcs hy => by
    obtain ⟨b, rfl, -, hb⟩ := trod_float he hy
    rw [hc] at hcs
    exact ⟨b, cell_of_cells?_one hcs, hb⟩)
  refine ⟨?_, h3⟩
  rcases h4 with h4 | ⟨x, rfl, hb, vs, hvl, hvs⟩
  · exact ⟨[], by simp [h4], h1, h2, by simp, Or.inl rfl⟩
  · refine ⟨vs, hvl.symm, h1, h2, ?_, ?_⟩
    · intro n hn
      obtain ⟨i, hi, rfl⟩ := List.getElem_of_mem hn
      exact (hvs i hi).2
    · by_cases h0 : vs = []
      · exact Or.inl h0
      · right
        have hp : 0 < vs.length := List.length_pos_iff.2 h0
        have hx := add_spot (w := w) (x := x) (by have := (hvs 0 hp).1; rwa [Nat.zero_mul] at this)
        refine ⟨x.block, x.off, congrArg some hx, hb, fun i hi => ?_⟩
        have := (hvs i hi).1
        rw [hc, Nat.mul_one, hx, add_none] at this
        rw [getD_at _ hi]
        exact this

theorem open_i {t e : TypeId} {a : Option Addr} {len cap : Nat} {d : DataW H} {ps : List MemPlace} (ht : P.underlying t = some (.slice e)) (he : P.underlying e = some (.int .i64)) (hc : P.cellsOf e = 1) (h : DataW.Trod enc P w 0 (fun _ => true) true t (.slice a len cap) d ps) :
    (∃ zs, IsI w a len cap zs) ∧ ((d = .nil ∧ len = 0 → False) → ∃ el sp, d = .slice el sp ∧ el.length = len) := by
  obtain ⟨h1, h2, h3, h4⟩ := open_each (α := Int) ht h (fun v x => w.cell? x = some (.int .i64 v) ∧ (-9223372036854775808 ≤ v ∧ v ≤ 9223372036854775807)) (by omega) (fun x cs' n y hcs hy => by
    obtain ⟨b, rfl, -, hb⟩ := DataW.trod_int he hy
    rw [hc] at hcs
    exact ⟨b, cell_of_cells?_one hcs, bounds_i64 hb⟩)
  refine ⟨?_, h3⟩
  rcases h4 with h4 | ⟨x, rfl, hb, vs, hvl, hvs⟩
  · exact ⟨[], by simp [h4], h1, h2, by simp, Or.inl rfl⟩
  · refine ⟨vs, hvl.symm, h1, h2, ?_, ?_⟩
    · intro n hn
      obtain ⟨i, hi, rfl⟩ := List.getElem_of_mem hn
      exact (hvs i hi).2
    · by_cases h0 : vs = []
      · exact Or.inl h0
      · right
        have hp : 0 < vs.length := List.length_pos_iff.2 h0
        have hx := add_spot (w := w) (x := x) (by have := (hvs 0 hp).1; rwa [Nat.zero_mul] at this)
        refine ⟨x.block, x.off, congrArg some hx, hb, fun i hi => ?_⟩
        have := (hvs i hi).1
        rw [hc, Nat.mul_one, hx, add_none] at this
        rw [getD_at _ hi]
        exact this

theorem open_a {t e i1 i2 f3 : TypeId} {g0 g1 g2 : Field} {a : Option Addr} {len cap : Nat} {d : DataW H} {ps : List MemPlace} (ht : P.underlying t = some (.slice e)) (he : P.underlying e = some (.struct #[g0, g1, g2]))
    (t0 : g0.type = i1) (t1 : g1.type = i2) (t2 : g2.type = f3) (o0 : g0.offset = 0) (o1 : g1.offset = 1) (o2 : g2.offset = 2)
    (u0 : P.underlying i1 = some (.int .i64)) (u1 : P.underlying i2 = some (.int .i64)) (u2 : P.underlying f3 = some (.float .f64)) (c0 : P.cellsOf i1 = 1) (c1 : P.cellsOf i2 = 1) (c2 : P.cellsOf f3 = 1) (hc : P.cellsOf e = 3)
    (h : DataW.Trod enc P w 0 (fun _ => true) true t (.slice a len cap) d ps) :
    (∃ zs, IsA w a len cap zs) ∧ ((d = .nil ∧ len = 0 → False) → ∃ el sp, d = .slice el sp ∧ el.length = len) := by
  obtain ⟨h1, h2, h3, h4⟩ := open_each (α := Int × Int × Nat) ht h (fun v x => (w.cell? (x.add 0) = some (.int .i64 v.1) ∧ w.cell? (x.add 1) = some (.int .i64 v.2.1) ∧ w.cell? (x.add 2) = some (.float .f64 v.2.2)) ∧ (-9223372036854775808 ≤ v.1 ∧ v.1 ≤ 9223372036854775807) ∧ (-9223372036854775808 ≤ v.2.1 ∧ v.2.1 ≤ 9223372036854775807) ∧ v.2.2 < 18446744073709551616) (by omega) (fun x cs' n y hcs hy => by
    obtain ⟨y0, y1, y2, m, rfl, hl, r0, r1, r2⟩ := trod_struct3 he hy
    rw [t0, o0, c0] at r0
    rw [t1, o1, c1] at r1
    rw [t2, o2, c2] at r2
    obtain ⟨v0, e0, -, b0⟩ := DataW.trod_int u0 r0
    obtain ⟨v1, e1, -, b1⟩ := DataW.trod_int u1 r1
    obtain ⟨v2, e2, -, b2⟩ := trod_float u2 r2
    rw [hc] at hcs hl
    have e : cs' = [.int .i64 v0, .int .i64 v1, .float .f64 v2] := by
      match cs', hl with
      | [q0, q1, q2], _ => simp at e0 e1 e2; simp [e0, e1, e2]
    subst e
    unfold World.cells? at hcs
    rw [if_pos (Nat.zero_le _)] at hcs
    have hcs' : (do let q0 ← w.cell? (x.add 0); let q1 ← w.cell? (x.add 1); let q2 ← w.cell? (x.add 2); pure [q0, q1, q2]) = some [Value.int .i64 v0, .int .i64 v1, .float .f64 v2] := by
      rw [← hcs, show List.range 3 = [0, 1, 2] from rfl]
      simp only [List.mapM_cons, List.mapM_nil]
      cases w.cell? (x.add 0) <;> cases w.cell? (x.add 1) <;> cases w.cell? (x.add 2) <;> rfl
    simp only [Option.bind_eq_bind, Option.bind_eq_some_iff] at hcs'
    obtain ⟨q0, a0, q1, a1, q2, a2, hq⟩ := hcs'
    simp at hq
    obtain ⟨rfl, rfl, rfl⟩ := hq
    exact ⟨(v0, v1, v2), ⟨a0, a1, a2⟩, bounds_i64 b0, bounds_i64 b1, b2⟩)
  refine ⟨?_, h3⟩
  rcases h4 with h4 | ⟨x, rfl, hb, vs, hvl, hvs⟩
  · exact ⟨[], by simp [h4], h1, h2, by simp, Or.inl rfl⟩
  · refine ⟨vs, hvl.symm, h1, h2, ?_, ?_⟩
    · intro n hn
      obtain ⟨i, hi, rfl⟩ := List.getElem_of_mem hn
      exact (hvs i hi).2
    · by_cases h0 : vs = []
      · exact Or.inl h0
      · right
        have hp : 0 < vs.length := List.length_pos_iff.2 h0
        have hx : x = ⟨x.block, x.off, none⟩ := by
          have := (hvs 0 hp).1.1
          rw [Nat.zero_mul] at this
          obtain ⟨b, off, spot⟩ := x
          have hspot : spot = none := by simpa [Addr.add] using World.cell?_spot this
          subst hspot; rfl
        refine ⟨x.block, x.off, congrArg some hx, hb, fun i hi => ?_⟩
        have := (hvs i hi).1
        rw [hc, hx] at this
        simp only [add_none, Nat.add_zero] at this
        rw [getD_at _ hi]
        exact this

/-- How long a slice that came in can be. -/
theorem reach_slice {ts : List TypeId} {ds : List (DataW H)} (hsz : (DataW.weightsEach P ts ds).all (· ≤ reachBytes) = true) {j : Nat} {t e : TypeId} {d : DataW H} (ht : ts[j]? = some t) (hd : ds[j]? = some d) (hu : P.underlying t = some (.slice e)) {len k : Nat} (hk : P.bytesOf e = k)
    (hf : (d = .nil ∧ len = 0 → False) → ∃ el sp, d = .slice el sp ∧ el.length = len) : len * k ≤ 140737488351232 := by
  by_cases h0 : len = 0
  · subst h0; omega
  · obtain ⟨el, sp, rfl, hl⟩ := hf (fun h => h0 h.2)
    have := sized_slice hsz ht hd hu
    rw [hk, hl] at this
    have h2 : len * k ≤ (len + sp.length) * k := Nat.mul_le_mul_right _ (by omega)
    have h3 : reachBytes = 140737488351232 := rfl
    omega
end

/-- Of what was there only the blocks of S may have turned. -/
structure Fr (S : Nat → Prop) (w w' : World) : Prop where
  os : w'.os = w.os
  tape : w'.tape = w.tape
  output : w'.output = w.output
  size : w.heap.size ≤ w'.heap.size
  block : ∀ q, q < w.heap.size → ¬ S q → w'.heap[q]? = w.heap[q]?
theorem Fr.refl (S : Nat → Prop) (w : World) : Fr S w w := ⟨rfl, rfl, rfl, Nat.le_refl _, fun _ _ _ => rfl⟩
theorem Fr.trans {S : Nat → Prop} {a b c : World} (h : Fr S a b) (k : Fr S b c) : Fr S a c :=
  ⟨k.os.trans h.os, k.tape.trans h.tape, k.output.trans h.output, Nat.le_trans h.size k.size, fun q hq hs => (k.block q (Nat.lt_of_lt_of_le hq h.size) hs).trans (h.block q hq hs)⟩
theorem Fr.mono {S T : Nat → Prop} {a b : World} (h : Fr S a b) (hs : ∀ q, S q → T q) : Fr T a b :=
  ⟨h.os, h.tape, h.output, h.size, fun q hq ht => h.block q hq (fun x => ht (hs q x))⟩
/-- What is new to a may turn freely. -/
theorem Fr.trans_new {S T : Nat → Prop} {a b c : World} (h : Fr S a b) (k : Fr T b c) (hs : ∀ q, T q → S q ∨ a.heap.size ≤ q) : Fr S a c :=
  ⟨k.os.trans h.os, k.tape.trans h.tape, k.output.trans h.output, Nat.le_trans h.size k.size, fun q hq ht => (k.block q (Nat.lt_of_lt_of_le hq h.size) (fun x => by rcases hs q x with y | y; exact ht y; omega)).trans (h.block q hq ht)⟩
theorem Fr.of_below {S : Nat → Prop} {w w' : World} (h : Below w.heap.size w w') : Fr S w w' := ⟨h.os, h.tape, h.output, h.size, fun q hq _ => h.block q hq⟩
theorem Fr.drew {S : Nat → Prop} {a b : World} (h : Fr S a b) : Fr S a b.drew := ⟨h.os, h.tape, h.output, h.size, h.block⟩
theorem Fr.drewN {S : Nat → Prop} {a b : World} (h : Fr S a b) (n : Nat) : Fr S a (b.drewN n) := ⟨h.os, h.tape, h.output, h.size, h.block⟩
theorem Fr.alloc {S : Nat → Prop} {a b : World} (h : Fr S a b) (o : Obj) : Fr S a (b.alloc o) :=
  h.trans (Fr.of_below ((Below.refl _ _).alloc (Nat.le_refl _) o))
theorem Fr.setCell {S : Nat → Prop} {a b : World} (h : Fr S a b) {x : Addr} (hx : S x.block ∨ a.heap.size ≤ x.block) (v : Value) : Fr S a (b.setCell x v) :=
  ⟨h.os, h.tape, h.output, by have : (b.setCell x v).heap.size = b.heap.size := (by simp); rw [this]; exact h.size, fun q hq hs => by
    rw [Below.heap_setCell b x v q (by intro e; subst e; rcases hx with y | y; exact hs y; omega)]; exact h.block q hq hs⟩
theorem Fr.grown {S : Nat → Prop} {a b c : World} {row : Option Nat} (h : Fr S a b) (hg : b.grownBy c row) (hr : ∀ k, row = some k → S k ∨ a.heap.size ≤ k) : Fr S a c :=
  ⟨hg.os.trans h.os, hg.tape.trans h.tape, hg.output.trans h.output, Nat.le_trans h.size hg.size, fun q hq hs => (hg.block q (Nat.lt_of_lt_of_le hq h.size) (by intro e; rcases hr q e.symm with y | y; exact hs y; omega)).trans (h.block q hq hs)⟩
theorem Fr.below {S : Nat → Prop} {w w' : World} (h : Fr S w w') {B : Nat} (hB : B ≤ w.heap.size) (hS : ∀ q, S q → B ≤ q) : Below B w w' :=
  ⟨h.os, h.tape, h.output, h.size, fun q hq => h.block q (Nat.lt_of_lt_of_le hq hB) (fun x => by have := hS q x; omega)⟩
theorem Fr.cell {S : Nat → Prop} {w w' : World} (h : Fr S w w') {p : Addr} (hp : p.block < w.heap.size) (hs : ¬ S p.block) : w'.cell? p = w.cell? p := World.cell?_of_block (w := w) (h.block p.block hp hs)
theorem Fr.frozen {S : Nat → Prop} {w w' : World} (h : Fr S w w') {p : Addr} (hp : p.block < w.heap.size) (hs : ¬ S p.block) : w'.frozen? p = w.frozen? p := World.frozen?_of_block (w := w) (h.block p.block hp hs)
end Go.Proofs.Ytdjilhahafkpfaa
