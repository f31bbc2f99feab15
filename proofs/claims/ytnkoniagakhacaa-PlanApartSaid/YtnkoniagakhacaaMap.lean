/- Maps keyed by ints in the call's own memory, as lists of pairs: look-up, store, delete, length. -/
import Derived.Test.YtnkoniagakhacaaRows
import Derived.WalkKit
import Derived.WalkLawsBesides
import Derived.Maps.OwnOps
import Derived.Maps.OwnSet
import Derived.Deep.RegionLaw
namespace Go.Proofs.Ytnkoniagakhacaa.IM
open Go Go.ChangeMaps

def getL : List (Int × Value) → Int → Option Value
  | [], _ => none
  | (a, x) :: l, k => if a = k then some x else getL l k
def updL : List (Int × Value) → Int → Value → List (Int × Value)
  | [], k, v => [(k, v)]
  | (a, x) :: l, k, v => if a = k then (k, v) :: l else (a, x) :: updL l k v
def eraL : List (Int × Value) → Int → List (Int × Value)
  | [], _ => []
  | (a, x) :: l, k => if a = k then l else (a, x) :: eraL l k
def idxL : List (Int × Value) → Int → Nat → Option (Nat × Value)
  | [], _, _ => none
  | (a, x) :: l, k, i => if a = k then some (i, x) else idxL l k (i + 1)

theorem getL_idx (l : List (Int × Value)) (k : Int) (i : Nat) : getL l k = (idxL l k i).map (·.2) := by
  induction l generalizing i with
  | nil => rfl
  | cons p l ih =>
    obtain ⟨a, x⟩ := p
    unfold getL idxL
    split
    · rfl
    · exact ih (i + 1)

/-- The entries read as the pairs. -/
def Reads (es : List MapEntry) (l : List (Int × Value)) : Prop := es.map (fun e => (e.key, e.val)) = l.map (fun p => (Value.int .i64 p.1, p.2))

theorem Reads.nil_iff {es : List MapEntry} (h : Reads es []) : es = [] := by simpa [Reads] using h
theorem Reads.cons_inv {es : List MapEntry} {p : Int × Value} {l : List (Int × Value)} (h : Reads es (p :: l)) : ∃ e r, es = e :: r ∧ e.key = .int .i64 p.1 ∧ e.val = p.2 ∧ Reads r l := by
  cases es with
  | nil => simp [Reads] at h
  | cons e r =>
    simp only [Reads, List.map_cons, List.cons.injEq, Prod.mk.injEq] at h
    exact ⟨e, r, rfl, h.1.1, h.1.2, h.2⟩

theorem findNow_eq : ∀ (l : List (Int × Value)) (es : List MapEntry) (k : Int) (i : Nat), Reads es l → Instr.findNow (.int .i64) (.int .i64 k) es i = some (idxL l k i)
  | [], es, k, i, h => by rw [h.nil_iff]; rfl
  | p :: l, es, k, i, h => by
    obtain ⟨e, r, rfl, h1, h2, h3⟩ := h.cons_inv
    obtain ⟨a, x⟩ := p
    unfold Instr.findNow idxL
    rw [h1]
    simp only [Instr.sameNow, if_true]
    by_cases hk : a = k
    · subst hk; simp at h2; simp [h2]
    · have : (k == a) = false := by simp; omega
      rw [this, if_neg hk]
      exact findNow_eq l r k (i + 1) h3

theorem idx_bounds : ∀ (l : List (Int × Value)) (k : Int) (i j : Nat) (v : Value), idxL l k i = some (j, v) → i ≤ j ∧ j < i + l.length
  | [], _, _, _, _, h => by simp [idxL] at h
  | (a, x) :: l, k, i, j, v, h => by
    unfold idxL at h
    split at h
    · simp at h; simp; omega
    · have := idx_bounds l k (i + 1) j v h; simp; omega

theorem reads_upd_some : ∀ (l : List (Int × Value)) (es : List MapEntry) (k : Int) (i j : Nat) (u v : Value), Reads es l → idxL l k i = some (j, u) →
    Reads (es.modify (j - i) fun e => { e with key := .int .i64 k, val := v }) (updL l k v)
  | [], _, _, _, _, _, _, _, h => by simp [idxL] at h
  | (a, x) :: l, es, k, i, j, u, v, hr, h => by
    obtain ⟨e, r, rfl, h1, h2, h3⟩ := hr.cons_inv
    unfold idxL at h
    unfold updL
    by_cases hk : a = k
    · rw [if_pos hk] at h ⊢
      simp at h
      obtain ⟨rfl, -⟩ := h
      simpa [Reads] using h3
    · rw [if_neg hk] at h ⊢
      have hb := idx_bounds l k (i + 1) j u h
      have ih := reads_upd_some l r k (i + 1) j u v h3 h
      obtain ⟨d, hd⟩ : ∃ d, j - i = d + 1 := ⟨j - i - 1, by omega⟩
      rw [hd]
      rw [show j - (i + 1) = d by omega] at ih
      simp only [Reads, List.modify_succ_cons, List.map_cons, List.cons.injEq, Prod.mk.injEq]
      exact ⟨⟨h1, h2⟩, ih⟩

theorem reads_upd_none : ∀ (l : List (Int × Value)) (es : List MapEntry) (k : Int) (i : Nat) (v : Value) (c : Nat), Reads es l → idxL l k i = none →
    Reads (es ++ [{ key := .int .i64 k, val := v, born := c }]) (updL l k v)
  | [], es, k, i, v, c, hr, h => by rw [hr.nil_iff]; simp [Reads, updL]
  | (a, x) :: l, es, k, i, v, c, hr, h => by
    obtain ⟨e, r, rfl, h1, h2, h3⟩ := hr.cons_inv
    unfold idxL at h
    unfold updL
    by_cases hk : a = k
    · rw [if_pos hk] at h; cases h
    · rw [if_neg hk] at h ⊢
      have ih := reads_upd_none l r k (i + 1) v c h3 h
      simp only [Reads, List.cons_append, List.map_cons, List.cons.injEq, Prod.mk.injEq]
      exact ⟨⟨h1, h2⟩, ih⟩

theorem reads_era_some : ∀ (l : List (Int × Value)) (es : List MapEntry) (k : Int) (i j : Nat) (u : Value), Reads es l → idxL l k i = some (j, u) →
    Reads (es.eraseIdx (j - i)) (eraL l k)
  | [], _, _, _, _, _, _, h => by simp [idxL] at h
  | (a, x) :: l, es, k, i, j, u, hr, h => by
    obtain ⟨e, r, rfl, h1, h2, h3⟩ := hr.cons_inv
    unfold idxL at h
    unfold eraL
    by_cases hk : a = k
    · rw [if_pos hk] at h ⊢
      simp at h
      obtain ⟨rfl, -⟩ := h
      simpa [Reads] using h3
    · rw [if_neg hk] at h ⊢
      have hb := idx_bounds l k (i + 1) j u h
      have ih := reads_era_some l r k (i + 1) j u h3 h
      obtain ⟨d, hd⟩ : ∃ d, j - i = d + 1 := ⟨j - i - 1, by omega⟩
      rw [hd, List.eraseIdx_cons_succ]
      rw [show j - (i + 1) = d by omega] at ih
      simp only [Reads, List.map_cons, List.cons.injEq, Prod.mk.injEq]
      exact ⟨⟨h1, h2⟩, ih⟩
theorem era_none : ∀ (l : List (Int × Value)) (k : Int) (i : Nat), idxL l k i = none → eraL l k = l
  | [], _, _, _ => rfl
  | (a, x) :: l, k, i, h => by
    unfold idxL at h
    unfold eraL
    by_cases hk : a = k
    · rw [if_pos hk] at h; cases h
    · rw [if_neg hk] at h ⊢
      rw [era_none l k (i + 1) h]

/-- Block b is a map that reads as l. -/
def Is (w : World) (b : Nat) (l : List (Int × Value)) : Prop := ∃ es c, w.heap[b]? = some (.map es c) ∧ Reads es.toList l

theorem Is.lt {w : World} {b : Nat} {l : List (Int × Value)} (h : Is w b l) : b < w.heap.size := by
  obtain ⟨es, c, hb, -⟩ := h
  exact (Array.getElem?_eq_some_iff.1 hb).1
theorem Is.of_block {w w' : World} {b : Nat} {l : List (Int × Value)} (h : Is w b l) (e : w'.heap[b]? = w.heap[b]?) : Is w' b l := by
  obtain ⟨es, c, hb, hr⟩ := h
  exact ⟨es, c, by rw [e]; exact hb, hr⟩
theorem Is.made (w : World) : Is (w.alloc (.map #[] 0)) w.heap.size [] := ⟨#[], 0, (MapKept.heap_alloc w _).1, rfl⟩
theorem Is.below {w w' : World} {B b : Nat} {l : List (Int × Value)} (h : Is w b l) (hb : RowKit.Below B w w') (hl : b < B) : Is w' b l := h.of_block (hb.block b hl)

section
variable {P : Program} {w : World} {b : Nat} {l : List (Int × Value)} {t kt e : TypeId}

theorem run_check (hk : P.underlying kt = some (.int .i64)) (em : Bool) (n : Nat) (k : Int) (w : World) : (Instr.checkKey em (n + 1) kt (.int .i64 k)).run P w = .ok () w := by
  rw [Instr.checkKey]
  simp [run_underlying hk]
theorem run_check1 (hk : P.underlying kt = some (.int .i64)) (em : Bool) (k : Int) (w : World) : (Instr.checkKey em 10000 kt (.int .i64 k)).run P w = .ok () w := run_check hk em 9999 k w
theorem run_find (hk : P.underlying kt = some (.int .i64)) {es : List MapEntry} (hr : Reads es l) (k : Int) (w : World) : (Instr.findKey kt (.int .i64 k) es).run P w = .ok (idxL l k 0) w := by
  unfold Instr.findKey
  simp [run_underlying hk, findNow_eq l es k 0 hr]
theorem run_stays (a : Int) (w : World) : (Instr.keyThatStays (.int .i64 a) (.int .i64 a)).run P w = .ok (.int .i64 a) w := by
  have h : ∀ n, Instr.sameBits n (.int .i64 a) (.int .i64 a) = true := fun n => by unfold Instr.sameBits; simp
  unfold Instr.keyThatStays
  rw [h, if_pos rfl]
  rfl

theorem Is.lookup (h : Is w b l) (ht : P.underlying t = some (.map kt e)) (hk : P.underlying kt = some (.int .i64)) {z : Value} (hz : (zeroValue e).run P w = .ok z w) (k : Int) :
    (Instr.lookup t (.map (some b)) (.int .i64 k) false).run P w = .ok ((getL l k).getD z) w := by
  obtain ⟨es, c, hb, hr⟩ := h
  have hf := run_find (w := w) hk hr k
  rw [getL_idx l k 0]
  unfold Instr.lookup
  cases hi : idxL l k 0 with
  | none =>
    rw [hi] at hf
    simp [run_underlying ht, MapKept.run_getObj_map hb, run_check1 hk, hf, hz, Result.andThen]
  | some p =>
    rw [hi] at hf
    simp [run_underlying ht, MapKept.run_getObj_map hb, run_check1 hk, hf, Result.andThen]

theorem idx_key : ∀ (l : List (Int × Value)) (es : List MapEntry) (k : Int) (i j : Nat) (u : Value), Reads es l → idxL l k i = some (j, u) → (es[j - i]?).map (·.key) = some (.int .i64 k)
  | [], _, _, _, _, _, _, h => by simp [idxL] at h
  | (a, x) :: l, es, k, i, j, u, hr, h => by
    obtain ⟨e, r, rfl, h1, h2, h3⟩ := hr.cons_inv
    unfold idxL at h
    by_cases hk : a = k
    · rw [if_pos hk] at h
      simp at h
      obtain ⟨rfl, -⟩ := h
      simp at h1
      simp [h1, hk]
    · rw [if_neg hk] at h
      have hb := idx_bounds l k (i + 1) j u h
      have ih := idx_key l r k (i + 1) j u h3 h
      rw [show j - i = (j - (i + 1)) + 1 by omega]
      simpa using ih

theorem Is.update (h : Is w b l) (ht : P.underlying t = some (.map kt e)) (hk : P.underlying kt = some (.int .i64)) (k : Int) (v : Value) :
    ∃ w', (Instr.mapUpdate t (.map (some b)) (.int .i64 k) v).run P w = .ok () w' ∧ Is w' b (updL l k v) ∧ w.grownBy w' (some b) := by
  obtain ⟨es, c, hb, hr⟩ := h
  have hf := run_find (w := w) hk hr k
  cases hi : idxL l k 0 with
  | none =>
    rw [hi] at hf
    refine ⟨setBlock w b (.map (es.push { key := .int .i64 k, val := v, born := c }) (c + 1)), ?_, ⟨_, _, heap_setBlock_same hb _, ?_⟩, ⟨rfl, rfl, rfl, by simp [setBlock], fun i _ hi => heap_setBlock_other hb _ (fun e => hi (by rw [e]))⟩⟩
    · unfold Instr.mapUpdate
      simp [run_underlying ht, MapKept.run_getObj_map hb, run_check1 hk, hf, MapKept.run_setObj_map _ hb, Result.andThen, setBlock]
    · rw [Array.toList_push]
      exact reads_upd_none l es.toList k 0 v c hr hi
  | some p =>
    obtain ⟨j, u⟩ := p
    rw [hi] at hf
    have hkey := idx_key l es.toList k 0 j u hr hi
    rw [Nat.sub_zero] at hkey
    have hkey' : (es[j]?).map (·.key) = some (.int .i64 k) := by rw [← hkey]; simp
    have hk2 : ((es[j]?).map (·.key)).getD (.int .i64 k) = .int .i64 k := by rw [hkey']; rfl
    refine ⟨setBlock w b (.map (es.modify j fun e => { e with key := .int .i64 k, val := v }) c), ?_, ⟨_, _, heap_setBlock_same hb _, ?_⟩, ⟨rfl, rfl, rfl, by simp [setBlock], fun i _ hi => heap_setBlock_other hb _ (fun e => hi (by rw [e]))⟩⟩
    · unfold Instr.mapUpdate
      simp only [run_underlying ht, MapKept.run_getObj_map hb, run_check1 hk, hf, Sem.run_bind, Result.andThen, hk2, run_stays, MapKept.run_setObj_map _ hb, setBlock]
    · rw [Array.toList_modify]
      exact reads_upd_some l es.toList k 0 j u v hr hi

theorem Is.delete (h : Is w b l) (ht : P.underlying t = some (.map kt e)) (hk : P.underlying kt = some (.int .i64)) (k : Int) :
    ∃ w', (∀ ts s, (Builtin.delete_ #[t, ts] s #[.map (some b), .int .i64 k]).run P w = .ok (.tuple #[]) w') ∧ Is w' b (eraL l k) ∧ w.grownBy w' (some b) := by
  obtain ⟨es, c, hb, hr⟩ := h
  have hf := run_find (w := w) hk hr k
  cases hi : idxL l k 0 with
  | none =>
    rw [hi] at hf
    refine ⟨setBlock w b (.map es c), ?_, ⟨_, _, heap_setBlock_same hb _, ?_⟩, ⟨rfl, rfl, rfl, by simp [setBlock], fun i _ hi => heap_setBlock_other hb _ (fun e => hi (by rw [e]))⟩⟩
    · intro ts s
      unfold Builtin.delete_
      simp [run_underlying ht, MapKept.run_getObj_map hb, run_check1 hk, hf, MapKept.run_setObj_map _ hb, Result.andThen, setBlock]
    · rw [era_none l k 0 hi]; exact hr
  | some p =>
    obtain ⟨j, u⟩ := p
    rw [hi] at hf
    refine ⟨setBlock w b (.map (es.eraseIdxIfInBounds j) c), ?_, ⟨_, _, heap_setBlock_same hb _, ?_⟩, ⟨rfl, rfl, rfl, by simp [setBlock], fun i _ hi => heap_setBlock_other hb _ (fun e => hi (by rw [e]))⟩⟩
    · intro ts s
      unfold Builtin.delete_
      simp [run_underlying ht, MapKept.run_getObj_map hb, run_check1 hk, hf, MapKept.run_setObj_map _ hb, Result.andThen, setBlock]
    · have := reads_era_some l es.toList k 0 j u hr hi
      simpa using this

/-- Look-up at the operation. -/
theorem wpList_lookup {ops : Array Oper} {rest : List Oper} {o : Oper} {a : Act} {Q : Exit → Act → World → Prop}
    (hg : o.guard = none) (m x : Operand) (hop : o.op = Op.lookup t m x false) (ht : P.underlying t = some (.map kt e)) (hkt : P.underlying kt = some (.int .i64)) {z : Value} (hz : (zeroValue e).run P w = .ok z w)
    (hm : a.eval m = .map (some b)) (h : Is w b l) (k : Int) (hx : a.eval x = .int .i64 k)
    (hK : wpList P ops Q rest (a.put o.dst ((getL l k).getD z)) w) : wpList P ops Q (o :: rest) a w := by
  refine wpList_plain hg fun K' hK' => ?_
  have hrun := h.lookup ht hkt hz k
  unfold Oper.wp
  simp [execOp, hop, hm, hx, hrun, Result.andThen]
  exact hK' _ _ hK
/-- Store at the operation. -/
theorem wpList_update {ops : Array Oper} {rest : List Oper} {o : Oper} {a : Act} {Q : Exit → Act → World → Prop}
    (hg : o.guard = none) (m x v : Operand) (hop : o.op = Op.mapUpdate t m x v) (ht : P.underlying t = some (.map kt e)) (hkt : P.underlying kt = some (.int .i64))
    (hm : a.eval m = .map (some b)) (h : Is w b l) (k : Int) (hx : a.eval x = .int .i64 k)
    (hK : ∀ w', Is w' b (updL l k (a.eval v)) → w.grownBy w' (some b) → wpList P ops Q rest (a.put o.dst undef) w') : wpList P ops Q (o :: rest) a w := by
  refine wpList_plain hg fun K' hK' => ?_
  obtain ⟨w', hrun, h1, h2⟩ := h.update ht hkt k (a.eval v)
  unfold Oper.wp
  simp [execOp, hop, hm, hx, hrun, Result.andThen]
  exact hK' _ _ (hK w' h1 h2)
/-- Store, in a region that draws its order. -/
theorem step_update {ops : Array Oper} {o : Oper} {a : Act} {K : Act → World → Prop} {Q : Exit → Act → World → Prop} {E : Prop}
    (hg : o.guard = none) (m x v : Operand) (hop : o.op = Op.mapUpdate t m x v) (ht : P.underlying t = some (.map kt e)) (hkt : P.underlying kt = some (.int .i64))
    (hm : a.eval m = .map (some b)) (h : Is w b l) (k : Int) (hx : a.eval x = .int .i64 k)
    (hK : ∀ w', Is w' b (updL l k (a.eval v)) → w.grownBy w' (some b) → K (a.put o.dst undef) w') :
    if Region.wanted o (yielded ops a.tmps) = true then Oper.wp P o a w K Q else E := by
  have hw : Region.wanted o (yielded ops a.tmps) = true := by simp [Region.wanted, hg]
  rw [if_pos hw]
  obtain ⟨w', hrun, h1, h2⟩ := h.update ht hkt k (a.eval v)
  unfold Oper.wp
  simp [execOp, hop, hm, hx, hrun, Result.andThen]
  exact hK w' h1 h2
end

/-! As functions: what a list of pairs with distinct keys says of a key. -/
theorem get_upd : ∀ (l : List (Int × Value)) (k j : Int) (v : Value), getL (updL l k v) j = if k = j then some v else getL l j
  | [], k, j, v => by simp [updL, getL]
  | (a, x) :: l, k, j, v => by
    unfold updL
    by_cases hk : a = k
    · rw [if_pos hk]; unfold getL
      by_cases hj : k = j <;> simp [hj, hk]
    · rw [if_neg hk]; unfold getL
      rw [get_upd l k j v]
      by_cases hj : a = j
      · have : ¬ k = j := by omega
        simp [hj, this]
      · simp [hj]
def keysL (l : List (Int × Value)) : List Int := l.map (·.1)
theorem keys_upd : ∀ (l : List (Int × Value)) (k : Int) (v : Value), keysL (updL l k v) = if k ∈ keysL l then keysL l else keysL l ++ [k]
  | [], k, v => by simp [keysL, updL]
  | (a, x) :: l, k, v => by
    unfold updL
    by_cases hk : a = k
    · rw [if_pos hk]; simp [keysL, hk]
    · rw [if_neg hk]
      have ih := keys_upd l k v
      have hne : ¬ k = a := by omega
      simp only [keysL, List.map_cons, List.mem_cons, hne, false_or] at ih ⊢
      rw [ih]
      by_cases hm : k ∈ List.map (fun x => x.fst) l <;> simp [hm]
theorem nodup_upd {l : List (Int × Value)} (h : (keysL l).Nodup) (k : Int) (v : Value) : (keysL (updL l k v)).Nodup := by
  rw [keys_upd]
  split
  · exact h
  · rename_i hk
    rw [List.nodup_append]
    refine ⟨h, by simp, ?_⟩
    intro a ha b hb
    simp at hb
    subst hb
    intro e
    subst e
    exact hk ha
theorem get_none : ∀ (l : List (Int × Value)) (k : Int), getL l k = none ↔ k ∉ keysL l
  | [], k => by simp [getL, keysL]
  | (a, x) :: l, k => by
    have ih := get_none l k
    unfold getL
    by_cases hk : a = k
    · simp [hk, keysL]
    · have : ¬ k = a := by omega
      simp only [if_neg hk, keysL, List.map_cons, List.mem_cons, this, false_or]
      exact ih
theorem get_era : ∀ (l : List (Int × Value)), (keysL l).Nodup → ∀ (k j : Int), getL (eraL l k) j = if k = j then none else getL l j
  | [], _, k, j => by simp [eraL, getL]
  | (a, x) :: l, h, k, j => by
    have h' : a ∉ keysL l ∧ (keysL l).Nodup := by simpa [keysL] using h
    unfold eraL
    by_cases hk : a = k
    · rw [if_pos hk]
      by_cases hj : k = j
      · rw [if_pos hj, get_none]; rw [← hj, ← hk]; exact h'.1
      · rw [if_neg hj]; simp [getL, show ¬ a = j by omega]
    · rw [if_neg hk]; unfold getL
      rw [get_era l h'.2 k j]
      by_cases hj : a = j
      · have : ¬ k = j := by omega
        simp [hj, this]
      · simp [hj]
theorem keys_era_sub : ∀ (l : List (Int × Value)) (k : Int), ∀ x ∈ keysL (eraL l k), x ∈ keysL l
  | [], _, x, h => by simp [eraL, keysL] at h
  | (a, y) :: l, k, x, h => by
    unfold eraL at h
    by_cases hk : a = k
    · rw [if_pos hk] at h; simp [keysL] at h ⊢; exact Or.inr h
    · rw [if_neg hk] at h
      simp only [keysL, List.map_cons, List.mem_cons] at h ⊢
      rcases h with h | h
      · exact Or.inl h
      · exact Or.inr (keys_era_sub l k x h)
theorem nodup_era : ∀ (l : List (Int × Value)), (keysL l).Nodup → ∀ k, (keysL (eraL l k)).Nodup
  | [], _, _ => by simp [eraL, keysL]
  | (a, x) :: l, h, k => by
    have h' : a ∉ keysL l ∧ (keysL l).Nodup := by simpa [keysL] using h
    unfold eraL
    by_cases hk : a = k
    · rw [if_pos hk]; exact h'.2
    · rw [if_neg hk]
      have ih := nodup_era l h'.2 k
      simp only [keysL, List.map_cons, List.nodup_cons]
      exact ⟨fun hm => h'.1 (keys_era_sub l k a hm), ih⟩
end Go.Proofs.Ytnkoniagakhacaa.IM
