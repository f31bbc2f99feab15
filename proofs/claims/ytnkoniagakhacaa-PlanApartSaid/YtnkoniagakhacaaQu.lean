/- Regions that draw, over a class of worlds. -/
import Derived.Test.YtnkoniagakhacaaPm
import Derived.Deep.QuietTactic
namespace Go.Proofs.Ytnkoniagakhacaa
open Go.RowKit Go.Deep
theorem region_class {P : Program} {C : World → Prop} {id : Nat} {Q : Exit → Go.Act → World → Prop} {a : Go.Act} {w : World} {l : List Oper} (hm : P.follows .mixedOrders = true) (hB : Region.lexB .any l.toArray = true) (hC : C w.drew)
    (h : wpQuiet P l.toArray C (fun a' => ∀ w', C w' → Q .normal a' w') l a) : (Code.region id l.toArray true).wp P Q a w :=
  wp_region_quiet (C := C) hm hB hC (by simpa using h)
theorem q_step {P : Program} {ops : Array Oper} {C : World → Prop} {Q : Go.Act → Prop} {o : Oper} {rest : List Oper} {a : Go.Act} (v : Value) (hw : Region.wanted o (yielded ops a.tmps) = true) (h1 : ∀ w, C w → o.quietAt P a C w v) (h2 : wpQuiet P ops C Q rest (a.put o.dst v)) : wpQuiet P ops C Q (o :: rest) a := by
  unfold wpQuiet; rw [if_pos hw]; exact ⟨v, h1, h2⟩
theorem q_load {P : Program} {ops : Array Oper} {C : World → Prop} {Q : Go.Act → Prop} {o : Oper} {rest : List Oper} {a : Go.Act} (ty : TypeId) (x : Operand) (hop : o.op = .load ty x) (g : Nat) (t : TypeId) (cs : Array Value) (d : TypeDesc) (hx : a.eval x = .pointer (some ⟨g, 0, none⟩))
    (hu : P.underlying ty = some d) (hd : (match d with | .struct _ | .array _ _ => true | _ => false) = true) (hi : (P.info? ty).map (·.size) = some cs.size) (hw : Region.wanted o (yielded ops a.tmps) = true) (h1 : ∀ w, C w → Blk w g t cs) (h2 : wpQuiet P ops C Q rest (a.put o.dst (.agg cs))) : wpQuiet P ops C Q (o :: rest) a := by
  refine q_step (.agg cs) hw (fun w hC => ?_) h2
  have := run_loadVar_row (P := P) w g t ty cs (0, 0) d (h1 w hC) hu hd hi
  unfold Oper.quietAt
  simp [execOp, hop, hx, Instr.loadAt, Instr.sureAddr, asAddr, this, Result.andThen, Oper.quietUpon]
theorem q_cell {P : Program} {ops : Array Oper} {C : World → Prop} {Q : Go.Act → Prop} {o : Oper} {rest : List Oper} {a : Go.Act} (ty : TypeId) (x : Operand) (hop : o.op = .load ty x) (p : Addr) (v : Value) (d : TypeDesc) (hx : a.eval x = .pointer (some p))
    (hu : P.underlying ty = some d) (hd : (match d with | .struct _ | .array _ _ => true | _ => false) = false) (hw : Region.wanted o (yielded ops a.tmps) = true) (h1 : ∀ w, C w → w.cell? p = some v) (h2 : wpQuiet P ops C Q rest (a.put o.dst v)) : wpQuiet P ops C Q (o :: rest) a := by
  refine q_step v hw (fun w hC => ?_) h2
  have hc := h1 w hC
  have hagg : (isAgg ty).run P w = .ok false w := by
    unfold isAgg
    rw [Sem.run_bind, run_underlying hu w]
    cases d <;> simp_all
  unfold Oper.quietAt
  simp [execOp, hop, hx, Instr.loadAt, Instr.sureAddr, asAddr, loadVar, hagg, hc, Result.andThen, Oper.quietUpon]
end Go.Proofs.Ytnkoniagakhacaa
