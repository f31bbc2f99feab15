/- Contract of the code's Drop; both heats behind touches and drops. -/
import Derived.Test.YtfkbdijgdhddaaaHm
import Derived.Deep.QuietTactic
namespace Go.Proofs.Ytfkbdijgdhddaaa
open Go.RowKit Go.Deep Go.ChangeMaps
set_option maxRecDepth 100000
theorem IM.wpList_delete {P : Program} {w : World} {ops : Array Oper} {rest : List Oper} {o : Oper} {a : Go.Act} {Q : Exit → Go.Act → World → Prop} {kt e : TypeId} {b : Nat} {l : List (Int × Value)} (hg : o.guard = none) (m x : Operand) (t : TypeId) (hop : o.op = Op.call { callee := Callee.builtin Builtin.delete, args := #[m, x], argTypes := #[t, kt] })
    (ht : P.underlying t = some (.map kt e)) (hk : P.underlying kt = some (.int .i64)) (hm : a.eval m = .map (some b)) (h : IM.Is w b l) (k : Int) (hx : a.eval x = .int .i64 k)
    (hK : ∀ w', IM.Is w' b (IM.eraL l k) → w.grownBy w' (some b) → wpList P ops Q rest (a.put o.dst (.tuple #[])) w') : wpList P ops Q (o :: rest) a w := by
  refine wpList_plain hg fun K' hK' => ?_
  obtain ⟨w', hrun, h1, h2⟩ := h.delete ht hk k
  unfold Oper.wp
  simp [execOp, hop, resolve, invoke, builtin, hm, hx, hrun, Result.andThen]
  exact hK' _ _ (hK w' h1 h2)
theorem keys_ents (L : List (Int × Spot)) : IM.keysL (ents L) = L.map (·.1) := by simp [IM.keysL, ents]
theorem nodup_updS {L : List (Int × Spot)} (h : (L.map (·.1)).Nodup) (k : Int) (s : Spot) : ((updS L k s).map (·.1)).Nodup := by
  rw [← keys_ents, ← upd_ents]
  rw [← keys_ents] at h
  exact IM.nodup_upd h k _
theorem nodup_eraS {L : List (Int × Spot)} (h : (L.map (·.1)).Nodup) (k : Int) : ((eraS L k).map (·.1)).Nodup := by
  rw [← keys_ents, ← era_ents]
  rw [← keys_ents] at h
  exact IM.nodup_era _ h k
theorem Agree.drop {L : List (Int × Spot)} {R : List Ent} (h : Agree L R) {now : Int} (hn : 0 ≤ now) (hs : ∀ j, (spotOf L j).1 < 18446744073709551616 ∧ 0 ≤ (spotOf L j).2 ∧ (spotOf L j).2 ≤ now) (hd : (L.map (·.1)).Nodup) (k : Int) : Agree (eraS L k) (keepS k R) := by
  intro j
  rw [ent_keep, spot_era_b L k j now hn hs hd]
  by_cases hj : k = j
  · right; simp [hj]
  · simp only [if_neg hj]; exact h j
theorem drop_at (w : World) (p b : Nat) (half now : Int) (L : List (Int × Spot)) (h : HeatAt w p half now b L) (hd : (L.map (·.1)).Nodup) (k : Int) :
    Calls Try.prog 10 #[.pointer (some ⟨p, 0, none⟩), .int .i64 k] w fun e w' => e = .returned (.tuple #[]) ∧ HeatAt w' p half now b (eraS L k) ∧ Fr (fun q => q = b) w w' := by
  have H := Lib.hid h
  have HD := Lib.hid hd
  have c2 := h.c2
  have hm := h.m
  have hne := h.ne
  clear h hd
  go_enter Try.func10, Try.ntmps10
  go_wp2_with (at_delete; go_must (refine IM.wpList_delete rfl _ _ _ rfl Try.underlying52 Try.underlying3 rfl hm k rfl ?_); intro w1 hI1 hG1)
  go_end0
  have e : w1.heap[p]? = w.heap[p]? := hG1.block p (World.block_lt_of_cell? w _ c2) (by simp; omega)
  have ec : ∀ o, w1.cell? ⟨p, o, none⟩ = w.cell? ⟨p, o, none⟩ := fun o => World.cell?_of_block (w := w) (a := ⟨p, o, none⟩) e
  have h := H.out
  refine ⟨rfl, ⟨(ec 0).trans h.c0, (ec 1).trans h.c1, (ec 2).trans h.c2, (World.frozen?_of_block (w := w) (a := ⟨p, 1, none⟩) e).trans h.fz, ?_, h.h1, h.h2, h.n0, h.n1, fun j => ?_⟩, (Fr.refl _ w).grown hG1 (fun q hq => by cases hq; exact Or.inl rfl)⟩
  · rw [← era_ents L k]; exact hI1
  · rw [spot_era_b L k j now h.n0 h.sp HD.out]
    have := h.n0
    split
    · exact ⟨by decide, Int.le_refl _, this⟩
    · exact h.sp j
/-- Both heats, side by side, keys told once. -/
structure Both2 (w : World) (B p q r : Nat) (half now : Int) : Prop where
  ex : ∃ L v R, HeatAt w p half now q L ∧ RefAt w r half now B v R ∧ Agree L R ∧ (R.length : Int) ≤ now ∧ (∀ x, v.ownBlock = some x → x ≠ p ∧ x ≠ q) ∧ (L.map (·.1)).Nodup
  hp : B ≤ p
  hq : B ≤ q
  hr : B ≤ r
  pr : p ≠ r
  qr : q ≠ r
  sz : B ≤ w.heap.size
theorem Both2.both {w : World} {B p q r : Nat} {half now : Int} (h : Both2 w B p q r half now) : Both w B p q r half now := by
  obtain ⟨⟨L, v, R, h1, h2, h3, h4, h5, -⟩, a, b, c, d, e, f⟩ := h
  exact ⟨⟨L, v, R, h1, h2, h3, h4, h5⟩, a, b, c, d, e, f⟩
theorem Both2.later {w w' : World} {B p q r : Nat} {half now : Int} (h : Both2 w B p q r half now) (hB : Below w.heap.size w w') : Both2 w' B p q r half now := by
  obtain ⟨⟨L, v, R, hH, hR, hA, hl, hv, hd⟩, a, b, c, d, e, f⟩ := h
  exact ⟨⟨L, v, R, hH.later hB, hR.fr (S := fun _ => False) (Fr.of_below hB) (fun h => h) (fun _ _ h => h), hA, hl, hv, hd⟩, a, b, c, d, e, Nat.le_trans f hB.size⟩
theorem both2_start {W w1 : World} {p q : Nat} {half : Int} (h : HeatAt w1 p half 0 q []) (hp : W.heap.size ≤ p) (hq : W.heap.size ≤ q) (hW : W.heap.size ≤ w1.heap.size) :
    Both2 (w1.alloc (.cells #[.int .i64 half, .int .i64 0, .slice none 0 0] 51)) W.heap.size p q w1.heap.size half 0 := by
  obtain ⟨-, -, -, -, -, -, -⟩ := both_start h hp hq hW
  have lp := World.block_lt_of_cell? w1 _ h.c0
  have lp' : p < w1.heap.size := lp
  have lq := h.m.lt
  refine ⟨⟨[], .slice none 0 0, [], h.later ((Below.refl _ _).alloc (Nat.le_refl _) _), ⟨by go_cell, by go_cell, by go_cell, World.frozen?_alloc_at _ _ _ _ rfl, World.frozen?_alloc_at _ _ _ _ rfl, ⟨rfl, Or.inl ⟨rfl, rfl⟩⟩, by simp [Value.ownBlock], h.h1, h.h2, by omega, by omega, by simp, by simp⟩, fun k => Or.inr ⟨rfl, rfl⟩, by simp, fun x hx => (by cases hx), (by simp)⟩, hp, hq, hW, by omega, by omega, by simp; omega⟩
/-- Behind a touch of both. -/
theorem both2_touch {w2 w3 : World} {B p q r : Nat} {half now : Int} {L : List (Int × Spot)} {v3 : Value} {R : List Ent} {k : Int} {x : Nat} (hA : Agree L R) (hl : (R.length : Int) ≤ now) (hd : (L.map (·.1)).Nodup)
    (h2 : HeatAt w2 p half (now + 1) q (updS L k (x, now + 1))) (h3 : RefAt w3 r half (now + 1) B v3 (touchR R k x (now + 1))) (q3 : ∀ y, v3.ownBlock = some y → w2.heap.size ≤ y) (f3 : Fr (fun y => y = r) w2 w3)
    (hp : B ≤ p) (hq : B ≤ q) (hr : B ≤ r) (pr : p ≠ r) (qr : q ≠ r) (sz : B ≤ w2.heap.size) : Both2 w3 B p q r half (now + 1) := by
  refine ⟨⟨_, v3, _, h2.fr f3 pr qr, h3, hA.touch _ _ _, ?_, ?_, nodup_updS hd _ _⟩, hp, hq, hr, pr, qr, Nat.le_trans sz f3.size⟩
  · have := keep_le k R
    simp [touchR]; omega
  · intro y hy
    have h1 := q3 y hy
    have h5 : p < w2.heap.size := World.block_lt_of_cell? w2 _ h2.c0
    have h4 := h2.m.lt
    omega
/-- Behind a drop of both. -/
theorem both2_drop {w2 w3 : World} {B p q r : Nat} {half now : Int} {L : List (Int × Spot)} {v3 : Value} {R : List Ent} {k : Int} (hA : Agree L R) (hl : (R.length : Int) ≤ now) (hd : (L.map (·.1)).Nodup) (hn : 0 ≤ now) (hs : ∀ j, (spotOf L j).1 < 18446744073709551616 ∧ 0 ≤ (spotOf L j).2 ∧ (spotOf L j).2 ≤ now)
    (h2 : HeatAt w2 p half now q (eraS L k)) (h3 : RefAt w3 r half now B v3 (keepS k R)) (q3 : ∀ y, v3.ownBlock = some y → w2.heap.size ≤ y) (f3 : Fr (fun y => y = r) w2 w3)
    (hp : B ≤ p) (hq : B ≤ q) (hr : B ≤ r) (pr : p ≠ r) (qr : q ≠ r) (sz : B ≤ w2.heap.size) : Both2 w3 B p q r half now := by
  refine ⟨⟨_, v3, _, h2.fr f3 pr qr, h3, hA.drop hn hs hd k, ?_, ?_, nodup_eraS hd _⟩, hp, hq, hr, pr, qr, Nat.le_trans sz f3.size⟩
  · have := keep_le k R
    omega
  · intro y hy
    have h1 := q3 y hy
    have h5 : p < w2.heap.size := World.block_lt_of_cell? w2 _ h2.c0
    have h4 := h2.m.lt
    omega
theorem region_class {P : Program} {C : World → Prop} {id : Nat} {Q : Exit → Go.Act → World → Prop} {a : Go.Act} {w : World} {l : List Oper} (hm : P.follows .mixedOrders = true) (hB : Region.lexB .any l.toArray = true) (hC : C w.drew)
    (h : wpQuiet P l.toArray C (fun a' => ∀ w', C w' → Q .normal a' w') l a) : (Code.region id l.toArray true).wp P Q a w :=
  wp_region_quiet (C := C) hm hB hC (by simpa using h)
theorem q_step {P : Program} {ops : Array Oper} {C : World → Prop} {Q : Go.Act → Prop} {o : Oper} {rest : List Oper} {a : Go.Act} (v : Value) (hw : Region.wanted o (yielded ops a.tmps) = true) (h1 : ∀ w, C w → o.quietAt P a C w v) (h2 : wpQuiet P ops C Q rest (a.put o.dst v)) : wpQuiet P ops C Q (o :: rest) a := by
  unfold wpQuiet; rw [if_pos hw]; exact ⟨v, h1, h2⟩
theorem q_cell {P : Program} {ops : Array Oper} {C : World → Prop} {Q : Go.Act → Prop} {o : Oper} {rest : List Oper} {a : Go.Act} (ty : TypeId) (x : Operand) (hop : o.op = .load ty x) (p : Addr) (v : Value) (d : TypeDesc) (hx : a.eval x = .pointer (some p))
    (hu : P.underlying ty = some d) (hd : (match d with | .struct _ | .array _ _ => true | _ => false) = false) (hw : Region.wanted o (yielded ops a.tmps) = true) (h1 : ∀ w, C w → w.cell? p = some v) (h2 : wpQuiet P ops C Q rest (a.put o.dst v)) : wpQuiet P ops C Q (o :: rest) a := by
  refine q_step v hw (fun w hC => ?_) h2
  have hc := h1 w hC
  have hagg : (isAgg ty).run P w = .ok false w := by
    unfold isAgg
    rw [Sem.run_bind, run_underlying hu w]
    cases d <;> simp_all
  unfold Oper.quietAt
  simp [execOp, hop, hx, Instr.loadAt, Instr.sureAddr, loadVar, hagg, hc, Result.andThen, Oper.quietUpon]
end Go.Proofs.Ytfkbdijgdhddaaa
