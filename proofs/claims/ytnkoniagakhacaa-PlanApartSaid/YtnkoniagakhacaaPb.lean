/- Contracts of the plan's Of. -/
import Derived.Test.YtnkoniagakhacaaPa
import Derived.OwnWalk
import Derived.StillTactics
import Derived.Deep.AppendLies
namespace Go.Proofs.Ytnkoniagakhacaa
open Go.RowKit Go.Deep
set_option maxRecDepth 100000
theorem below_chain {W0 w w' : World} (h : Below W0.heap.size W0 w) (k : Below w.heap.size w w') : Below W0.heap.size W0 w' := h.trans (k.mono h.size)
theorem infoIntP : (Try.prog.info? 3).map (fun i => (i.zero, i.size, i.bytes)) = some (some (.int .i64 0), 1, 8) := by kernel_rfl
/-- The levels above so many counters. -/
def levs (n : Int) : List Int := if 1 < (n + 8 - 1) / 8 then (n + 8 - 1) / 8 :: levs ((n + 8 - 1) / 8) else [(n + 8 - 1) / 8]
termination_by n.toNat
decreasing_by omega
def lsum : List Int → Int
  | [] => 0
  | x :: L => x + lsum L
theorem lsum_app : ∀ A B : List Int, lsum (A ++ B) = lsum A + lsum B
  | [], B => by simp [lsum]
  | x :: A, B => by simp [lsum, lsum_app A B]; omega
def ints (L : List Int) : List Value := L.map (.int .i64)
/-- A block, whole. -/
def Blk (w : World) (q : Nat) (t : TypeId) (vs : Array Value) : Prop := w.heap[q]? = some (.cells vs t (0, 0))
theorem Blk.cell {w : World} {q : Nat} {t : TypeId} {vs : Array Value} (h : Blk w q t vs) (i : Nat) : w.cell? ⟨q, i, none⟩ = vs[i]? := by
  unfold Blk at h; simp [World.cell?, h]
theorem Blk.froz {w : World} {q : Nat} {t : TypeId} {vs : Array Value} (h : Blk w q t vs) (i : Nat) : w.frozen? ⟨q, i, none⟩ = false := by
  unfold Blk at h; simp [World.frozen?, h]
theorem Blk.lt {w : World} {q : Nat} {t : TypeId} {vs : Array Value} (h : Blk w q t vs) : q < w.heap.size := (Array.getElem?_eq_some_iff.1 h).1
theorem Blk.set {w : World} {q : Nat} {t : TypeId} {vs : Array Value} (h : Blk w q t vs) (i : Nat) (v : Value) : Blk (w.setCell ⟨q, i, none⟩ v) q t (vs.setIfInBounds i v) := by
  unfold Blk at h ⊢; simp [World.setCell, Array.getElem?_modify, h]
theorem Blk.other {w : World} {q p : Nat} {t : TypeId} {vs : Array Value} (h : Blk w q t vs) (hn : p ≠ q) (i : Nat) (v : Value) : Blk (w.setCell ⟨p, i, none⟩ v) q t vs := by
  unfold Blk at h ⊢; simp [World.setCell, Array.getElem?_modify, h, hn]
theorem Blk.alloc {w : World} {q : Nat} {t : TypeId} {vs : Array Value} (h : Blk w q t vs) (o : Obj) : Blk (w.alloc o) q t vs := by
  have := h.lt
  unfold Blk at h ⊢; rw [← h]; exact (World.grownBy_alloc w o none).block q this (by simp)
theorem Blk.grown {w w' : World} {q : Nat} {t : TypeId} {vs : Array Value} {row : Option Nat} (h : Blk w q t vs) (hg : w.grownBy w' row) (hr : some q ≠ row) : Blk w' q t vs := by
  have := h.lt
  unfold Blk at h ⊢; rw [← h]; exact hg.block q this hr
theorem Blk.below {w w' : World} {q B : Nat} {t : TypeId} {vs : Array Value} (h : Blk w q t vs) (hb : Below B w w') (hr : q < B) : Blk w' q t vs := by
  unfold Blk at h ⊢; rw [← h]; exact hb.block q hr
theorem Blk.drewN {w : World} {q : Nat} {t : TypeId} {vs : Array Value} (h : Blk w q t vs) (n : Nat) : Blk (w.drewN n) q t vs := h
/-- Ten cells. -/
theorem Blk.ten {w : World} {q : Nat} {t : TypeId} {v0 v1 v2 v3 v4 v5 v6 v7 v8 v9 : Value} (h : Blk w q t #[v0, v1, v2, v3, v4, v5, v6, v7, v8, v9]) :
    w.cell? ⟨q, 0, none⟩ = some v0 ∧ w.cell? ⟨q, 1, none⟩ = some v1 ∧ w.cell? ⟨q, 2, none⟩ = some v2 ∧ w.cell? ⟨q, 3, none⟩ = some v3 ∧ w.cell? ⟨q, 4, none⟩ = some v4 ∧ w.cell? ⟨q, 5, none⟩ = some v5 ∧ w.cell? ⟨q, 6, none⟩ = some v6 ∧ w.cell? ⟨q, 7, none⟩ = some v7 ∧ w.cell? ⟨q, 8, none⟩ = some v8 ∧ w.cell? ⟨q, 9, none⟩ = some v9 :=
  ⟨h.cell 0, h.cell 1, h.cell 2, h.cell 3, h.cell 4, h.cell 5, h.cell 6, h.cell 7, h.cell 8, h.cell 9⟩
theorem levs_cons {n : Int} (h : 1 < (n + 8 - 1) / 8) : levs n = (n + 8 - 1) / 8 :: levs ((n + 8 - 1) / 8) := by rw [levs, if_pos h]
theorem levs_one {n : Int} (h : ¬ 1 < (n + 8 - 1) / 8) : levs n = [(n + 8 - 1) / 8] := by rw [levs, if_neg h]
theorem own_base {w : World} {base : Nat} {e : TypeId} {sz : Nat} {v : Value} {n : Nat} {xs : List Value} (h : w.ownsRow base e sz v n xs) {q : Nat} (hq : v.ownBlock = some q) : base ≤ q := by
  obtain ⟨-, ⟨rfl, -⟩ | ⟨g, cap, cur, rfl, hg, -⟩⟩ := h
  · cases hq
  · cases hq; exact hg
/-- The rest of the levels. -/
def rest (L : List Int) (n : Int) : List Int := if L = [] ∨ 1 < n then levs n else []
theorem rest_step {L : List Int} {n : Int} (h : L = [] ∨ 1 < n) : rest L n = (n + 8 - 1) / 8 :: rest (L ++ [(n + 8 - 1) / 8]) ((n + 8 - 1) / 8) := by
  unfold rest
  rw [if_pos h]
  by_cases h1 : 1 < (n + 8 - 1) / 8
  · rw [levs_cons h1, if_pos (Or.inr h1)]
  · rw [levs_one h1, if_neg (by simp; omega)]
theorem rest_end {L : List Int} {n : Int} (h : ¬ (L = [] ∨ 1 < n)) : rest L n = [] := if_neg h
def emp (w : World) (q : Nat) : Nat := match w.cell? ⟨q, 3, none⟩ with
  | some (.slice none _ _) => 1
  | _ => 0
theorem own_setCell {w : World} {base : Nat} {e : TypeId} {sz : Nat} {v : Value} {n : Nat} {xs : List Value} (h : w.ownsRow base e sz v n xs) {a : Addr} (ha : v.ownBlock ≠ some a.block) (u : Value) : (w.setCell a u).ownsRow base e sz v n xs := by
  obtain ⟨hl, h | ⟨g, cap, cur, rfl, hg, hh, r⟩⟩ := h
  · exact ⟨hl, Or.inl h⟩
  · refine ⟨hl, Or.inr ⟨g, cap, cur, rfl, hg, ?_, r⟩⟩
    rw [Below.heap_setCell w a u g (by intro e; apply ha; subst e; rfl)]; exact hh
theorem emp_le (w : World) (q : Nat) : emp w q ≤ 1 := by unfold emp; split <;> omega
theorem emp_nil {w : World} {q m c : Nat} (h : w.cell? ⟨q, 3, none⟩ = some (.slice none m c)) : emp w q = 1 := by unfold emp; rw [h]
theorem emp_some {w : World} {q m c : Nat} {a : Addr} (h : w.cell? ⟨q, 3, none⟩ = some (.slice (some a) m c)) : emp w q = 0 := by unfold emp; rw [h]
theorem own_some {w : World} {base : Nat} {e : TypeId} {sz : Nat} {v : Value} {n : Nat} {xs : List Value} (h : w.ownsRow base e sz v n xs) (hn : 0 < n) : ∃ g c, v = .slice (some ⟨g, 0, none⟩) n c ∧ base ≤ g := by
  obtain ⟨-, ⟨rfl, h0⟩ | ⟨g, cap, cur, rfl, hg, -⟩⟩ := h
  · omega
  · exact ⟨_, _, rfl, hg⟩
theorem heap_alloc_new' (w : World) (o : Obj) (q : Nat) (h : q = w.heap.size) : (w.alloc o).heap[q]? = some o := by subst h; exact heap_alloc_new w o
theorem Blk.set' {w : World} {q : Nat} {t : TypeId} {vs : Array Value} (h : Blk w q t vs) (i : Nat) (v : Value) (us : Array Value) (e : vs.setIfInBounds i v = us) : Blk (w.setCell ⟨q, i, none⟩ v) q t us := e ▸ h.set i v
theorem Blk.put {w : World} {q : Nat} {t : TypeId} {v0 v1 v2 v3 v4 v5 v6 v7 v8 v9 : Value} (h : Blk w q t #[v0, v1, v2, v3, v4, v5, v6, v7, v8, v9]) (u0 u1 u2 u3 u4 u5 u6 u7 u8 u9 : Value) :
    Blk ((((((((((w.setCell ⟨q, 0, none⟩ u0).setCell ⟨q, 1, none⟩ u1).setCell ⟨q, 2, none⟩ u2).setCell ⟨q, 3, none⟩ u3).setCell ⟨q, 4, none⟩ u4).setCell ⟨q, 5, none⟩ u5).setCell ⟨q, 6, none⟩ u6).setCell ⟨q, 7, none⟩ u7).setCell ⟨q, 8, none⟩ u8).setCell ⟨q, 9, none⟩ u9) q t #[u0, u1, u2, u3, u4, u5, u6, u7, u8, u9] := by
  have h0 := Blk.set' h 0 u0 #[u0, v1, v2, v3, v4, v5, v6, v7, v8, v9] (by simp)
  have h1 := Blk.set' h0 1 u1 #[u0, u1, v2, v3, v4, v5, v6, v7, v8, v9] (by simp)
  have h2 := Blk.set' h1 2 u2 #[u0, u1, u2, v3, v4, v5, v6, v7, v8, v9] (by simp)
  have h3 := Blk.set' h2 3 u3 #[u0, u1, u2, u3, v4, v5, v6, v7, v8, v9] (by simp)
  have h4 := Blk.set' h3 4 u4 #[u0, u1, u2, u3, u4, v5, v6, v7, v8, v9] (by simp)
  have h5 := Blk.set' h4 5 u5 #[u0, u1, u2, u3, u4, u5, v6, v7, v8, v9] (by simp)
  have h6 := Blk.set' h5 6 u6 #[u0, u1, u2, u3, u4, u5, u6, v7, v8, v9] (by simp)
  have h7 := Blk.set' h6 7 u7 #[u0, u1, u2, u3, u4, u5, u6, u7, v8, v9] (by simp)
  have h8 := Blk.set' h7 8 u8 #[u0, u1, u2, u3, u4, u5, u6, u7, u8, v9] (by simp)
  have h9 := Blk.set' h8 9 u9 #[u0, u1, u2, u3, u4, u5, u6, u7, u8, u9] (by simp)
  exact h9
theorem results_cell_tmp {P : Program} {fn : Func} {c k : Tmp} {ty : TypeId} (h : fn.results = #[.cell c ty, .tmp k]) (tmps : Array Value) (w : World) (g : Nat) (t : TypeId) (cs : Array Value) (d : TypeDesc) (hc : tmps.getD c undef = .pointer (some ⟨g, 0, none⟩)) (hg : Blk w g t cs)
    (hu : P.underlying ty = some d) (hd : (match d with | .struct _ | .array _ _ => true | _ => false) = true) (hi : (P.info? ty).map (·.size) = some cs.size) :
    (results fn tmps).run P w = .ok (.tuple #[.agg cs, tmps.getD k undef]) w := by
  have := run_loadVar_row (P := P) w g t ty cs (0, 0) d hg hu hd hi
  simp only [Array.getD_eq_getD_getElem?] at hc
  simp [results, h, hc, asAddr, this]
def cnt (P : Int) : Int := (P + 16 - 1) / 16
def nod (P : Int) : Int := lsum (levs (cnt P))
def hd (P : Int) : Int := P + cnt P + nod P
def hds (B : Int) : Int := (12 + 4 * B + 256 - 1) / 256
abbrev planV (P B : Int) (v : Value) : Value := .agg #[.int .i64 P, .int .i64 B, .int .i64 (cnt P), v, .int .i64 (nod P), .int .i64 (hd P), .int .i64 (hds B), .int .i64 (hd P + hds B), .int .i64 (hd P + hds B + B), .int .i64 (hd P + hds B + B + B)]
set_option maxHeartbeats 1000000 in
theorem planOf_in (w : World) (P B : Int) (hP : 1 ≤ P ∧ P ≤ 4096) (hB : 1 ≤ B ∧ B ≤ 256) :
    Calls Try.prog 9 #[.int .i64 P, .int .i64 B] w fun e w' => ∃ v, e = .returned (.tuple #[planV P B v, .int .i64 0]) ∧ w'.ownsRow (w.heap.size + 2) 3 1 v (levs (cnt P)).length (ints (levs (cnt P))) ∧ Below w.heap.size w w' := by
  go_enter Try.func9, Try.ntmps9
  go_wp2_with (go_at_call 23; refine (parts_any _ _ (by omega) (by omega) _).mono ?_; rintro e w' ⟨rfl, rfl⟩)
  obtain ⟨C, hC⟩ : ∃ C, C = (P + 16 - 1) / 16 := ⟨_, rfl⟩
  rw [← hC]
  have c1 : 1 ≤ C := by omega
  have c2 : C ≤ 256 := by omega
  have HCC := Lib.hid hC; clear hC
  go_loopw [7] (fun iv wr => ∃ (n : Int) (L : List Int) (v : Value), iv = .int .i64 n ∧ 1 ≤ n ∧ n ≤ C ∧ Hid (levs C = L ++ rest L n) ∧ (L = [] → v = .slice none 0 0) ∧ 0 ≤ lsum L ∧ lsum L + 2 * n ≤ 2 * C + 1 ∧ (L.length : Int) + n ≤ 1000 ∧ wr.ownsRow (w.heap.size + 2) 3 1 v L.length (ints L)
      ∧ Blk wr (w.heap.size + 1) 24 #[.int .i64 P, .int .i64 B, .int .i64 C, v, .int .i64 (lsum L), .int .i64 0, .int .i64 0, .int .i64 0, .int .i64 0, .int .i64 0]
      ∧ Blk wr w.heap.size 24 #[.int .i64 0, .int .i64 0, .int .i64 0, .slice none 0 0, .int .i64 0, .int .i64 0, .int .i64 0, .int .i64 0, .int .i64 0, .int .i64 0] ∧ Below w.heap.size w wr)
    (fun iv wr => 2 * (intOf iv).toNat + emp wr (w.heap.size + 1))
  case atStart =>
    refine ⟨C, [], .slice none 0 0, rfl, c1, by omega, ?_, fun _ => rfl, by simp [lsum], by simp [lsum]; omega, by simp; omega, ⟨rfl, Or.inl ⟨rfl, rfl⟩⟩, ?_, ?_, ?_⟩
    · simp [Hid, rest]
    · exact heap_alloc_new' _ _ _ (by simp)
    · exact Blk.alloc (heap_alloc_new w _) _
    · exact ((Below.refl _ _).alloc (Nat.le_refl _) _).alloc (by simp) _
  case round =>
    obtain ⟨n, L, v, rfl, n1, n2, HL, hv, s0, s1, l1, hown, hb1, hb0, hB⟩ := hrel
    obtain ⟨a, m, cc, rfl⟩ : ∃ a m c, v = .slice a m c := by
      obtain ⟨-, ⟨rfl, -⟩ | ⟨g, cap, cur, rfl, -⟩⟩ := hown
      · exact ⟨_, _, _, rfl⟩
      · exact ⟨_, _, _, rfl⟩
    obtain rfl : m = L.length := by
      obtain ⟨-, ⟨e, e2⟩ | ⟨g, cap, cur, e, -⟩⟩ := hown
      · injection e with _ e _; omega
      · injection e
    obtain ⟨d0, d1, d2, d3, d4, d5, d6, d7, d8, d9⟩ := hb1.ten
    have he : n = 1 → L = [] → emp wr (w.heap.size + 1) = 1 := fun _ h => by
      have := hv h
      rw [this] at d3
      exact emp_nil d3
    have He := Lib.hid he; clear he
    obtain ⟨i0, hi, hz0, hz1, hz2⟩ := info_parts infoIntP
    have hc3 : L.length + 1 ≤ maxLen := by unfold maxLen; omega
    have hc4 : (L.length + 1) * 8 ≤ 140737488355328 := by omega
    have hz := hB.size
    have hlt1 := hb1.lt
    have Hc5 : Hid (w.heap.size + 2 ≤ (wr.alloc (.cells #[.int .i64 ((n + 8 - 1) / 8)] 3)).heap.size) := by show _ ≤ _; simp; omega
    have Hc5' : Hid (w.heap.size ≤ (wr.alloc (.cells #[.int .i64 ((n + 8 - 1) / 8)] 3)).heap.size) := by show _ ≤ _; simp; omega
    have Hrow : Hid (∀ k, (Value.slice a L.length cc).ownBlock = some k → w.heap.size ≤ k) := fun k hk => by have := own_base hown hk; omega
    have Hne1 : Hid (some (w.heap.size + 1) ≠ (Value.slice a L.length cc).ownBlock) := fun h => by have := own_base hown h.symm; omega
    have Hne0 : Hid (some w.heap.size ≠ (Value.slice a L.length cc).ownBlock) := fun h => by have := own_base hown h.symm; omega
    by_cases hc : L = [] ∨ 1 < n
    · have HL2 : Hid (levs C = (L ++ [(n + 8 - 1) / 8]) ++ rest (L ++ [(n + 8 - 1) / 8]) ((n + 8 - 1) / 8)) := by
        unfold Hid; rw [HL.out, rest_step hc]; simp
      clear HL
      by_cases h : 1 < n
      · clear hc
        go_wp2_with (first | (go_at_call 23; refine (parts_any _ _ (by omega) (by omega) _).mono ?_; rintro e w' ⟨rfl, rfl⟩) | (at_builtin; go_must (refine wpList_append_own _ rfl _ _ 22 rfl (w.heap.size + 2) 3 i0 (.int .i64 0) 1 8 Try.underlying22 hi hz0 hz1 hz2 rfl (by decide) _ _ _ rfl (hown.alloc _) ⟨wr.heap.size, 0, none⟩ 1 1 [.int .i64 ((n + 8 - 1) / 8)] rfl rfl (World.news_of_block (cs := #[.int .i64 ((n + 8 - 1) / 8)]) (t := 3) (fr := (0, 0)) (heap_alloc_new wr _)) (by simp [Value.oneCell']) hc3 hc4 Hc5.out ?_); intro v' w1 hown1 hgrow1 hnil1; obtain ⟨g, c', rfl, hg⟩ := own_some hown1 (by omega); have k1 := (hb1.alloc _).grown hgrow1 Hne1.out; have k3 := k1.cell 3; have k4 := k1.cell 4; have f3 := k1.froz 3; have f4 := k1.froz 4; simp only [List.getElem?_toArray, List.getElem?_cons_succ, List.getElem?_cons_zero] at k3 k4))
        have hb0' := (hb0.alloc _).grown hgrow1 Hne0.out
        have hBn := (hB.alloc hB.size _).grown hgrow1 Hc5'.out Hrow.out
        go_roundw
        case rel =>
          refine ⟨(n + 8 - 1) / 8, L ++ [(n + 8 - 1) / 8], .slice (some ⟨g, 0, none⟩) (L.length + 1) c', rfl, by omega, by omega, HL2, fun h => absurd h (by simp), by rw [lsum_app]; simp only [lsum]; omega, by rw [lsum_app]; simp only [lsum]; first | omega | (have := HLL.out; omega), by simp only [List.length_append, List.length_cons, List.length_nil]; first | omega | (have := HLL.out; omega), ?_, ?_, ?_, ?_⟩
          · unfold ints; rw [List.map_append, List.length_append]; exact own_setCell (own_setCell hown1 (by simp [Value.ownBlock]; omega) _) (by simp [Value.ownBlock]; omega) _
          · rw [lsum_app]; simp only [lsum, Int.add_zero]; exact (k1.set 3 _).set 4 _
          · exact (hb0'.other (by omega) _ _).other (by omega) _ _
          · exact (hBn.setCell (by simp) _).setCell (by simp) _
        case measure =>
          simp only [intOf]
          have e2 := emp_le wr (w.heap.size + 1)
          rw [emp_some (((k1.set 3 _).set 4 _).cell 3)]
          first | omega | (have e3 := He.out (by omega) HL0.out; omega)
      · have hL0 : L = [] := by rcases hc with h' | h'; exact h'; omega
        have hz0' : ((L.length : Int) == 0) = true := by rw [hL0]; rfl
        have HLL : Hid (L.length = 0 ∧ lsum L = 0) := by rw [hL0]; exact ⟨rfl, rfl⟩
        have HL0 := Lib.hid hL0; clear hL0 hc
        go_wp2_with (first | (go_at_call 23; refine (parts_any _ _ (by omega) (by omega) _).mono ?_; rintro e w' ⟨rfl, rfl⟩) | (at_builtin; go_must (refine wpList_append_own _ rfl _ _ 22 rfl (w.heap.size + 2) 3 i0 (.int .i64 0) 1 8 Try.underlying22 hi hz0 hz1 hz2 rfl (by decide) _ _ _ rfl (hown.alloc _) ⟨wr.heap.size, 0, none⟩ 1 1 [.int .i64 ((n + 8 - 1) / 8)] rfl rfl (World.news_of_block (cs := #[.int .i64 ((n + 8 - 1) / 8)]) (t := 3) (fr := (0, 0)) (heap_alloc_new wr _)) (by simp [Value.oneCell']) hc3 hc4 Hc5.out ?_); intro v' w1 hown1 hgrow1 hnil1; obtain ⟨g, c', rfl, hg⟩ := own_some hown1 (by omega); have k1 := (hb1.alloc _).grown hgrow1 Hne1.out; have k3 := k1.cell 3; have k4 := k1.cell 4; have f3 := k1.froz 3; have f4 := k1.froz 4; simp only [List.getElem?_toArray, List.getElem?_cons_succ, List.getElem?_cons_zero] at k3 k4))
        have hb0' := (hb0.alloc _).grown hgrow1 Hne0.out
        have hBn := (hB.alloc hB.size _).grown hgrow1 Hc5'.out Hrow.out
        go_roundw
        case rel =>
          refine ⟨(n + 8 - 1) / 8, L ++ [(n + 8 - 1) / 8], .slice (some ⟨g, 0, none⟩) (L.length + 1) c', rfl, by omega, by omega, HL2, fun h => absurd h (by simp), by rw [lsum_app]; simp only [lsum]; omega, by rw [lsum_app]; simp only [lsum]; first | omega | (have := HLL.out; omega), by simp only [List.length_append, List.length_cons, List.length_nil]; first | omega | (have := HLL.out; omega), ?_, ?_, ?_, ?_⟩
          · unfold ints; rw [List.map_append, List.length_append]; exact own_setCell (own_setCell hown1 (by simp [Value.ownBlock]; omega) _) (by simp [Value.ownBlock]; omega) _
          · rw [lsum_app]; simp only [lsum, Int.add_zero]; exact (k1.set 3 _).set 4 _
          · exact (hb0'.other (by omega) _ _).other (by omega) _ _
          · exact (hBn.setCell (by simp) _).setCell (by simp) _
        case measure =>
          simp only [intOf]
          have e2 := emp_le wr (w.heap.size + 1)
          rw [emp_some (((k1.set 3 _).set 4 _).cell 3)]
          first | omega | (have e3 := He.out (by omega) HL0.out; omega)
    · obtain rfl : n = 1 := by omega
      have hl0 : ((L.length : Int) == 0) = false := by
        rw [beq_eq_false_iff_ne]; intro e; apply hc; left; exact List.length_eq_zero_iff.1 (by omega)
      have hL : levs C = L := by rw [HL.out, rest_end hc]; simp
      clear hc hv He Hc5 Hc5' Hrow Hne1 Hne0 hi hz0 hz1 hz2 hc3 hc4
      have h5 := hb1.froz 5
      have h6 := hb1.froz 6
      have h7 := hb1.froz 7
      have h8 := hb1.froz 8
      have h9 := hb1.froz 9
      have q0 := hb0.froz 0
      have q1 := hb0.froz 1
      have q2 := hb0.froz 2
      have q3 := hb0.froz 3
      have q4 := hb0.froz 4
      have q5 := hb0.froz 5
      have q6 := hb0.froz 6
      have q7 := hb0.froz 7
      have q8 := hb0.froz 8
      have q9 := hb0.froz 9
      obtain ⟨b0, b1, b2, b3, b4, b5, b6, b7, b8, b9⟩ := hb0.ten
      go_wp2_with (go_at_call 23; refine (parts_any _ _ (by omega) (by omega) _).mono ?_; rintro e w' ⟨rfl, rfl⟩)
      have hne : w.heap.size + 1 ≠ w.heap.size := by omega
      refine bodyPost_ret (results_cell_tmp rfl _ _ _ _ _ _ rfl (Blk.put (((((hb0.other hne 5 _).other hne 6 _).other hne 7 _).other hne 8 _).other hne 9 _) _ _ _ _ _ _ _ _ _ _) rfl rfl (by kernel_rfl)) rfl ?_
      have hn0 : (Value.slice a L.length cc).ownBlock ≠ some w.heap.size := fun h => by have := own_base hown h; omega
      have hn1 : (Value.slice a L.length cc).ownBlock ≠ some (w.heap.size + 1) := fun h => by have := own_base hown h; omega
      obtain rfl : C = cnt P := HCC.out
      subst hL
      refine ⟨.slice a (levs (cnt P)).length cc, rfl, ?_, ?_⟩
      · iterate 10 (refine own_setCell ?_ hn0 _)
        iterate 5 (refine own_setCell ?_ hn1 _)
        exact hown
      · iterate 15 (refine Below.setCell ?_ (by simp) _)
        exact hB
end Go.Proofs.Ytnkoniagakhacaa
