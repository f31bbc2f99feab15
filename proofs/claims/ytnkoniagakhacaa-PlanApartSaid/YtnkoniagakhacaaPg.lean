/- Contracts of SameInts and plan.Need. -/
import Derived.Test.YtnkoniagakhacaaPf
import Derived.Test.YtnkoniagakhacaaMap
import Derived.Carry
namespace Go.Proofs.Ytnkoniagakhacaa
open Go.RowKit Go.Deep Go.ChangeMaps
set_option maxRecDepth 100000
theorem IM.Is.len {P : Program} {w : World} {b : Nat} {l : List (Int × Value)} (h : IM.Is w b l) {t kt e : TypeId} (ht : P.underlying t = some (.map kt e)) (ty : TypeId) : (Builtin.len_ #[t] ty #[.map (some b)]).run P w = .ok (.int .i64 l.length) w := by
  obtain ⟨es, c, hb, hr⟩ := h
  have hl : l.length = es.size := by
    have := congrArg List.length hr
    simpa using this.symm
  rw [hl]
  simp [Builtin.len_, run_underlying ht, MapKept.run_getObj_map hb, goInt, Result.andThen]
theorem IM.wpList_len {P : Program} {w : World} {ops : Array Oper} {rest : List Oper} {o : Oper} {a : Act} {Q : Exit → Act → World → Prop} {kt e : TypeId} {b : Nat} {l : List (Int × Value)} (hg : o.guard = none) (m : Operand) (t : TypeId) (hop : o.op = Op.call { callee := Callee.builtin Builtin.len, args := #[m], argTypes := #[t] })
    (ht : P.underlying t = some (.map kt e)) (hm : a.eval m = .map (some b)) (h : IM.Is w b l)
    (hK : wpList P ops Q rest (a.put o.dst (.int .i64 l.length)) w) : wpList P ops Q (o :: rest) a w := by
  refine wpList_plain hg fun K' hK' => ?_
  unfold Oper.wp
  simp [execOp, hop, resolve, invoke, builtin, hm, h.len ht o.type, Result.andThen]
  exact hK' _ _ hK
theorem Fr.trans' {S : Nat → Prop} {a b c : World} (h : Fr S a b) (k : Below b.heap.size b c) : Fr S a c := h.trans (Fr.of_below k)
theorem IsI.fr {w w' : World} {a : Option Addr} {len cap : Nat} {zs : List Int} (h : IsI w a len cap zs) {S : Nat → Prop} (hb : Fr S w w') (ha : ∀ x, x < w.heap.size → ¬ S x) : IsI w' a len cap zs := by
  refine ⟨h.hlen, h.hcap, h.hmax, h.wf, ?_⟩
  rcases h.at_ with e | ⟨b, off, rfl, hlt, hc⟩
  · exact Or.inl e
  · exact Or.inr ⟨b, off, rfl, Nat.lt_of_lt_of_le hlt hb.size, fun i hi => (hb.cell (p := ⟨b, off + i, none⟩) hlt (ha b hlt)).trans (hc i hi)⟩
theorem Blk.fr {w w' : World} {q : Nat} {t : TypeId} {vs : Array Value} (h : Blk w q t vs) {S : Nat → Prop} (hb : Fr S w w') (hq : ¬ S q) : Blk w' q t vs := by
  have := h.lt
  unfold Blk at h ⊢; rw [← h]; exact hb.block q this hq
/-- The blocks of a Commit, gathered. -/
def addL (S : List (Int × Value)) (x : Int) : List (Int × Value) := IM.updL S x (.agg #[])
def addAll (S : List (Int × Value)) (l : List Int) : List (Int × Value) := l.foldl addL S
def stepL (P : Int) (S : List (Int × Value)) (pg : Int) : List (Int × Value) := if 0 ≤ pg ∧ pg < P then addAll S (pg :: path P pg) else S
def needL (P : Int) (l : List Int) : List (Int × Value) := l.foldl (stepL P) []
theorem take_snocI {A : List Int} {i : Nat} (h : i < A.length) : A.take (i + 1) = A.take i ++ [A.getD i 0] := by
  rw [List.take_add_one]; simp [List.getD, h]
theorem needL_snoc (P : Int) {A : List Int} {i : Nat} (h : i < A.length) : needL P (A.take (i + 1)) = stepL P (needL P (A.take i)) (A.getD i 0) := by
  rw [take_snocI h]; unfold needL; rw [List.foldl_append]; rfl
theorem addAll_snoc (S : List (Int × Value)) {A : List Int} {i : Nat} (h : i < A.length) : addAll S (A.take (i + 1)) = addL (addAll S (A.take i)) (A.getD i 0) := by
  rw [take_snocI h]; unfold addAll; rw [List.foldl_append]; rfl
theorem sameInts_any (w : World) (x y : Option Addr) (n m c d : Nat) (A B : List Int) (hA : IsI w x n c A) (hB : IsI w y m d B) (hn : n ≤ 1000000) (hm : m ≤ 1000000) :
    Calls Try.prog 20 #[.slice x n c, .slice y m d] w fun e w' => e = .returned (.bool (decide (A = B))) ∧ ∃ k, w' = w.drewN k := by
  obtain rfl := hA.hlen
  obtain rfl := hB.hlen
  by_cases hl : A.length = B.length
  · have hcA : Hid (∀ i, i < A.length → ∃ b off, x = some ⟨b, off, none⟩ ∧ w.cell? ⟨b, off + i, none⟩ = some (.int .i64 (A.getD i 0))) := by
      intro i hi
      rcases hA.at_ with e | ⟨b, off, e, -, hc⟩
      · rw [e] at hi; simp at hi
      · exact ⟨b, off, e, hc i hi⟩
    have hcB : Hid (∀ i, i < A.length → ∃ b off, y = some ⟨b, off, none⟩ ∧ w.cell? ⟨b, off + i, none⟩ = some (.int .i64 (B.getD i 0))) := by
      intro i hi
      rcases hB.at_ with e | ⟨b, off, e, -, hc⟩
      · rw [e] at hl; simp at hl; rw [hl] at hi; simp at hi
      · exact ⟨b, off, e, hc i (by omega)⟩
    have hca := hA.hcap
    have hcb := hB.hcap
    clear hA hB
    have HL := Lib.hid hl
    rw [← hl] at hm hcb ⊢
    clear hl
    have hlb : ((A.length : Int) == (A.length : Int)) = true := by simp
    go_enter Try.func20, Try.ntmps20
    go_wp2
    go_loopw [5] (fun t wr => ∃ i : Nat, t = .int .i64 i ∧ i ≤ A.length ∧ Hid (A.take i = B.take i) ∧ ∃ k, wr = w.drewN k) (fun t _ => A.length - (intOf t).toNat)
    case atStart => exact ⟨0, rfl, Nat.zero_le _, rfl, 0, rfl⟩
    case round =>
      obtain ⟨i, rfl, i1, HT, k, rfl⟩ := hrel
      have hi0 : (0 : Int) ≤ (i : Int) := Int.natCast_nonneg _
      by_cases hlt : i < A.length
      · have hi1 : (i : Int) < (A.length : Int) := by omega
        obtain ⟨b, off, rfl, c1⟩ := hcA.out i hlt
        obtain ⟨b', off', rfl, c2⟩ := hcB.out i hlt
        have HE : Hid (A.getD i 0 = B.getD i 0 → A.take (i + 1) = B.take (i + 1)) := fun e => by rw [take_snocI hlt, take_snocI (by have := HL.out; omega), HT.out, e]
        have HNE : Hid (¬ A.getD i 0 = B.getD i 0 → ¬ A = B) := fun e e2 => e (by rw [e2])
        clear hcA hcB
        generalize A.getD i 0 = p at c1 HE HNE
        generalize B.getD i 0 = q at c2 HE HNE
        go_wp2
        go_quiet (fail)
        by_cases hpq : p = q
        · have HE' := Lib.hid (HE.out hpq)
          have hb : (p == q) = true := by rw [beq_iff_eq]; exact hpq
          clear HE HNE hpq
          go_wp2
          go_roundw
          case rel => exact ⟨i + 1, by go_num, by omega, HE', k + nq, by simp [World.drewN, Nat.add_assoc]⟩
          case measure => simp only [intOf]; omega
        · have HN' := Lib.hid (HNE.out hpq)
          have hb : (p == q) = false := by rw [beq_eq_false_iff_ne]; exact hpq
          clear HE HNE hpq
          go_wp2
          go_ret
          exact ⟨by rw [decide_eq_false HN'.out]; rfl, k + nq, by simp [World.drewN, Nat.add_assoc]⟩
      · have hAB : A = B := by
          have h1 := HT.out
          have h2 := HL.out
          rw [List.take_of_length_le (by omega), List.take_of_length_le (by omega)] at h1
          exact h1
        have HAB := Lib.hid hAB; clear hAB
        clear hcA hcB
        go_wp2
        go_ret
        exact ⟨by rw [decide_eq_true HAB.out]; rfl, _, rfl⟩
  · have hlb : ((A.length : Int) == (B.length : Int)) = false := by rw [beq_eq_false_iff_ne]; omega
    have hne : ¬ A = B := fun e => hl (by rw [e])
    have HNE := Lib.hid hne
    clear hA hB hl hne
    go_enter Try.func20, Try.ntmps20
    go_wp2
    go_ret
    exact ⟨by rw [decide_eq_false HNE.out]; rfl, 0, rfl⟩
set_option maxHeartbeats 2000000 in
theorem need_any (w : World) (P B : Int) (hP : 1 ≤ P ∧ P ≤ 4096) (hB : 1 ≤ B ∧ B ≤ 256) (a : Option Addr) (cap : Nat) (hI : IsI w a (levs (cnt P)).length cap (levs (cnt P))) (x : Option Addr) (len2 cap2 : Nat) (A : List Int) (hA : IsI w x len2 cap2 A) (hA2 : len2 ≤ 1000000) :
    Calls Try.prog 21 #[planV P B (.slice a (levs (cnt P)).length cap), .slice x len2 cap2] w fun e w' => e = .returned (.int .i64 (needL P A).length) ∧ Below w.heap.size w w' := by
  obtain rfl := hA.hlen
  have hs := levs_short (cnt P) (by unfold cnt; omega)
  have hcA : Hid (∀ i, i < A.length → ∃ b off, x = some ⟨b, off, none⟩ ∧ b < w.heap.size ∧ w.cell? ⟨b, off + i, none⟩ = some (.int .i64 (A.getD i 0))) := by
    intro i hi
    rcases hA.at_ with e | ⟨b, off, e, hb, hc⟩
    · rw [e] at hi; simp at hi
    · exact ⟨b, off, e, hb, hc i hi⟩
  have HWF := Lib.hid hA.wf
  have hca := hA.hcap
  have HI := Lib.hid hI
  clear hI hA
  have hmm := @run_makeMap Try.prog
  go_enter Try.func21, Try.ntmps21
  go_wp2
  obtain ⟨w1, hw1⟩ : ∃ w1, w1 = (w.alloc (.cells #[.int .i64 P, .int .i64 B, .int .i64 (cnt P), .slice a (levs (cnt P)).length cap, .int .i64 (nod P), .int .i64 (hd P), .int .i64 (hds B), .int .i64 (hd P + hds B), .int .i64 (hd P + hds B + B), .int .i64 (hd P + hds B + B + B)] 24)).alloc (.map #[] 0) := ⟨_, rfl⟩
  rw [← hw1]
  clear hmm
  have hW1 : Below w.heap.size w w1 := by rw [hw1]; exact ((Below.refl _ _).alloc (Nat.le_refl _) _).alloc (by simp) _
  have hb1 : Blk w1 w.heap.size 24 #[.int .i64 P, .int .i64 B, .int .i64 (cnt P), .slice a (levs (cnt P)).length cap, .int .i64 (nod P), .int .i64 (hd P), .int .i64 (hds B), .int .i64 (hd P + hds B), .int .i64 (hd P + hds B + B), .int .i64 (hd P + hds B + B + B)] := by
    rw [hw1]; exact Blk.alloc (heap_alloc_new w _) _
  have hI1 : IM.Is w1 (w.heap.size + 1) [] := by
    have h : ∀ o, IM.Is ((w.alloc o).alloc (.map #[] 0)) (w.heap.size + 1) [] := fun o => by have h := IM.Is.made (w.alloc o); rwa [World.size_alloc] at h
    rw [hw1]; exact h _
  have hz1 : w1.heap.size = w.heap.size + 2 := by rw [hw1]; simp
  clear hw1
  go_loopw [15] (fun t wr => ∃ i : Nat, t = .int .i64 i ∧ i ≤ A.length ∧ IM.Is wr (w.heap.size + 1) (needL P (A.take i)) ∧ Fr (fun q => q = w.heap.size + 1) w1 wr) (fun t _ => A.length - (intOf t).toNat)
  case atStart => exact ⟨0, rfl, Nat.zero_le _, hI1, Fr.refl _ _⟩
  case round =>
    obtain ⟨i, rfl, i1, hIs, hF⟩ := hrel
    have hi0 : (0 : Int) ≤ (i : Int) := Int.natCast_nonneg _
    have hFW : Fr (fun q => q = w.heap.size + 1) w wr := (Fr.of_below hW1).trans hF
    have hbw := hb1.fr hF (by omega)
    have hzr := hF.size
    obtain ⟨p0, p1, p2, p3, p4, p5, p6, p7, p8, p9⟩ := hbw.ten
    by_cases hlt : i < A.length
    · have hi1 : (i : Int) < (A.length : Int) := by omega
      obtain ⟨b, off, rfl, hb, c1'⟩ := hcA.out i hlt
      have c1 := (hFW.cell (p := ⟨b, off + i, none⟩) hb (by show ¬ b = _; omega)).trans c1'
      have hwf := HWF.out (A.getD i 0) (by rw [List.getD_eq_getElem?_getD, List.getElem?_eq_getElem hlt]; exact List.getElem_mem hlt)
      have HS := Lib.hid (needL_snoc P hlt)
      have HIr := Lib.hid (HI.out.fr hFW (fun x hx => by show ¬ x = _; omega))
      generalize needL P (A.take i) = S at hIs HS
      generalize A.getD i 0 = pg at c1 hwf HS
      clear c1'
      by_cases hr : 0 ≤ pg ∧ pg < P
      · have HS' : Hid (needL P (A.take (i + 1)) = addAll (addL S pg) (path P pg)) := by unfold Hid; rw [HS.out]; unfold stepL; rw [if_pos hr]; rfl
        have hpl := path_len P pg
        clear HS
        have hplt := path_lt hP hr
        have HPL := Lib.hid hplt; clear hplt
        go_wp2_with (first | (go_at_call 18; refine (path_in _ P B pg hP (by omega) hr a cap HIr.out).mono ?_; rintro e w3 ⟨v, rfl, hown3, hB3⟩; obtain ⟨g, cap3, rfl, hg1, hg2, hg3, hg4, hg5⟩ := own_cellsI hown3 (by omega); have hIs3 := hIs.below hB3 hIs.lt) | (at_mapUpdate; go_must (refine IM.wpList_update rfl _ _ _ rfl Try.underlying57 Try.underlying3 rfl hIs3 pg rfl ?_); intro w4 hIs4 hG4))
        have hgm : w.heap.size + 1 ≠ g := by have := hIs.lt; omega
        have hF4 : Fr (fun q => q = w.heap.size + 1) w1 w4 := (hF.trans (Fr.of_below hB3)).grown hG4 (fun k hk => by cases hk; exact Or.inl rfl)
        have HC4 : Hid (∀ j, j < (path P pg).length → w4.cell? ⟨g, j, none⟩ = some (.int .i64 ((path P pg).getD j 0))) := fun j hj =>
          World.grownBy.cell hG4 (hg5 j _ (by simp [ints, List.getD, hj])) (by show some g ≠ some _; simp; omega)
        have hg6 : g < w4.heap.size := Nat.lt_of_lt_of_le hg4 hG4.size
        clear hg5 hown3 hIs hF hbw hIs3 hB3 hFW HIr hG4
        rw [hpl] at hg2
        have hs5 : (path P pg).length ≤ 4 := by omega
        generalize path P pg = K at HS' hpl HC4 hs5
        have hIs5 : IM.Is w4 (w.heap.size + 1) (addL S pg) := hIs4
        have hcap : K.length ≤ cap3 := by omega
        clear hIs4 hg2
        generalize addL S pg = S1 at HS' hIs5
        go_loopw [32] (fun t wq => ∃ j : Nat, t = .int .i64 j ∧ j ≤ K.length ∧ IM.Is wq (w.heap.size + 1) (addAll S1 (K.take j)) ∧ Fr (fun q => q = w.heap.size + 1) w4 wq) (fun t _ => K.length - (intOf t).toNat)
        case atStart => exact ⟨0, rfl, Nat.zero_le _, hIs5, Fr.refl _ _⟩
        case round =>
          rename_i wq _ _ _ _ _ _ _ _ _ _ _
          obtain ⟨j, rfl, j1, hIq, hFq⟩ := hrel
          have hj0 : (0 : Int) ≤ (j : Int) := Int.natCast_nonneg _
          by_cases hjl : j < K.length
          · have hj1 : (j : Int) < ((levs (cnt P)).length : Int) + 1 := by omega
            have d1 := (hFq.cell (p := ⟨g, j, none⟩) hg6 (by show ¬ g = _; omega)).trans (HC4.out j hjl)
            have HSn := Lib.hid (addAll_snoc S1 hjl)
            generalize addAll S1 (K.take j) = S2 at hIq HSn
            generalize K.getD j 0 = kq at d1 HSn
            go_wp2_with (at_mapUpdate; go_must (refine IM.wpList_update rfl _ _ _ rfl Try.underlying57 Try.underlying3 rfl hIq kq rfl ?_); intro w6 hIs6 hG6)
            have hIs7 : IM.Is w6 (w.heap.size + 1) (addL S2 kq) := hIs6
            go_roundw
            case rel => exact ⟨j + 1, by go_num, by omega, by rw [HSn.out]; exact hIs7, hFq.grown hG6 (fun k hk => by cases hk; exact Or.inl rfl)⟩
            case measure => simp only [intOf]; omega
          · have hj1 : ¬ ((j : Int) < ((levs (cnt P)).length : Int) + 1) := by omega
            rw [List.take_of_length_le (by omega)] at hIq
            go_wp2
            go_roundw
            case rel => exact ⟨i + 1, by go_num, by omega, by rw [HS'.out]; exact hIq, hF4.trans hFq⟩
            case measure => simp only [intOf]; omega
      · have HS' : Hid (needL P (A.take (i + 1)) = S) := by unfold Hid; rw [HS.out]; unfold stepL; rw [if_neg hr]
        clear HS
        go_wp2_with (go_at_call 18; refine (path_out _ P pg _ _ _ _ _ _ _ _ _ hr).mono ?_; rintro e w3 ⟨rfl, hB3⟩)
        go_roundw
        case rel => exact ⟨i + 1, by go_num, by omega, by rw [HS'.out]; exact hIs.below hB3 hIs.lt, hF.trans (Fr.of_below hB3)⟩
        case measure => simp only [intOf]; omega
    · rw [List.take_of_length_le (by omega)] at hIs
      go_wp2_with (at_len; go_must (refine IM.wpList_len rfl _ _ rfl Try.underlying57 rfl hIs ?_))
      go_ret
      exact ⟨rfl, hFW.below (Nat.le_refl _) (fun q hq => by omega)⟩
end Go.Proofs.Ytnkoniagakhacaa
