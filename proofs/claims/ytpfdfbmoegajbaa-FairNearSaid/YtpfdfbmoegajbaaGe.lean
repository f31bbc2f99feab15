/- Rows of tasks: Next. -/
import Derived.Test.YtpfdfbmoegajbaaGd
import Derived.Deep.QuietTactic
namespace Go.Proofs.Ytpfdfbmoegajbaa
open Go.RowKit Go.Deep
set_option maxRecDepth 100000
theorem own_cellsI {w : World} {base : Nat} {e : TypeId} {v : Value} {n : Nat} {xs : List Value} (h : w.ownsRow base e 1 v n xs) (hn : 0 < n) :
    ∃ g cap, v = .slice (some ⟨g, 0, none⟩) n cap ∧ base ≤ g ∧ n ≤ cap ∧ cap ≤ maxLen ∧ g < w.heap.size ∧ ∀ i u, xs[i]? = some u → w.cell? ⟨g, i, none⟩ = some u := by
  obtain ⟨hl, ⟨-, h0⟩ | ⟨g, cap, cur, rfl, hg, hh, hnc, hcm, hcs, ht⟩⟩ := h
  · omega
  · refine ⟨g, cap, rfl, hg, hnc, hcm, (Array.getElem?_eq_some_iff.1 hh).1, fun i u hi => ?_⟩
    have hlt := (List.getElem?_eq_some_iff.1 hi).1
    rw [← ht, List.getElem?_take_of_lt (by omega)] at hi
    simp only [World.cell?, hh]
    simpa using hi
theorem take_snocI {A : List Int} {i : Nat} (h : i < A.length) : A.take (i + 1) = A.take i ++ [A.getD i 0] := by
  rw [List.take_add_one]; simp [List.getD, h]
theorem q_step {P : Program} {ops : Array Oper} {C : World → Prop} {Q : Go.Act → Prop} {o : Oper} {rest : List Oper} {a : Go.Act} (v : Value) (hw : Region.wanted o (yielded ops a.tmps) = true) (h1 : ∀ w, C w → o.quietAt P a C w v) (h2 : wpQuiet P ops C Q rest (a.put o.dst v)) : wpQuiet P ops C Q (o :: rest) a := by
  unfold wpQuiet; rw [if_pos hw]; exact ⟨v, h1, h2⟩
theorem run_fadd {x y r : Nat} (h : floatBits .add .f64 x y = some r) (t : TypeId) (w : World) : (binOp .add t (.float .f64 x) (.float .f64 y)).run Try.prog w = .ok (.float .f64 r) w := run_float_arith w .add t .f64 x y r h
theorem run_fquo {x y r : Nat} (h : floatBits .quo .f64 x y = some r) (t : TypeId) (w : World) : (binOp .quo t (.float .f64 x) (.float .f64 y)).run Try.prog w = .ok (.float .f64 r) w := run_float_arith w .quo t .f64 x y r h
/-- The one that is behind most. -/
def nb (T : List Tk) (b i : Int) : Int := if b < 0 then i else if FP.ltB (T.getD i.toNat tk0).2.2 (T.getD b.toNat tk0).2.2 then i else b
def bestF (T : List Tk) (L : List Int) : Int := L.foldl (nb T) (-1)
theorem bestF_snoc (T : List Tk) {A : List Int} {i : Nat} (h : i < A.length) : bestF T (A.take (i + 1)) = nb T (bestF T (A.take i)) (A.getD i 0) := by
  rw [take_snocI h]; unfold bestF; rw [List.foldl_append]; rfl
set_option maxHeartbeats 2000000 in
theorem next_row (w : World) (p g cap : Nat) (T : List Tk) (h : RowAt w p g cap T) (q s : Nat) (b : Nat) (hb : bestF T (awk T T.length) = b) (hbl : b < T.length) (hq : floatBits .quo .f64 4607182418800017408 (T.getD b tk0).2.1 = some q) (hs : floatBits .add .f64 (T.getD b tk0).2.2 q = some s) :
    Calls Try.prog 13 #[.pointer (some ⟨p, 0, none⟩)] w fun e w' => e = .returned (.tuple #[.int .i64 b, .bool true]) ∧ ∃ w1, Below w.heap.size w w1 ∧ w' = w1.setCell ⟨g, b * 3 + 2, none⟩ (.float .f64 s) := by
  have H := Lib.hid h
  have HB := Lib.hid hb
  have c0 := h.c0
  have h8 := h.n8
  have hcap := h.hc
  have hmx := h.hm
  have HFQ := Lib.hid fun t w' => run_fquo hq t w'
  have HFS := Lib.hid fun t w' => run_fadd hs t w'
  clear hq hs
  have hal := awk_le T T.length
  have HM := Lib.hid fun (x : Int) (hx : x ∈ awk T T.length) => awk_mem hx
  have HAW := Lib.hid (awake_row w p g cap T h)
  generalize awk T T.length = A at hal HB HM HAW
  clear hb h
  have hapos : 0 < A.length := by
    cases A with
    | nil => have := HB.out; simp [bestF] at this
    | cons _ _ => simp
  unfold maxLen at hmx
  go_enter Try.func13, Try.ntmps13
  go_wp2_with (go_at_call 17; refine HAW.out.mono ?_; rintro e w2 ⟨v, rfl, hown, hB⟩; obtain ⟨g2, cap2, rfl, hg1, hg2, hg3, hg4, hg5⟩ := own_cellsI hown hapos)
  have HC := Lib.hid fun (k : Nat) (hk : k < A.length) => hg5 k (.int .i64 (A.getD k 0)) (by simp [ints, List.getD, hk])
  have H2 := Lib.hid (H.out.below hB)
  have d0 := H2.out.c0
  unfold maxLen at hg3
  clear hown hg5 c0
  go_loopw [4, 11] (fun u t wr => ∃ k : Nat, ∃ b' : Int, t = .int .i64 k ∧ k ≤ A.length ∧ u = .int .i64 b' ∧ Hid (bestF T (A.take k) = b') ∧ (b' = -1 ∨ ∃ bn : Nat, b' = bn ∧ bn < T.length) ∧ ∃ n, wr = w2.drewN n) (fun _ t _ => A.length - (intOf t).toNat)
  case atStart => exact ⟨0, -1, rfl, Nat.zero_le _, rfl, rfl, Or.inl rfl, 0, rfl⟩
  case round =>
    obtain ⟨k, b', rfl, j1, rfl, HBk, hb', nd, rfl⟩ := hrel
    have hk0 : (0 : Int) ≤ (k : Int) := Int.natCast_nonneg _
    by_cases hlt : k < A.length
    · have hlt' : (k : Int) < (A.length : Int) := by omega
      have hcx := HC.out k hlt
      obtain ⟨xi, hxi, hxl, -⟩ := HM.out (A.getD k 0) (by rw [List.getD_eq_getElem?_getD, List.getElem?_eq_getElem hlt]; exact List.getElem_mem hlt)
      have HS := Lib.hid (bestF_snoc T hlt)
      rw [HBk.out] at HS
      rw [hxi] at hcx HS
      clear hxi
      have hx0 : (0 : Int) ≤ (xi : Int) := Int.natCast_nonneg _
      have hxl' : (xi : Int) < (T.length : Int) := by omega
      rcases hb' with hb1 | ⟨bn, rfl, hbn⟩
      · subst hb1
        have HS' : Hid (bestF T (A.take (k + 1)) = xi) := by unfold Hid; rw [HS.out]; rfl
        clear HS
        go_wp2
        refine wp_region_quiet_lit (by kernel_rfl) (by kernel_rfl) ?_
        repeat (with_reducible refine wpQuiet_step (fun K hK => ?_); go_simp; first | (refine hK _ ?_; clear hK K) | (apply Exists.intro; refine ⟨fun _ => ?_, hK _ ?_⟩; (first | (intro _; rfl)); clear hK K))
        with_reducible refine wpQuiet_nil ?_
        intro _ hw'
        obtain ⟨nq, hw''⟩ := hw'
        subst hw''
        go_wp2
        go_roundw
        case rel => exact ⟨k + 1, xi, by go_num, by omega, rfl, HS'.out, Or.inr ⟨xi, rfl, hxl⟩, nd + nq, by simp [World.drewN, Nat.add_assoc]⟩
        case measure => simp only [intOf]; omega
      · have hb0 : (0 : Int) ≤ (bn : Int) := Int.natCast_nonneg _
        have hbn' : (bn : Int) < (T.length : Int) := by omega
        have HS' : Hid (bestF T (A.take (k + 1)) = if FP.ltB (T.getD xi tk0).2.2 (T.getD bn tk0).2.2 then (xi : Int) else bn) := by
          unfold Hid; rw [HS.out]; unfold nb; rw [if_neg (by omega), Int.toNat_natCast, Int.toNat_natCast]
        clear HS
        have px := (H2.out.task hxl).2.2
        have pb := (H2.out.task hbn).2.2
        have wx := Lib.hid (H2.out.wfD hxl).2
        have wb := Lib.hid (H2.out.wfD hbn).2
        generalize (T.getD xi tk0).2.2 = fx at px wx HS'
        generalize (T.getD bn tk0).2.2 = fb at pb wb HS'
        have HL := Lib.hid fun (w' : World) => less_any fx fb w' wx.out wb.out
        generalize FP.ltB fx fb = l at HL HS'
        have hbneg : ¬ (bn : Int) < 0 := by omega
        cases l with
        | true =>
          go_wp2
          refine wp_region_quiet_lit (by kernel_rfl) (by kernel_rfl) ?_
          (with_reducible refine wpQuiet_step (fun K hK => ?_)); go_simp; first | (refine hK _ ?_; clear hK K) | (apply Exists.intro; refine ⟨fun _ => ?_, hK _ ?_⟩; (intro _; rfl); clear hK K)
          with_reducible refine q_step (.bool false) ?_ (fun w' _ => ?_) ?_
          · rfl
          · go_simp; first | done | exact hbneg | exact decide_eq_false hbneg
          repeat (with_reducible refine wpQuiet_step (fun K hK => ?_); go_simp; first | (refine hK _ ?_; clear hK K) | (apply Exists.intro; refine ⟨fun _ => ?_, hK _ ?_⟩; (first | (intro _; rfl) | (go_at_call 27; exact (HL.out _).mono fun _ _ h => ⟨h.1, _, by first | exact h.2 | exact h.2.symm⟩)); clear hK K))
          with_reducible refine wpQuiet_nil ?_
          intro _ hw'
          obtain ⟨nq, hw''⟩ := hw'
          subst hw''
          go_wp2
          go_roundw
          case rel => exact ⟨k + 1, xi, by go_num, by omega, rfl, by rw [HS'.out]; rfl, Or.inr ⟨xi, rfl, hxl⟩, nd + nq, by simp [World.drewN, Nat.add_assoc]⟩
          case measure => simp only [intOf]; omega
        | false =>
          go_wp2
          refine wp_region_quiet_lit (by kernel_rfl) (by kernel_rfl) ?_
          (with_reducible refine wpQuiet_step (fun K hK => ?_)); go_simp; first | (refine hK _ ?_; clear hK K) | (apply Exists.intro; refine ⟨fun _ => ?_, hK _ ?_⟩; (intro _; rfl); clear hK K)
          with_reducible refine q_step (.bool false) ?_ (fun w' _ => ?_) ?_
          · rfl
          · go_simp; first | done | exact hbneg | exact decide_eq_false hbneg
          repeat (with_reducible refine wpQuiet_step (fun K hK => ?_); go_simp; first | (refine hK _ ?_; clear hK K) | (apply Exists.intro; refine ⟨fun _ => ?_, hK _ ?_⟩; (first | (intro _; rfl) | (go_at_call 27; exact (HL.out _).mono fun _ _ h => ⟨h.1, _, by first | exact h.2 | exact h.2.symm⟩)); clear hK K))
          with_reducible refine wpQuiet_nil ?_
          intro _ hw'
          obtain ⟨nq, hw''⟩ := hw'
          subst hw''
          go_wp2
          go_roundw
          case rel => exact ⟨k + 1, bn, by go_num, by omega, rfl, by rw [HS'.out]; rfl, Or.inr ⟨bn, rfl, hbn⟩, nd + nq, by simp [World.drewN, Nat.add_assoc]⟩
          case measure => simp only [intOf]; omega
    · have hbe : b' = (b : Int) := by
        have h1 := HBk.out
        rw [List.take_of_length_le (by omega)] at h1
        rw [← h1]; exact HB.out
      subst hbe
      have hb0 : (0 : Int) ≤ (b : Int) := Int.natCast_nonneg _
      have hbl' : (b : Int) < (T.length : Int) := by omega
      have hbneg : ¬ (b : Int) < 0 := by omega
      have pw := (H2.out.task hbl).2.1
      have pp := (H2.out.task hbl).2.2
      have pf := H2.out.froz (b * 3 + 2)
      have hfq := HFQ.out
      have hfs := HFS.out
      clear HFQ HFS
      generalize (T.getD b tk0).2.1 = fw at pw hfq
      generalize (T.getD b tk0).2.2 = fp at pp hfs
      clear hb' HBk
      go_wp2
      go_region
      all_goals
        go_wp2
        go_ret2
        exact ⟨rfl, w2.drewN (nd + 1), ⟨hB.os, hB.tape, hB.output, hB.size, hB.block⟩, by simp [World.drewN, Nat.add_assoc]⟩
end Go.Proofs.Ytpfdfbmoegajbaa
