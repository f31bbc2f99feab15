/- Rows of tasks: an act, done to the code's row and to the reference's. -/
import Derived.Test.YtpfdfbmoegajbaaGm
namespace Go.Proofs.Ytpfdfbmoegajbaa
open Go.RowKit Go.Deep
set_option maxRecDepth 100000
/-- The code's row and the reference's, of the same tasks. -/
structure Pair (w : World) (p g cap p2 g2 cap2 : Nat) (T : List Tk) : Prop where
  r : RowAt w p g cap T
  x : RefAt w p2 g2 cap2 T
  n1 : p ≠ g2
  n2 : p2 ≠ g
  n3 : g ≠ g2
theorem cell_fr {S : Nat → Prop} {w w' : World} (h : Fr S w w') {b o : Nat} {v : Value} (hs : ¬ S b) (hc : w.cell? ⟨b, o, none⟩ = some v) : w'.cell? ⟨b, o, none⟩ = some v :=
  (h.cell (p := ⟨b, o, none⟩) (World.block_lt_of_cell? w _ hc) hs).trans hc
theorem Blk.fr {w w' : World} {q : Nat} {t : TypeId} {vs : Array Value} (h : Blk w q t vs) {S : Nat → Prop} (hb : Fr S w w') (hq : ¬ S q) : Blk w' q t vs := by
  have := h.lt
  unfold Blk at h ⊢; rw [← h]; exact hb.block q this hq
theorem RowAt.fr {S : Nat → Prop} {w w' : World} {p g cap : Nat} {T : List Tk} (h : RowAt w p g cap T) (hf : Fr S w w') (h1 : ¬ S p) (h2 : ¬ S g) : RowAt w' p g cap T := by
  obtain ⟨cur, hb, ht⟩ := h.blk
  exact ⟨cell_fr hf h1 h.c0, ⟨cur, hb.fr hf h2, ht⟩, h.ne, h.hc, h.hm, h.n1, h.n8, h.wf⟩
theorem RefAt.fr {S : Nat → Prop} {w w' : World} {p g cap : Nat} {T : List Tk} (h : RefAt w p g cap T) (hf : Fr S w w') (h1 : ¬ S p) (h2 : ¬ S g) : RefAt w' p g cap T := by
  obtain ⟨cur, hb, ht⟩ := h.blk
  exact ⟨cell_fr hf h1 h.c0, ⟨cur, hb.fr hf h2, ht⟩, h.ne, h.hc, h.hm, h.n1, h.n8, h.wf⟩
theorem Pair.below {w w' : World} {p g cap p2 g2 cap2 : Nat} {T : List Tk} (h : Pair w p g cap p2 g2 cap2 T) (hB : Below w.heap.size w w') : Pair w' p g cap p2 g2 cap2 T := ⟨h.r.below hB, h.x.below hB, h.n1, h.n2, h.n3⟩
abbrev OnlyGG (g g2 : Nat) (w w' : World) : Prop := Fr (fun q => q = g ∨ q = g2) w w'
def actT (T : List Tk) (k t : Int) (x : Nat) : List Tk :=
  if k % 9 = 0 then weightA T t x else if k % 9 = 1 ∨ k % 9 = 2 then wakeA T t else if k % 9 = 3 then sleepA T t else if k % 9 = 4 then T else nextT T
theorem Fit.act {T : List Tk} (h : Fit T) (k t : Int) {x : Nat} (hx : x < 18446744073709551616) : Fit (actT T k t x) := by
  unfold actT
  split
  · exact h.weight t hx
  · split
    · exact h.wake t
    · split
      · exact h.sleep t
      · split
        · exact h
        · exact h.next
theorem below_drew (w : World) : Below w.heap.size w w.drew := ⟨rfl, rfl, rfl, Nat.le_refl _, fun _ _ => rfl⟩
/-- Behind the code's call, behind the reference's. -/
structure Mid (w0 w : World) (p g cap p2 g2 cap2 : Nat) (T T' : List Tk) : Prop where
  r : RowAt w p g cap T'
  x : RefAt w p2 g2 cap2 T
  f : OnlyG g w0 w
theorem Pair.mid {w0 w : World} {p g cap p2 g2 cap2 : Nat} {T T' : List Tk} (h : Pair w0 p g cap p2 g2 cap2 T) (r : RowAt w p g cap T') (f : OnlyG g w0 w) : Mid w0 w p g cap p2 g2 cap2 T T' :=
  ⟨r, h.x.fr f (fun e => h.n2 e) (fun e => h.n3 e.symm), f⟩
theorem Mid.pair {w0 w w' : World} {p g cap p2 g2 cap2 : Nat} {T T' : List Tk} (h0 : Pair w0 p g cap p2 g2 cap2 T) (h : Mid w0 w p g cap p2 g2 cap2 T T') (x : RefAt w' p2 g2 cap2 T') (f : OnlyG g2 w w') : Pair w' p g cap p2 g2 cap2 T' ∧ OnlyGG g g2 w0 w' :=
  ⟨⟨h.r.fr f (fun e => h0.n1 e) (fun e => h0.n3 e), x, h0.n1, h0.n2, h0.n3⟩, (h.f.mono fun _ e => Or.inl e).trans (f.mono fun _ e => Or.inr e)⟩
set_option maxHeartbeats 4000000 in
theorem do_any (w : World) (p g cap p2 g2 cap2 : Nat) (T : List Tk) (h : Pair w p g cap p2 g2 cap2 T) (hf : Fit T) (k t : Int) (x : Nat) (hk : -9223372036854775808 ≤ k ∧ k ≤ 9223372036854775807) (ht : -9223372036854775808 ≤ t ∧ t ≤ 9223372036854775807) (hx : x < 18446744073709551616) :
    Calls Try.prog 16 #[.pointer (some ⟨p, 0, none⟩), .pointer (some ⟨p2, 0, none⟩), .agg #[.int .i64 k, .int .i64 t, .float .f64 x]] w fun e w' => e = .returned (.bool true) ∧ Pair w' p g cap p2 g2 cap2 (actT T k t x) ∧ OnlyGG g g2 w w' := by
  have HPK := Lib.hid fun w' => pick_any k 9 (by omega) (by omega) hk w'
  have hm0 := Int.emod_nonneg k (show (9 : Int) ≠ 0 by omega)
  have hm9 := Int.emod_lt_of_pos k (show (0 : Int) < 9 by omega)
  have HX := Lib.hid hx
  have HT := Lib.hid ht
  have HF := Lib.hid hf
  have EA : Hid (actT T k t x = if k % 9 = 0 then weightA T t x else if k % 9 = 1 ∨ k % 9 = 2 then wakeA T t else if k % 9 = 3 then sleepA T t else if k % 9 = 4 then T else nextT T) := rfl
  generalize actT T k t x = T' at EA ⊢
  have hgl := h.r.glt
  have hgl2 := h.x.glt
  obtain ⟨w1, hw1⟩ : ∃ w1, w1 = w.alloc (.cells #[.int .i64 k, .int .i64 t, .float .f64 x] 41) := ⟨_, rfl⟩
  have hB1 : Below w.heap.size w w1 := by rw [hw1]; exact (Below.refl _ _).alloc (Nat.le_refl _) _
  have HP1 := Lib.hid (h.below hB1)
  have HB1 := Lib.hid hB1
  obtain ⟨q, hq⟩ : ∃ q, q = w.heap.size := ⟨_, rfl⟩
  have hkb : Blk w1 q 41 #[.int .i64 k, .int .i64 t, .float .f64 x] := by rw [hw1, hq]; exact heap_alloc_new w _
  have c0 : w1.cell? ⟨q, 0, none⟩ = some (.int .i64 k) := by rw [hkb.cell]; rfl
  have c1 : w1.cell? ⟨q, 1, none⟩ = some (.int .i64 t) := by rw [hkb.cell]; rfl
  have c2 : w1.cell? ⟨q, 2, none⟩ = some (.float .f64 x) := by rw [hkb.cell]; rfl
  have hqg : Hid (q ≠ g ∧ q ≠ g2) := ⟨by omega, by omega⟩
  have hbox := Lib.hid hw1
  have HQ := Lib.hid hq
  have hq1 := hkb.lt
  clear hkb hB1 hw1 h hx ht hf hk hq hgl hgl2
  rcases (show k % 9 = 0 ∨ k % 9 = 1 ∨ k % 9 = 2 ∨ k % 9 = 3 ∨ k % 9 = 4 ∨ k % 9 = 5 ∨ k % 9 = 6 ∨ k % 9 = 7 ∨ k % 9 = 8 by omega) with hmv | hmv | hmv | hmv | hmv | hmv | hmv | hmv | hmv
  · have hmv : k % 9 = 0 := by assumption
    rw [hmv] at HPK EA
    replace EA : Hid (T' = weightA T t x) := by unfold Hid; rw [EA.out]; rfl
    clear hmv hm0 hm9
    go_enter Try.func16, Try.ntmps16
    go_wp2_with (go_at_call 9; refine (HPK.out _).mono ?_; rintro e w' ⟨rfl, rfl⟩)
    rw [← hbox.out, ← HQ.out]
    go_region_held3 (fun w' => w'.cell? ⟨q, 1, none⟩ = some (.int .i64 t) ∧ w'.cell? ⟨q, 2, none⟩ = some (.float .f64 x)) (first | exact ⟨c1, c2⟩ | exact ⟨d1, d2⟩ | exact ⟨u1, u2⟩ | go_keep) (first | (go_at_call 11; refine (weight_any _ p g cap T (HP1.out.below (below_drew w1)).r t x HX.out).mono ?_; rintro e w2 ⟨rfl, hr, hg⟩; have hmid := Lib.hid ((HP1.out.below (below_drew w1)).mid hr hg); have d1 := cell_fr hg hqg.out.1 (show w1.drew.cell? ⟨q, 1, none⟩ = some (.int .i64 t) from c1); have d2 := cell_fr hg hqg.out.1 (show w1.drew.cell? ⟨q, 2, none⟩ = some (.float .f64 x) from c2); clear hr hg) | (go_at_call 28; refine (rweight_any _ p2 g2 cap2 T hmid.out.x t x HX.out).mono ?_; rintro e w3 ⟨rfl, hx2, hg2⟩; have hfin := Lib.hid (hmid.out.pair (HP1.out.below (below_drew w1)) hx2 hg2); have u1 := cell_fr hg2 hqg.out.2 d1; have u2 := cell_fr hg2 hqg.out.2 d2; clear hx2 hg2))
    go_wp2
    go_ret
    exact ⟨rfl, by rw [EA.out]; exact hfin.out.1, (Fr.of_below (HB1.out.trans ((below_drew w1).mono HB1.out.size))).trans hfin.out.2⟩
  · have hmv : k % 9 = 1 := by assumption
    rw [hmv] at HPK EA
    replace EA : Hid (T' = wakeA T t) := by unfold Hid; rw [EA.out]; rfl
    clear hmv hm0 hm9
    go_enter Try.func16, Try.ntmps16
    go_wp2_with (go_at_call 9; refine (HPK.out _).mono ?_; rintro e w' ⟨rfl, rfl⟩)
    rw [← hbox.out, ← HQ.out]
    go_region_held3 (fun w' => w'.cell? ⟨q, 1, none⟩ = some (.int .i64 t)) (first | exact c1 | exact d1 | exact u1 | go_keep) (first | (go_at_call 12; refine (wake_any _ p g cap T (HP1.out.below (below_drew w1)).r HF.out t).mono ?_; rintro e w2 ⟨rfl, hr, hg⟩; have hmid := Lib.hid ((HP1.out.below (below_drew w1)).mid hr hg); have d1 := cell_fr hg hqg.out.1 (show w1.drew.cell? ⟨q, 1, none⟩ = some (.int .i64 t) from c1); clear hr hg) | (go_at_call 29; refine (rwake_any _ p2 g2 cap2 T hmid.out.x HF.out t).mono ?_; rintro e w3 ⟨rfl, hx2, hg2⟩; have hfin := Lib.hid (hmid.out.pair (HP1.out.below (below_drew w1)) hx2 hg2); have u1 := cell_fr hg2 hqg.out.2 d1; clear hx2 hg2))
    go_wp2
    go_ret
    exact ⟨rfl, by rw [EA.out]; exact hfin.out.1, (Fr.of_below (HB1.out.trans ((below_drew w1).mono HB1.out.size))).trans hfin.out.2⟩
  · have hmv : k % 9 = 2 := by assumption
    rw [hmv] at HPK EA
    replace EA : Hid (T' = wakeA T t) := by unfold Hid; rw [EA.out]; rfl
    clear hmv hm0 hm9
    go_enter Try.func16, Try.ntmps16
    go_wp2_with (go_at_call 9; refine (HPK.out _).mono ?_; rintro e w' ⟨rfl, rfl⟩)
    rw [← hbox.out, ← HQ.out]
    go_region_held3 (fun w' => w'.cell? ⟨q, 1, none⟩ = some (.int .i64 t)) (first | exact c1 | exact d1 | exact u1 | go_keep) (first | (go_at_call 12; refine (wake_any _ p g cap T (HP1.out.below (below_drew w1)).r HF.out t).mono ?_; rintro e w2 ⟨rfl, hr, hg⟩; have hmid := Lib.hid ((HP1.out.below (below_drew w1)).mid hr hg); have d1 := cell_fr hg hqg.out.1 (show w1.drew.cell? ⟨q, 1, none⟩ = some (.int .i64 t) from c1); clear hr hg) | (go_at_call 29; refine (rwake_any _ p2 g2 cap2 T hmid.out.x HF.out t).mono ?_; rintro e w3 ⟨rfl, hx2, hg2⟩; have hfin := Lib.hid (hmid.out.pair (HP1.out.below (below_drew w1)) hx2 hg2); have u1 := cell_fr hg2 hqg.out.2 d1; clear hx2 hg2))
    go_wp2
    go_ret
    exact ⟨rfl, by rw [EA.out]; exact hfin.out.1, (Fr.of_below (HB1.out.trans ((below_drew w1).mono HB1.out.size))).trans hfin.out.2⟩
  · have hmv : k % 9 = 3 := by assumption
    rw [hmv] at HPK EA
    replace EA : Hid (T' = sleepA T t) := by unfold Hid; rw [EA.out]; rfl
    clear hmv hm0 hm9
    go_enter Try.func16, Try.ntmps16
    go_wp2_with (go_at_call 9; refine (HPK.out _).mono ?_; rintro e w' ⟨rfl, rfl⟩)
    rw [← hbox.out, ← HQ.out]
    go_region_held3 (fun w' => w'.cell? ⟨q, 1, none⟩ = some (.int .i64 t)) (first | exact c1 | exact d1 | exact u1 | go_keep) (first | (go_at_call 20; refine (sleep_any _ p g cap T (HP1.out.below (below_drew w1)).r t).mono ?_; rintro e w2 ⟨rfl, hr, hg⟩; have hmid := Lib.hid ((HP1.out.below (below_drew w1)).mid hr hg); have d1 := cell_fr hg hqg.out.1 (show w1.drew.cell? ⟨q, 1, none⟩ = some (.int .i64 t) from c1); clear hr hg) | (go_at_call 30; refine (rsleep_any _ p2 g2 cap2 T hmid.out.x t).mono ?_; rintro e w3 ⟨rfl, hx2, hg2⟩; have hfin := Lib.hid (hmid.out.pair (HP1.out.below (below_drew w1)) hx2 hg2); have u1 := cell_fr hg2 hqg.out.2 d1; clear hx2 hg2))
    go_wp2
    go_ret
    exact ⟨rfl, by rw [EA.out]; exact hfin.out.1, (Fr.of_below (HB1.out.trans ((below_drew w1).mono HB1.out.size))).trans hfin.out.2⟩
  · have hmv : k % 9 = 4 := by assumption
    rw [hmv] at HPK EA
    replace EA : Hid (T' = T) := by unfold Hid; rw [EA.out]; rfl
    clear hmv hm0 hm9
    have h8 := HP1.out.r.n8
    have hal := awk_le T T.length
    by_cases hne : awk T T.length = []
    · have e1 : pickK T t = 0 := by unfold pickK; rw [if_pos hne]
      have e2 : nextOk T = false := by unfold nextOk; rw [hne]; rfl
      have HFP := Lib.hid (fpick_row w1 p g cap T HP1.out.r t HT.out)
      rw [e1, e2] at HFP
      have HRA := Lib.hid fun w' (hb : Below w1.heap.size w1 w') => rawake_is w' p2 g2 cap2 T (HP1.out.x.below hb)
      rw [hne] at HRA
      clear e1 e2 hne hal
      go_enter Try.func16, Try.ntmps16
      go_wp2_with (first | (go_at_call 9; refine (HPK.out _).mono ?_; rintro e w' ⟨rfl, rfl⟩) | (go_at_call 18; rw [← hbox.out, ← HQ.out]; refine HFP.out.mono ?_; rintro e w2 ⟨rfl, hb2⟩) | (go_at_call 22; refine (HRA.out _ hb2).mono ?_; rintro e w3 ⟨a, c, rfl, hI, ha, hb3⟩; have HB3 := Lib.hid (below_chain hb2 hb3); clear hI ha hb3 hb2))
      go_ret
      exact ⟨rfl, by rw [EA.out]; exact HP1.out.below HB3.out, Fr.of_below (below_chain HB1.out HB3.out)⟩
    · have hap : 0 < (awk T T.length).length := by
        cases hA : awk T T.length with
        | nil => exact absurd hA hne
        | cons _ _ => simp
      obtain ⟨j, hj⟩ : ∃ j : Nat, t % ((awk T T.length).length : Int) = j := ⟨(t % ((awk T T.length).length : Int)).toNat, by have := Int.emod_nonneg t (show ((awk T T.length).length : Int) ≠ 0 by omega); omega⟩
      have hjl : j < (awk T T.length).length := by have := Int.emod_lt_of_pos t (show (0 : Int) < ((awk T T.length).length : Int) by omega); omega
      obtain ⟨v, hv⟩ : ∃ v, (awk T T.length).getD j 0 = v := ⟨_, rfl⟩
      have e1 : pickK T t = v := by unfold pickK; rw [if_neg hne, hj, Int.toNat_natCast, hv]
      have e2 : nextOk T = true := by unfold nextOk; simp [hne]
      have HFP := Lib.hid (fpick_row w1 p g cap T HP1.out.r t HT.out)
      rw [e1, e2] at HFP
      have HRA := Lib.hid fun w' (hb : Below w1.heap.size w1 w') => rawake_is w' p2 g2 cap2 T (HP1.out.x.below hb)
      have HPJ := Lib.hid fun w' => pick_any t ((awk T T.length).length : Int) (by omega) (by omega) HT.out w'
      rw [hj] at HPJ
      generalize awk T T.length = A at HRA HPJ hal hap hjl hv
      have HV := Lib.hid hv
      have hz : ((A.length : Int) == 0) = false := by rw [beq_eq_false_iff_ne]; omega
      have hj0 : (0 : Int) ≤ (j : Int) := Int.natCast_nonneg _
      have hj1 : (j : Int) < (A.length : Int) := by omega
      clear e1 e2 hne hv hj
      go_enter Try.func16, Try.ntmps16
      go_wp2_with (first | (go_at_call 9; first | (with_reducible refine (HPK.out _).mono ?_; rintro e w' ⟨rfl, rfl⟩) | (refine (HPJ.out _).mono ?_; rintro e w' ⟨rfl, rfl⟩)) | (go_at_call 18; rw [← hbox.out, ← HQ.out]; refine HFP.out.mono ?_; rintro e w2 ⟨rfl, hb2⟩) | (go_at_call 22; refine (HRA.out _ hb2).mono ?_; rintro e w3 ⟨a, c, rfl, hI, ha, hb3⟩; have HB3 := Lib.hid (below_chain hb2 hb3); have hc1 := hI.hcap; have hc2 := hI.hmax; unfold maxLen at hc2; obtain ⟨b, off, rfl, hbl, hcell⟩ := hI.one hjl; rw [HV.out] at hcell; have k1 := (below_chain hb2 hb3).cell (p := ⟨q, 1, none⟩) hq1; rw [c1] at k1; clear hI ha hb3 hb2))
      go_ret
      exact ⟨rfl, by rw [EA.out]; exact HP1.out.below HB3.out, Fr.of_below (below_chain HB1.out HB3.out)⟩
  · have hmv : k % 9 = 5 := by assumption
    rw [hmv] at HPK EA
    replace EA : Hid (T' = nextT T) := by unfold Hid; rw [EA.out]; rfl
    clear hmv hm0 hm9
    go_enter Try.func16, Try.ntmps16
    go_wp2_with (first | (go_at_call 9; refine (HPK.out _).mono ?_; rintro e w' ⟨rfl, rfl⟩) | (go_at_call 13; rw [← hbox.out, ← HQ.out]; refine (next_any _ p g cap T HP1.out.r HF.out).mono ?_; rintro e w2 ⟨rfl, hr, hg⟩; have hmid := Lib.hid (HP1.out.mid hr hg); clear hr hg) | (go_at_call 31; refine (rnext_any _ p2 g2 cap2 T hmid.out.x HF.out).mono ?_; rintro e w3 ⟨rfl, hx2, hg2⟩; have hfin := Lib.hid (hmid.out.pair HP1.out hx2 hg2); clear hx2 hg2))
    go_ret
    exact ⟨rfl, by rw [EA.out]; exact hfin.out.1, (Fr.of_below HB1.out).trans hfin.out.2⟩
  · have hmv : k % 9 = 6 := by assumption
    rw [hmv] at HPK EA
    replace EA : Hid (T' = nextT T) := by unfold Hid; rw [EA.out]; rfl
    clear hmv hm0 hm9
    go_enter Try.func16, Try.ntmps16
    go_wp2_with (first | (go_at_call 9; refine (HPK.out _).mono ?_; rintro e w' ⟨rfl, rfl⟩) | (go_at_call 13; rw [← hbox.out, ← HQ.out]; refine (next_any _ p g cap T HP1.out.r HF.out).mono ?_; rintro e w2 ⟨rfl, hr, hg⟩; have hmid := Lib.hid (HP1.out.mid hr hg); clear hr hg) | (go_at_call 31; refine (rnext_any _ p2 g2 cap2 T hmid.out.x HF.out).mono ?_; rintro e w3 ⟨rfl, hx2, hg2⟩; have hfin := Lib.hid (hmid.out.pair HP1.out hx2 hg2); clear hx2 hg2))
    go_ret
    exact ⟨rfl, by rw [EA.out]; exact hfin.out.1, (Fr.of_below HB1.out).trans hfin.out.2⟩
  · have hmv : k % 9 = 7 := by assumption
    rw [hmv] at HPK EA
    replace EA : Hid (T' = nextT T) := by unfold Hid; rw [EA.out]; rfl
    clear hmv hm0 hm9
    go_enter Try.func16, Try.ntmps16
    go_wp2_with (first | (go_at_call 9; refine (HPK.out _).mono ?_; rintro e w' ⟨rfl, rfl⟩) | (go_at_call 13; rw [← hbox.out, ← HQ.out]; refine (next_any _ p g cap T HP1.out.r HF.out).mono ?_; rintro e w2 ⟨rfl, hr, hg⟩; have hmid := Lib.hid (HP1.out.mid hr hg); clear hr hg) | (go_at_call 31; refine (rnext_any _ p2 g2 cap2 T hmid.out.x HF.out).mono ?_; rintro e w3 ⟨rfl, hx2, hg2⟩; have hfin := Lib.hid (hmid.out.pair HP1.out hx2 hg2); clear hx2 hg2))
    go_ret
    exact ⟨rfl, by rw [EA.out]; exact hfin.out.1, (Fr.of_below HB1.out).trans hfin.out.2⟩
  · have hmv : k % 9 = 8 := by assumption
    rw [hmv] at HPK EA
    replace EA : Hid (T' = nextT T) := by unfold Hid; rw [EA.out]; rfl
    clear hmv hm0 hm9
    go_enter Try.func16, Try.ntmps16
    go_wp2_with (first | (go_at_call 9; refine (HPK.out _).mono ?_; rintro e w' ⟨rfl, rfl⟩) | (go_at_call 13; rw [← hbox.out, ← HQ.out]; refine (next_any _ p g cap T HP1.out.r HF.out).mono ?_; rintro e w2 ⟨rfl, hr, hg⟩; have hmid := Lib.hid (HP1.out.mid hr hg); clear hr hg) | (go_at_call 31; refine (rnext_any _ p2 g2 cap2 T hmid.out.x HF.out).mono ?_; rintro e w3 ⟨rfl, hx2, hg2⟩; have hfin := Lib.hid (hmid.out.pair HP1.out hx2 hg2); clear hx2 hg2))
    go_ret
    exact ⟨rfl, by rw [EA.out]; exact hfin.out.1, (Fr.of_below HB1.out).trans hfin.out.2⟩
end Go.Proofs.Ytpfdfbmoegajbaa
