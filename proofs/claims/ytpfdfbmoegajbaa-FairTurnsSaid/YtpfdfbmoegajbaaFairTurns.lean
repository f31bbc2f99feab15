/- FairTurns: for every shift and number of turns the law returns true. -/
import Derived.Test.YtpfdfbmoegajbaaGi
import Derived.Test.YtpfdfbmoegajbaaPk
import Derived.ProofKit
import Derived.OpenShut
import Derived.SizedLaws
namespace Go.Proofs.Ytpfdfbmoegajbaa.fairTurns
open Go.ChangeShapes Go.WideShapes Go.ChangeAt Go.RowKit
set_option maxRecDepth 100000
theorem run_fmul {x y r : Nat} (h : floatBits .mul .f64 x y = some r) (t : TypeId) (w : World) : (binOp .mul t (.float .f64 x) (.float .f64 y)).run Try.prog w = .ok (.float .f64 r) w := run_float_arith w .mul t .f64 x y r h
/-- Powers of two, and the parts of one by them. -/
def wp (k : Nat) : Nat := 4607182418800017408 + k * 4503599627370496
def qp (k : Nat) : Nat := 4607182418800017408 - k * 4503599627370496
theorem wp_mul : ∀ k, k < 9 → floatBits .mul .f64 (wp k) 4611686018427387904 = some (wp (k + 1)) ∧ floatBits .mul .f64 4611686018427387904 (wp k) = some (wp (k + 1)) := by decide +kernel
theorem wp_quo : ∀ k, k < 9 → fq (wp k) = qp k := by decide +kernel
def tA1 (m : Nat) : List Tk := [(false, wp m, 0), (false, 4607182418800017408, 0), (false, 4607182418800017408, 0)]
def tA2 (m : Nat) : List Tk := [(false, wp m, 0), (false, wp (m + 1), 0), (false, 4607182418800017408, 0)]
def tA3 (m : Nat) : List Tk := [(true, wp m, 0), (false, wp (m + 1), 0), (false, 4607182418800017408, 0)]
def tA4 (m : Nat) : List Tk := [(true, wp m, 0), (true, wp (m + 1), 0), (false, 4607182418800017408, 0)]
theorem tA_weight0 : ∀ m, m < 8 → weightA ex0 0 (wp m) = tA1 m ∧ code ex0 0 = 0 := by decide +kernel
theorem tA_weight1 : ∀ m, m < 8 → weightA (tA1 m) 1 (wp (m + 1)) = tA2 m ∧ code (tA1 m) 1 = 0 := by decide +kernel
theorem tA_wake0 : ∀ m, m < 8 → wakeA (tA2 m) 0 = tA3 m ∧ code (tA2 m) 0 = 0 := by decide +kernel
theorem tA_wake1 : ∀ m, m < 8 → wakeA (tA3 m) 1 = tA4 m ∧ code (tA3 m) 1 = 0 := by decide +kernel
theorem tA_fit : ∀ m, m < 8 → Fit (tA2 m) ∧ Fit (tA3 m) := by decide +kernel
theorem wp_in {m : Nat} (h : m < 9) : 4562146422526312448 ≤ wp m ∧ wp m ≤ 4652218415073722368 := by unfold wp; omega
theorem wp_lt {m : Nat} (h : m < 9) : wp m < 18446744073709551616 := by have := wp_in h; omega
/-- k of the least part. -/
def pp (m k : Nat) : Nat := FP.rd (k * 2 ^ (1073 - m)) 0
theorem pp_spec {m k : Nat} (hk : k < 1024) : FP.val (pp m k) = k * 2 ^ (1073 - m) ∧ pp m k < 9218868437227405312 := by
  obtain ⟨R, hR⟩ := FP.rep (1073 - m) k (by omega)
  have hRi := FP.below_inf hR hk (by omega)
  have e : pp m k = R := by unfold pp; rw [← hR]; exact FP.rd_exact0 (by omega)
  rw [e]; exact ⟨hR, hRi⟩
theorem pp_lt {m k l : Nat} (hk : k < 1024) (hl : l < 1024) : pp m k < pp m l ↔ k < l := by
  rw [← FP.val_lt_iff, (pp_spec hk).1, (pp_spec hl).1]
  exact Nat.mul_lt_mul_right (Nat.two_pow_pos _)
theorem val_qp {m : Nat} (h : m < 9) (f : Nat) (hf : f = 1073 - m) : FP.val (qp m) = 2 * 2 ^ f := by
  have e : qp m = (1022 - m) * 4503599627370496 + 4503599627370496 := by unfold qp; omega
  rw [e, FP.val_at (1022 - m) 4503599627370496 (by omega) (by omega), show f = 51 + (1022 - m) by omega, Nat.pow_add, ← Nat.mul_assoc]
theorem qp_lt (m : Nat) : qp m < 9218868437227405312 := by unfold qp; omega
theorem pp_add2 {m k : Nat} (hm : m < 8) (hk : k < 1000) : fa (pp m k) (qp m) = pp m (k + 2) := by
  have h := pp_spec (m := m) (k := k) (by omega)
  rw [fa_rd h.2 (qp_lt m), h.1, val_qp (by omega) (1073 - m) rfl, ← Nat.add_mul]; rfl
theorem pp_add1 {m k : Nat} (hm : m < 8) (hk : k < 1000) : fa (pp m k) (qp (m + 1)) = pp m (k + 1) := by
  have h := pp_spec (m := m) (k := k) (by omega)
  have e : 2 * 2 ^ (1072 - m) = 1 * 2 ^ (1073 - m) := by rw [show 1073 - m = (1072 - m) + 1 by omega, Nat.pow_succ]; omega
  rw [fa_rd h.2 (qp_lt _), h.1, val_qp (by omega) (1072 - m) (by omega), e, ← Nat.add_mul]; rfl
/-- When i turns have been had. -/
def turnT (m i : Nat) : List Tk := [(true, wp m, pp m (2 * ((i + 2) / 3))), (true, wp (m + 1), pp m (i - (i + 2) / 3)), (false, 4607182418800017408, 0)]
theorem turn_zero (m : Nat) : tA4 m = turnT m 0 := by
  have e : pp m 0 = 0 := by unfold pp; rw [Nat.zero_mul, FP.rd_zero]
  show [_, _, _] = [_, _, _]
  rw [show 2 * ((0 + 2) / 3) = 0 from rfl, show 0 - (0 + 2) / 3 = 0 from rfl, e]
theorem turn_fit {m i : Nat} (hm : m < 8) (hi : i < 1000) : Fit (turnT m i) := by
  have h1 := (pp_spec (m := m) (k := 2 * ((i + 2) / 3)) (by omega)).2
  have h2 := (pp_spec (m := m) (k := i - (i + 2) / 3) (by omega)).2
  intro t ht
  unfold turnT at ht
  simp only [List.mem_cons, List.not_mem_nil, or_false] at ht
  rcases ht with rfl | rfl | rfl
  · exact ⟨wp_in (by omega), by dsimp only; omega⟩
  · exact ⟨wp_in (by omega), by dsimp only; omega⟩
  · exact ⟨⟨by decide, by decide⟩, by decide⟩
theorem turn_a {m i : Nat} (hm : m < 8) (hi : i < 900) (h3 : i % 3 = 0) : nextK (turnT m i) = ((0 : Nat) : Int) ∧ nextOk (turnT m i) = true ∧ nextT (turnT m i) = turnT m (i + 1) := by
  have h := next_eq (turn_fit (i := i) hm (by omega)) (b := 0) (by show 0 < 3; omega) rfl (fun j hj => by omega) (fun j hj hjl ha => by
    have hj2 : j < 3 := hjl
    obtain rfl | rfl : j = 1 ∨ j = 2 := by omega
    · show pp m (2 * ((i + 2) / 3)) ≤ pp m (i - (i + 2) / 3)
      have e : 2 * ((i + 2) / 3) = i - (i + 2) / 3 := by omega
      rw [e]; exact Nat.le_refl _
    · cases ha)
  refine ⟨h.1, h.2.1, h.2.2.trans ?_⟩
  show [(true, wp m, fa (pp m (2 * ((i + 2) / 3))) (fq (wp m))), _, _] = [_, _, _]
  rw [wp_quo m (by omega), pp_add2 hm (by omega), show 2 * ((i + 2) / 3) + 2 = 2 * ((i + 1 + 2) / 3) by omega, show i - (i + 2) / 3 = i + 1 - (i + 1 + 2) / 3 by omega]
theorem turn_b {m i : Nat} (hm : m < 8) (hi : i < 900) (h3 : i % 3 ≠ 0) : nextK (turnT m i) = ((1 : Nat) : Int) ∧ nextOk (turnT m i) = true ∧ nextT (turnT m i) = turnT m (i + 1) := by
  have h := next_eq (turn_fit (i := i) hm (by omega)) (b := 1) (by show 1 < 3; omega) rfl (fun j hj _ => by
    obtain rfl : j = 0 := by omega
    show pp m (i - (i + 2) / 3) < pp m (2 * ((i + 2) / 3))
    rw [pp_lt (by omega) (by omega)]; omega) (fun j hj hjl ha => by
    have hj2 : j < 3 := hjl
    obtain rfl : j = 2 := by omega
    cases ha)
  refine ⟨h.1, h.2.1, h.2.2.trans ?_⟩
  show [_, (true, wp (m + 1), fa (pp m (i - (i + 2) / 3)) (fq (wp (m + 1)))), _] = [_, _, _]
  rw [wp_quo (m + 1) (by omega), pp_add1 hm (by omega), show i - (i + 2) / 3 + 1 = i + 1 - (i + 1 + 2) / 3 by omega, show (i + 2) / 3 = (i + 1 + 2) / 3 by omega]
theorem c_weight0 {w0 w : World} {p g cap m : Nat} (h : Row2 w0 w p g cap ex0) (hm : m < 8) : Calls Try.prog 11 #[.pointer (some ⟨p, 0, none⟩), .int .i64 0, .float .f64 (wp m)] w fun e w' => e = .returned (.int .i64 0) ∧ Row2 w0 w' p g cap (tA1 m) := by
  have hs := tA_weight0 m hm
  refine (weight_any w p g cap _ h.r 0 _ (wp_lt (by omega))).mono ?_
  rintro e w' ⟨rfl, hr, hg⟩
  rw [hs.1] at hr; rw [hs.2]; exact ⟨rfl, h.step hr hg⟩
theorem c_weight1 {w0 w : World} {p g cap m : Nat} (h : Row2 w0 w p g cap (tA1 m)) (hm : m < 8) : Calls Try.prog 11 #[.pointer (some ⟨p, 0, none⟩), .int .i64 1, .float .f64 (wp (m + 1))] w fun e w' => e = .returned (.int .i64 0) ∧ Row2 w0 w' p g cap (tA2 m) := by
  have hs := tA_weight1 m hm
  refine (weight_any w p g cap _ h.r 1 _ (wp_lt (by omega))).mono ?_
  rintro e w' ⟨rfl, hr, hg⟩
  rw [hs.1] at hr; rw [hs.2]; exact ⟨rfl, h.step hr hg⟩
theorem c_wake0 {w0 w : World} {p g cap m : Nat} (h : Row2 w0 w p g cap (tA2 m)) (hm : m < 8) : Calls Try.prog 12 #[.pointer (some ⟨p, 0, none⟩), .int .i64 0] w fun e w' => e = .returned (.int .i64 0) ∧ Row2 w0 w' p g cap (tA3 m) := by
  have hs := tA_wake0 m hm
  refine (wake_any w p g cap _ h.r (tA_fit m hm).1 0).mono ?_
  rintro e w' ⟨rfl, hr, hg⟩
  rw [hs.1] at hr; rw [hs.2]; exact ⟨rfl, h.step hr hg⟩
theorem c_wake1 {w0 w : World} {p g cap m : Nat} (h : Row2 w0 w p g cap (tA3 m)) (hm : m < 8) : Calls Try.prog 12 #[.pointer (some ⟨p, 0, none⟩), .int .i64 1] w fun e w' => e = .returned (.int .i64 0) ∧ Row2 w0 w' p g cap (turnT m 0) := by
  have hs := tA_wake1 m hm
  refine (wake_any w p g cap _ h.r (tA_fit m hm).2 1).mono ?_
  rintro e w' ⟨rfl, hr, hg⟩
  rw [hs.1, turn_zero] at hr; rw [hs.2]; exact ⟨rfl, h.step hr hg⟩
theorem RowAt.other {w : World} {p g cap : Nat} {T : List Tk} (h : RowAt w p g cap T) {q : Nat} (h1 : q ≠ p) (h2 : q ≠ g) (j : Nat) (v : Value) : RowAt (w.setCell ⟨q, j, none⟩ v) p g cap T := by
  obtain ⟨cur, hb, ht⟩ := h.blk
  exact ⟨by rw [World.cell?_setCell_other _ _ _ _ (by intro e; injection e with e1 _ _; exact h1 (by first | exact e1 | exact e1.symm))]; exact h.c0, ⟨cur, hb.other h2 j v, ht⟩, h.ne, h.hc, h.hm, h.n1, h.n8, h.wf⟩
/-- The row, and who had how many turns. -/
structure Both (W w : World) (p g cap q : Nat) (T : List Tk) (a b : Nat) : Prop where
  r : RowAt w p g cap T
  k : Blk w q 34 #[.int .i64 a, .int .i64 b, .int .i64 0]
  np : q ≠ p
  ng : q ≠ g
  bel : Below W.heap.size W w
  hp : W.heap.size ≤ p
  hg : W.heap.size ≤ g
  hq : W.heap.size ≤ q
theorem c_next {W w : World} {p g cap q m i a b : Nat} (h : Both W w p g cap q (turnT m i) a b) (hm : m < 8) (hi : i < 900) :
    Calls Try.prog 13 #[.pointer (some ⟨p, 0, none⟩)] w fun e w' => e = .returned (.tuple #[.int .i64 (if i % 3 = 0 then 0 else 1), .bool true]) ∧ Both W w' p g cap q (turnT m (i + 1)) a b := by
  have hs : nextK (turnT m i) = (if i % 3 = 0 then 0 else 1) ∧ nextOk (turnT m i) = true ∧ nextT (turnT m i) = turnT m (i + 1) := by
    by_cases h3 : i % 3 = 0
    · rw [if_pos h3]; exact turn_a hm hi h3
    · rw [if_neg h3]; exact turn_b hm hi h3
  refine (next_any w p g cap _ h.r (turn_fit hm (by omega))).mono ?_
  rintro e w' ⟨rfl, hr, hg⟩
  rw [hs.2.2] at hr; rw [hs.1, hs.2.1]
  refine ⟨rfl, hr, ?_, h.np, h.ng, h.bel.trans (hg.below h.bel.size fun x hx => by subst hx; exact h.hg), h.hp, h.hg, h.hq⟩
  have hk := h.k
  unfold Blk at hk ⊢
  rw [← hk]; exact hg.block q h.k.lt h.ng
theorem Both.had {W w : World} {p g cap q a b : Nat} {T : List Tk} (h : Both W w p g cap q T a b) (j : Nat) (v : Int) (a' b' : Nat) (hv : (#[.int .i64 a, .int .i64 b, .int .i64 0] : Array Value).setIfInBounds j (.int .i64 v) = #[.int .i64 a', .int .i64 b', .int .i64 0]) : Both W (w.setCell ⟨q, j, none⟩ (.int .i64 v)) p g cap q T a' b' :=
  ⟨RowAt.other h.r h.np h.ng j _, by rw [← hv]; exact h.k.set j _, h.np, h.ng, h.bel.setCell h.hq _, h.hp, h.hg, h.hq⟩
theorem Both.cells {W w : World} {p g cap q a b : Nat} {T : List Tk} (h : Both W w p g cap q T a b) : (w.cell? ⟨q, 0, none⟩ = some (.int .i64 a) ∧ w.cell? ⟨q, 1, none⟩ = some (.int .i64 b) ∧ w.cell? ⟨q, 2, none⟩ = some (.int .i64 0)) ∧ w.frozen? ⟨q, 0, none⟩ = false ∧ w.frozen? ⟨q, 1, none⟩ = false :=
  ⟨⟨by rw [h.k.cell]; rfl, by rw [h.k.cell]; rfl, by rw [h.k.cell]; rfl⟩, h.k.froz 0, h.k.froz 1⟩
set_option maxHeartbeats 1000000 in
theorem walk (W : World) (n0 : Int) (hn0 : (Lit.int .i64 n0).wf = true) (rr : Int) (hrr : (Lit.int .u8 rr).wf = true) :
    Calls Try.prog 4 #[.int .i64 n0, .int .u8 rr] W fun e w' => e = .returned (.bool true) ∧ Below W.heap.size W w' := by
  have HP := Lib.hid fun w => pick_any n0 8 (by omega) (by omega) (bounds_i64 hn0) w
  obtain ⟨m, hm⟩ : ∃ m : Nat, n0 % 8 = m := ⟨(n0 % 8).toNat, by have := Int.emod_nonneg n0 (show (8 : Int) ≠ 0 by omega); omega⟩
  have hm8 : m < 8 := by have := Int.emod_lt_of_pos n0 (show (0 : Int) < 8 by omega); omega
  rw [hm] at HP
  clear hm hn0
  obtain ⟨rb, hre, hrb⟩ : ∃ rb : Nat, rr = rb ∧ rb < 256 := by
    have h := bounds_u8 hrr
    exact ⟨rr.toNat, by omega, by omega⟩
  subst hre
  clear hrr
  have e2 : IntKind.i64.wrap (rb : Int) = (rb : Int) := IntWalk.i64_in _ (by omega)
  have e3 : wrap64 (rb : Int) = (rb : Int) := IntWalk.wrap64_in _ (by omega)
  have e4 : IntKind.i64.wrap (3 * (rb : Int)) = ((3 * rb : Nat) : Int) := by rw [IntWalk.i64_in _ (by omega)]; omega
  have e5 : wrap64 (3 * (rb : Int)) = ((3 * rb : Nat) : Int) := by rw [IntWalk.wrap64_in _ (by omega)]; omega
  have e6 : IntKind.i64.wrap (2 * (rb : Int)) = ((2 * rb : Nat) : Int) := by rw [IntWalk.i64_in _ (by omega)]; omega
  have e7 : wrap64 (2 * (rb : Int)) = ((2 * rb : Nat) : Int) := by rw [IntWalk.wrap64_in _ (by omega)]; omega
  have W0 : Hid (wp 0 = 4607182418800017408) := rfl
  have hmi : (0 : Int) ≤ (m : Int) := Int.natCast_nonneg _
  go_enter Try.func4, Try.ntmps4
  rw [← W0.out]
  go_wp2
  go_loopw [5, 6] (fun x t wr => ∃ i : Nat, t = .int .i64 i ∧ i ≤ m ∧ x = .float .f64 (wp i) ∧ W = wr) (fun _ t _ => m - (intOf t).toNat)
  case atStart => refine ⟨0, ?_, ?_, ?_, ?_⟩ <;> first | rfl | trivial | exact Nat.zero_le _
  case round =>
    obtain ⟨i, rfl, j1, rfl, rfl⟩ := hrel
    have hi0 : (0 : Int) ≤ (i : Int) := Int.natCast_nonneg _
    by_cases hlt : i < m
    · have hlt' : (i : Int) < (m : Int) := by omega
      have hmul := fun t w' => run_fmul (wp_mul i (by omega)).1 t w'
      go_wp2_with (go_at_call 9; refine (HP.out _).mono ?_; rintro e w' ⟨rfl, rfl⟩)
      go_roundw
      case rel => refine ⟨i + 1, by go_num, by omega, ?_, ?_⟩ <;> first | rfl | trivial
      case measure => simp only [intOf]; omega
    · obtain rfl : i = m := by omega
      have hmul := fun t w' => run_fmul (wp_mul i (by omega)).2 t w'
      go_wp2_with (first | (go_at_call 9; refine (HP.out _).mono ?_; rintro e w' ⟨rfl, rfl⟩) | (go_at_call 10; refine (fnew3 _).mono ?_; rintro e w1 ⟨g, cap, rfl, hB, h0⟩) | (go_at_call 11; first | (refine (c_weight0 h0.out hm8).mono ?_; rintro e w2 ⟨rfl, h1⟩; replace h1 := Lib.hid h1; clear h0) | (refine (c_weight1 h1.out hm8).mono ?_; rintro e w3 ⟨rfl, h2⟩; replace h2 := Lib.hid h2; clear h1)) | (go_at_call 12; first | (refine (c_wake0 h2.out hm8).mono ?_; rintro e w4 ⟨rfl, h3⟩; replace h3 := Lib.hid h3; clear h2) | (refine (c_wake1 h3.out hm8).mono ?_; rintro e w5 ⟨rfl, h4⟩; replace h4 := Lib.hid h4; clear h3)))
      have hsz : W.heap.size < w5.heap.size := World.block_lt_of_cell? w5 _ h4.out.r.c0
      have hgz : g < w5.heap.size := h4.out.r.glt
      have HB1 : Hid (Both W (w5.alloc (.cells #[.int .i64 0, .int .i64 0, .int .i64 0] 34)) W.heap.size g cap w5.heap.size (turnT i 0) ((0 + 2) / 3) (0 - (0 + 2) / 3)) :=
        ⟨h4.out.r.below ((Below.refl _ _).alloc (Nat.le_refl _) _), heap_alloc_new w5 _, by omega, by omega, (hB.out.2.trans (h4.out.f.below hB.out.2.size fun q hq => by have := hB.out.1; omega)).alloc (by omega) _, Nat.le_refl _, by have := hB.out.1; omega, by omega⟩
      obtain ⟨q, hq⟩ : ∃ q, q = w5.heap.size := ⟨_, rfl⟩
      rw [← hq] at HB1 ⊢
      clear h4 hB hsz hgz hmul
      generalize w5.alloc (.cells #[.int .i64 0, .int .i64 0, .int .i64 0] 34) = w6 at HB1 ⊢
      clear hq
      go_loopw [10] (fun t wr => ∃ j : Nat, t = .int .i64 j ∧ j ≤ 3 * rb ∧ Hid (Both W wr W.heap.size g cap q (turnT i j) ((j + 2) / 3) (j - (j + 2) / 3))) (fun t _ => 3 * rb - (intOf t).toNat)
      case atStart => exact ⟨0, rfl, Nat.zero_le _, HB1⟩
      case round =>
        obtain ⟨j, rfl, j2, hR⟩ := hrel
        have hj0 : (0 : Int) ≤ (j : Int) := Int.natCast_nonneg _
        by_cases hlt2 : j < 3 * rb
        · have hlt2' : (j : Int) < ((3 * rb : Nat) : Int) := by omega
          have HN := Lib.hid (c_next hR.out hm8 (show j < 900 by omega))
          clear HB1 hR
          obtain ⟨a, ha⟩ : ∃ a, a = (j + 2) / 3 := ⟨_, rfl⟩
          obtain ⟨b, hb⟩ : ∃ b, b = j - (j + 2) / 3 := ⟨_, rfl⟩
          have ha2 : a ≤ 1000 := by omega
          have hb2 : b ≤ 1000 := by omega
          have ha0 : (0 : Int) ≤ (a : Int) := Int.natCast_nonneg _
          have hb0 : (0 : Int) ≤ (b : Int) := Int.natCast_nonneg _
          rw [← hb, ← ha] at HN
          by_cases h3 : j % 3 = 0
          · rw [if_pos h3] at HN
            have e1 : (j + 1 + 2) / 3 = a + 1 := by omega
            have e2 : j + 1 - (j + 1 + 2) / 3 = b := by omega
            replace e1 := Lib.hid e1
            replace e2 := Lib.hid e2
            replace h3 := Lib.hid h3
            clear ha hb
            go_wp2_with (go_at_call 13; refine HN.out.mono ?_; rintro e w2 ⟨rfl, hb2⟩; obtain ⟨⟨c0, c1, c2⟩, f0, f1⟩ := hb2.cells; replace hb2 := Lib.hid hb2)
            have hfin := Lib.hid (hb2.out.had 0 ((a : Int) + 1) (a + 1) b (by rfl))
            go_roundw
            case rel => exact ⟨j + 1, by go_num, by omega, by rw [e2.out, e1.out]; exact hfin⟩
            case measure => simp only [intOf]; omega
          · rw [if_neg h3] at HN
            have e1 : (j + 1 + 2) / 3 = a := by omega
            have e2 : j + 1 - (j + 1 + 2) / 3 = b + 1 := by omega
            replace e1 := Lib.hid e1
            replace e2 := Lib.hid e2
            replace h3 := Lib.hid h3
            clear ha hb
            go_wp2_with (go_at_call 13; refine HN.out.mono ?_; rintro e w2 ⟨rfl, hb2⟩; obtain ⟨⟨c0, c1, c2⟩, f0, f1⟩ := hb2.cells; replace hb2 := Lib.hid hb2)
            have hfin := Lib.hid (hb2.out.had 1 ((b : Int) + 1) a (b + 1) (by rfl))
            go_roundw
            case rel => exact ⟨j + 1, by go_num, by omega, by rw [e2.out, e1.out]; exact hfin⟩
            case measure => simp only [intOf]; omega
        · obtain rfl : j = 3 * rb := by omega
          have e8 : (3 * rb + 2) / 3 = rb := by omega
          have e9 : 3 * rb - (3 * rb + 2) / 3 = 2 * rb := by omega
          rw [e9, e8] at hR
          have hBW := Lib.hid hR.out.bel
          obtain ⟨⟨c0, c1, c2⟩, -, -⟩ := hR.out.cells
          clear e8 e9 HB1 hR
          go_wp2_with (go_at_call 14; refine (awake_ok _).mono ?_; rintro e w2 ⟨rfl, hB2⟩)
          go_ret
          exact ⟨rfl, below_chain hBW.out hB2⟩

/-! The row's step. -/
theorem own : ownKnob Try.prog.godebug = none := by kernel_rfl
theorem laidOut : laidOutB Try.prog = true := by kernel_rfl
set_option linter.unusedVariables false
set_option maxRecDepth 100000 in
theorem lifted (os : Os) (started : os.Started) (H : Type) (enc : TypeId × Value → H) :
    ReturnsInHanded {} Try.checked os 4 .any (Rows.fairTurnsSpec.pre6 enc Try.prog Try.f4 Rows.fairTurnsRow.domain false) (Rows.fairTurnsSpec.post enc Try.prog Try.f4 false true false false) := by
  refine returnsInHanded_of_change_sized (C := Try.checked) own started (by kernel_rfl) Try.func4
    (ChangeSpec.witness6 (enc := enc) (C := Try.checked) false ⟨#[], #[.int .i64 0, .int .u8 0], []⟩ 8 (by kernel_rfl) (by kernel_rfl) (by kernel_rfl) (by kernel_rfl)) ?_
  intro W base args ds gs before hval0 hW _ hsz0 _
  have hsz : (DataW.weightsEach Try.prog (Try.f4.params.toList ++ Rows.fairTurnsSpec.plain.varTypes Try.prog) (ds ++ gs)).all (· ≤ reachBytes) = true := hsz0
  clear hsz0
  have hval : ∀ (j : Nat) t v, Try.f4.params[j]? = some t → args[j]? = some v → Value.okWide Try.prog W .any base t v := hval0
  have hW' := hW
  obtain ⟨p, q, hA0, hV, rfl, hfz, hnd⟩ := hW
  have hA : DataW.TrodAll enc Try.prog W 0 (fun _ => true) true Try.f4.params.toList args.toList ds p := hA0
  rw [Try.params4] at hA hval hsz
  obtain ⟨v0, vs0, d0, ds0, p0, q0, hargs, rfl, rfl, h0, r0⟩ := trodAll_cons hA
  obtain ⟨v1, vs1, d1, ds1, p1, q1, rfl, rfl, rfl, h1, r1⟩ := trodAll_cons r0
  obtain ⟨rfl, rfl, rfl⟩ := trodAll_nil r1
  obtain rfl : args = #[v0, v1] := by cases args; simp_all
  obtain ⟨rfl, rfl⟩ := trodVars_none hV
  obtain ⟨a0, rfl, rfl, rfl, w0⟩ := open_int Try.underlying3 (hval 0 3 v0 rfl rfl) h0
  obtain ⟨a1, rfl, rfl, rfl, w1⟩ := open_int Try.underlying5 (hval 1 5 v1 rfl rfl) h1
  clear hA0 hval0
  refine (walk W a0 w0 a1 w1).mono fun e W' ⟨he, bel⟩ => ?_
  subst he
  exact ⟨_, rfl, _, _, _, [], _, [], hW', trodAll_mk1 (shut_bool Try.underlying4 _), (trodAll_cons_mk (shut_int Try.underlying3 w0) (trodAll_cons_mk (shut_int Try.underlying5 w1) trodAll_mk0)), rfl, bel.frame _, fun h => by cases h⟩

theorem over : Rows.fairTurnsRow.holds Try.pinned (OpenSpec.ofChange Rows.fairTurnsSpec) :=
  OpenClaim.holds_of_wide 4 Try.f4 rfl rfl rfl rfl rfl rfl rfl ⟨rfl, rfl, rfl, rfl, rfl⟩ rfl rfl rfl rfl rfl (by kernel_rfl) Try.func4 (by kernel_rfl)
    (of_decide_eq_true (by kernel_rfl)) (by unfold Func.isWrapper; first | (rw [if_pos (by decide +kernel)]; kernel_rfl) | (rw [if_neg (by decide +kernel)]; exact ⟨rfl, rfl⟩))
    (fun os started H enc _ => lifted os started H enc)

/-- THE STATEMENT. -/
theorem proved : Rows.FairTurnsSaid := over

#print axioms proved
end Go.Proofs.Ytpfdfbmoegajbaa.fairTurns
