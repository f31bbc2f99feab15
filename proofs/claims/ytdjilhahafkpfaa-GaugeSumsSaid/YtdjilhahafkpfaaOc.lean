/- The reference's sum. -/
import Derived.Test.YtdjilhahafkpfaaOa
import Derived.Test.YtdjilhahafkpfaaOb
namespace Go.Proofs.Ytdjilhahafkpfaa
open Go.RowKit Go.Deep
set_option maxRecDepth 100000
theorem Blk.fr2 {w w' : World} {q : Nat} {t : TypeId} {vs : Array Value} (h : Blk w q t vs) {S : Nat → Prop} (hb : Fr S w w') (hq : ¬ S q) : Blk w' q t vs := (hb.block q h.lt hq).trans h
theorem topV_small {k : Nat} (hk : k ≤ 1000) {V : Nat} (hV : (V : Int) ≤ k * topV) : Hid (V < 2 ^ WN) := by
  unfold Hid
  obtain ⟨f, hf⟩ : ∃ f, f = 2046 := ⟨_, rfl⟩
  have e : WN = f + 154 := by rw [wn, hf]
  rw [e]
  have h1 : FP.val 9218868437227405312 = 4503599627370496 * 2 ^ f := by rw [hf]; exact FP.val_inf
  have h2 : k * FP.val 9218868437227405312 < 2 ^ (f + 154) := by
    rw [h1, ← Nat.mul_assoc, Nat.pow_add, Nat.mul_comm (2 ^ f)]
    have h3 : (2 : Nat) ^ 154 = 22835963083295358096932575511191922182123945984 := by decide
    rw [h3]
    exact Nat.mul_lt_mul_of_pos_right (by omega) (Nat.two_pow_pos f)
  unfold topV at hV
  rw [← Int.natCast_mul] at hV
  exact Nat.lt_of_le_of_lt (Int.ofNat_le.1 hV) h2
/-- What the reference holds while it sums. -/
structure SumV (G : Gs) (k P M : Nat) (hb lb : Bool) : Prop where
  o : G.o = 0
  h : hb = decide (0 < G.h)
  l : lb = decide (0 < G.l)
  v : G.V = (P : Int) - M
  b : (P : Int) + M ≤ k * topV
theorem sumV0 : SumV gs0 0 0 0 false false := ⟨rfl, rfl, rfl, rfl, by simp⟩
theorem next_top {k : Nat} {x : Int} (h : x ≤ k * topV) : x ≤ ((k + 1 : Nat) : Int) * topV ∧ ∀ y : Int, y ≤ topV → x + y ≤ ((k + 1 : Nat) : Int) * topV := by
  have := topV_pos
  rw [Int.natCast_add, Int.add_mul]
  generalize (k : Int) * topV = T at *
  exact ⟨by omega, fun y hy => by omega⟩
theorem SumV.hi {G : Gs} {k P M : Nat} {hb lb : Bool} (s : SumV G k P M hb lb) : SumV (addH G) (k + 1) P M true lb :=
  ⟨s.o, by symm; exact decide_eq_true (show 0 < G.h + 1 by omega), s.l, s.v, (next_top s.b).1⟩
theorem SumV.lo {G : Gs} {k P M : Nat} {hb lb : Bool} (s : SumV G k P M hb lb) : SumV (addL' G) (k + 1) P M hb true :=
  ⟨s.o, s.h, by symm; exact decide_eq_true (show 0 < G.l + 1 by omega), s.v, (next_top s.b).1⟩
theorem val_top {x : Nat} (hf : FP.rung x < 9218868437227405312) : (FP.val (FP.rung x) : Int) ≤ topV := by
  have h := num_bound hf
  unfold FP.num at h
  split at h <;> omega
theorem SumV.pos {G : Gs} {k P M : Nat} {hb lb : Bool} (s : SumV G k P M hb lb) {x : Nat} (hf : FP.rung x < 9218868437227405312) (hs : FP.sgn x = false) : SumV (addF G x) (k + 1) (P + FP.val (FP.rung x)) M hb lb := by
  refine ⟨s.o, s.h, s.l, ?_, ?_⟩
  · show G.V + FP.num x = _
    unfold FP.num
    rw [hs, s.v, Int.natCast_add]
    simp only [Bool.false_eq_true, if_false]
    omega
  · have := (next_top s.b).2 _ (val_top hf)
    rw [Int.natCast_add]
    omega
theorem SumV.neg {G : Gs} {k P M : Nat} {hb lb : Bool} (s : SumV G k P M hb lb) {x : Nat} (hf : FP.rung x < 9218868437227405312) (hs : FP.sgn x = true) : SumV (addF G x) (k + 1) P (M + FP.val (FP.rung x)) hb lb := by
  refine ⟨s.o, s.h, s.l, ?_, ?_⟩
  · show G.V + FP.num x = _
    unfold FP.num
    rw [hs, s.v, Int.natCast_add]
    simp only [if_true]
    omega
  · have := (next_top s.b).2 _ (val_top hf)
    rw [Int.natCast_add]
    omega
theorem SumV.sum {G : Gs} {k P M : Nat} {hb lb : Bool} (s : SumV G k P M hb lb) :
    (hb = true ∧ lb = true → sumOf G = 9221120237041090561) ∧ (hb = true ∧ lb = false → sumOf G = 9218868437227405312) ∧ (hb = false ∧ lb = true → sumOf G = 18442240474082181120) ∧
    (hb = false ∧ lb = false ∧ P < M → sumOf G = negB (FP.rd (M - P) 0)) ∧ (hb = false ∧ lb = false ∧ ¬ P < M → sumOf G = FP.rd (P - M) 0) := by
  obtain ⟨ho, hh, hl, hv, -⟩ := s
  have h1 : hb = true ↔ 0 < G.h := by rw [hh]; exact decide_eq_true_iff
  have h2 : hb = false ↔ ¬ 0 < G.h := by rw [hh]; exact decide_eq_false_iff_not
  have l1 : lb = true ↔ 0 < G.l := by rw [hl]; exact decide_eq_true_iff
  have l2 : lb = false ↔ ¬ 0 < G.l := by rw [hl]; exact decide_eq_false_iff_not
  rw [h1, h2, l1, l2]
  unfold sumOf
  refine ⟨fun ⟨a, b⟩ => by rw [if_pos (Or.inr ⟨a, b⟩)], fun ⟨a, b⟩ => by rw [if_neg (by omega), if_pos a], fun ⟨a, b⟩ => by rw [if_neg (by omega), if_neg a, if_pos b], fun ⟨a, b, c⟩ => ?_, fun ⟨a, b, c⟩ => ?_⟩
  · rw [if_neg (by omega), if_neg a, if_neg b, if_neg (by omega), show (-G.V).toNat = M - P by omega]
  · rw [if_neg (by omega), if_neg a, if_neg b, if_pos (by omega), show G.V.toNat = P - M by omega]
theorem o_mono : ∀ (zs : List Nat) (G : Gs), G.o ≤ (zs.foldl addG G).o
  | [], G => Nat.le_refl _
  | x :: zs, G => by
    rw [List.foldl_cons]
    refine Nat.le_trans ?_ (o_mono zs _)
    rcases kinds x with k | k | k | k
    · rw [addG_nan k]; exact Nat.le_succ _
    · rw [addG_lo k]; exact Nat.le_refl _
    · rw [addG_hi k]; exact Nat.le_refl _
    · rw [addG_fin k]; exact Nat.le_refl _
theorem sum_nan {zs : List Nat} {i : Nat} (hi : i < zs.length) (hn : FP.isNaN (zs.getD i 0) = true) : sumOf (gsOf zs) = 9221120237041090561 := by
  have h : (gsOf (zs.take (i + 1))).o ≤ (gsOf zs).o := by
    have e : gsOf zs = (zs.drop (i + 1)).foldl addG (gsOf (zs.take (i + 1))) := by
      unfold gsOf; rw [← List.foldl_append, List.take_append_drop]
    rw [e]; exact o_mono _ _
  rw [take_snocN hi, gsOf_snoc, addG_nan hn] at h
  have h' : (gsOf (zs.take i)).o + 1 ≤ (gsOf zs).o := h
  unfold sumOf
  rw [if_pos (Or.inl (by omega))]
def V2 (P M : Nat) : Prop := Hid (P < 2 ^ WN) ∧ Hid (M < 2 ^ WN)
theorem lt_sub {A B : Nat} (h : Hid (A < 2 ^ WN)) : Hid (A - B < 2 ^ WN) := Nat.lt_of_le_of_lt (Nat.sub_le A B) h.out
set_option maxHeartbeats 4000000 in
theorem rsum_any (w : World) (a : Option Addr) (len cap : Nat) (zs : List Nat) (hI : IsF w a len cap zs) (hl : len ≤ 40) :
    Calls Try.prog 18 #[.slice a len cap] w fun e w' => e = .returned (.float .f64 (sumOf (gsOf zs))) ∧ Below w.heap.size w w' := by
  obtain rfl := hI.hlen
  have hcap := hI.hcap
  have hmax := hI.hmax
  have HI := Lib.hid hI
  have HW := Lib.hid hI.wf
  have HL := Lib.hid hl
  clear hI hl
  unfold maxLen at hmax
  have hz := fun w => (zero_of_info (P := Try.prog) zero_whole).1 w
  have HZE : (wb fun _ => 0) = wb (FP.dig 0) := wb_congr fun j _ => by unfold FP.dig; simp
  rw [HZE] at hz
  have HZ : Hid (BW ((w.alloc (.cells (wb (FP.dig 0)) 52)).alloc (.cells (wb (FP.dig 0)) 52)) w.heap.size 0) := Blk.alloc (heap_alloc_new w _) _
  have HZ2 : Hid (BW ((w.alloc (.cells (wb (FP.dig 0)) 52)).alloc (.cells (wb (FP.dig 0)) 52)) (w.heap.size + 1) 0) := heap_alloc_new' _ _ _ (by simp)
  have HZB : Hid (Below w.heap.size w ((w.alloc (.cells (wb (FP.dig 0)) 52)).alloc (.cells (wb (FP.dig 0)) 52))) := ((Below.refl _ _).alloc (Nat.le_refl _) _).alloc (by simp) _
  clear HZE
  generalize wb (FP.dig 0) = Z at hz HZ HZ2 HZB
  go_enter Try.func18, Try.ntmps18
  go_wp2
  obtain ⟨q, hq⟩ : ∃ q, q = w.heap.size + 1 := ⟨_, rfl⟩
  obtain ⟨p, hp⟩ : ∃ p, p = w.heap.size := ⟨_, rfl⟩
  rw [← hq] at HZ2 ⊢
  rw [← hp] at HZ ⊢
  have HPQ : Hid (w.heap.size ≤ p ∧ w.heap.size ≤ q ∧ p ≠ q) := ⟨by omega, by omega, by omega⟩
  clear hp hq
  generalize (w.alloc (.cells Z 52)).alloc (.cells Z 52) = w0 at HZ HZ2 HZB ⊢
  have HM : Hid (BW w0 p 0 ∧ BW w0 q 0 ∧ Below w.heap.size w w0) := ⟨HZ.out, HZ2.out, HZB.out⟩
  clear HZ HZ2 HZB hz
  go_loopw [5, 6, 7] (fun hv lv iv wr => ∃ i P M : Nat, ∃ hb lb : Bool, iv = .int .i64 i ∧ i ≤ zs.length ∧ hv = .bool hb ∧ lv = .bool lb ∧ Hid (SumV (gsOf (zs.take i)) i P M hb lb) ∧ Hid (BW wr p P ∧ BW wr q M ∧ Below w.heap.size w wr)) (fun _ _ iv _ => zs.length - (intOf iv).toNat)
  case atStart => exact ⟨0, 0, 0, false, false, rfl, by omega, rfl, rfl, sumV0, HM⟩
  case round =>
    obtain ⟨i, P, M, hb, lb, rfl, i1, rfl, rfl, hS, hM⟩ := hrel
    clear HM
    have hi0 : (0 : Int) ≤ (i : Int) := Int.natCast_nonneg _
    have HD : Hid (∀ n, Below wr.heap.size wr (wr.drewN n)) := fun n => ⟨rfl, rfl, rfl, Nat.le_refl _, fun _ _ => rfl⟩
    by_cases hlt : i < zs.length
    · have hlt' : (i : Int) < (zs.length : Int) := by omega
      obtain ⟨b, off, rfl, hc⟩ := HI.out.one hM.out.2.2 hlt
      have hx : zs.getD i 0 < 18446744073709551616 := FP.getD_lt HW.out i
      have HS : Hid (gsOf (zs.take (i + 1)) = addG (gsOf (zs.take i)) (zs.getD i 0)) := by unfold Hid; rw [take_snocN hlt, gsOf_snoc]
      have HNn := Lib.hid fun hn => sum_nan hlt hn
      generalize zs.getD i 0 = x at hc hx HS HNn
      have HI1 := Lib.hid fun w => isInf_any x 1 hx w
      have HI2 := Lib.hid fun w => isInf_any x (-1) hx w
      have HSg := Lib.hid fun w => signbit_any x w hx
      rcases kinds x with k | k | k | k
      · have hne := nan_ne k
        have HN := Lib.hid (HNn.out k)
        clear k HI1 HI2 HSg HNn HS hx
        go_wp2
        go_quiet (fail)
        go_wp2_with (go_at_call 25; refine (nan_any _).mono ?_; rintro e w' ⟨rfl, rfl⟩)
        go_ret
        exact ⟨by rw [HN.out]; rfl, below_chain hM.out.2.2 (HD.out nq)⟩
      · have hne := nan_ne k.1
        have b1 : infB x 1 = false := by unfold infB; rw [if_neg (by omega), if_neg (by omega), k.2.2]; rfl
        have b2 : infB x (-1) = true := by unfold infB; rw [if_neg (by omega), if_pos (by omega), k.2.2, k.2.1]; rfl
        rw [b1] at HI1
        rw [b2] at HI2
        have HN : Hid (SumV (gsOf (zs.take (i + 1))) (i + 1) P M hb true) := by unfold Hid; rw [HS.out, addG_lo k]; exact hS.out.lo
        clear k b1 b2 HSg HNn HS hx
        go_wp2
        go_quiet (fail)
        go_wp2_with (go_at_call 12; first | (with_reducible refine (HI1.out _).mono ?_; rintro e w' ⟨rfl, rfl⟩) | (with_reducible refine (HI2.out _).mono ?_; rintro e w' ⟨rfl, rfl⟩))
        go_roundw
        case rel => exact ⟨i + 1, P, M, hb, true, by go_num, by omega, rfl, rfl, HN, hM.out.1.drewN _, hM.out.2.1.drewN _, below_chain hM.out.2.2 (HD.out nq)⟩
        case measure => simp only [intOf]; omega
      · have hne := nan_ne k.1
        have b1 : infB x 1 = true := by unfold infB; rw [if_neg (by omega), if_neg (by omega), k.2.2, k.2.1]; rfl
        rw [b1] at HI1
        have HN : Hid (SumV (gsOf (zs.take (i + 1))) (i + 1) P M true lb) := by unfold Hid; rw [HS.out, addG_hi k]; exact hS.out.hi
        clear k b1 HI2 HSg HNn HS hx
        go_wp2
        go_quiet (fail)
        go_wp2_with (go_at_call 12; refine (HI1.out _).mono ?_; rintro e w' ⟨rfl, rfl⟩)
        go_roundw
        case rel => exact ⟨i + 1, P, M, true, lb, by go_num, by omega, rfl, rfl, HN, hM.out.1.drewN _, hM.out.2.1.drewN _, below_chain hM.out.2.2 (HD.out nq)⟩
        case measure => simp only [intOf]; omega
      · have hne := nan_ne k.1
        have b1 : infB x 1 = false := by unfold infB; rw [if_neg (by omega), if_neg (by omega), k.2]; simp
        have b2 : infB x (-1) = false := by unfold infB; rw [if_neg (by omega), if_pos (by omega), k.2]; simp
        rw [b1] at HI1
        rw [b2] at HI2
        have hf := fin_of_kind k
        have HAP := Lib.hid fun n => wadd_any (wr.drewN n) p P (Blk.drewN hM.out.1 n) x hx hf
        have HAM := Lib.hid fun n => wadd_any (wr.drewN n) q M (Blk.drewN hM.out.2.1 n) x hx hf
        cases hsg : FP.sgn x with
        | true =>
          rw [hsg] at HSg
          have HN : Hid (SumV (gsOf (zs.take (i + 1))) (i + 1) P (M + FP.val (FP.rung x)) hb lb) := by unfold Hid; rw [HS.out, addG_fin k]; exact hS.out.neg hf hsg
          clear k b1 b2 HNn HS hx hf hsg HAP
          go_wp2
          go_quiet (fail)
          go_wp2_with (first | (go_at_call 12; first | (with_reducible refine (HI1.out _).mono ?_; rintro e w' ⟨rfl, rfl⟩) | (with_reducible refine (HI2.out _).mono ?_; rintro e w' ⟨rfl, rfl⟩)) | (go_at_call 20; refine (HSg.out _).mono ?_; rintro e w' ⟨rfl, rfl⟩) | (go_at_call 34; refine (HAM.out nq).mono ?_; rintro e w2 ⟨rfl, h2, f2⟩; replace h2 := Lib.hid h2; replace f2 := Lib.hid f2))
          go_roundw
          case rel => exact ⟨i + 1, P, _, hb, lb, by go_num, by omega, rfl, rfl, HN, Blk.fr2 (Blk.drewN hM.out.1 nq) f2.out HPQ.out.2.2, h2.out, (below_chain hM.out.2.2 (HD.out nq)).trans (f2.out.below hM.out.2.2.size fun y hy => by rw [hy]; exact HPQ.out.2.1)⟩
          case measure => simp only [intOf]; omega
        | false =>
          rw [hsg] at HSg
          have HN : Hid (SumV (gsOf (zs.take (i + 1))) (i + 1) (P + FP.val (FP.rung x)) M hb lb) := by unfold Hid; rw [HS.out, addG_fin k]; exact hS.out.pos hf hsg
          clear k b1 b2 HNn HS hx hf hsg HAM
          go_wp2
          go_quiet (fail)
          go_wp2_with (first | (go_at_call 12; first | (with_reducible refine (HI1.out _).mono ?_; rintro e w' ⟨rfl, rfl⟩) | (with_reducible refine (HI2.out _).mono ?_; rintro e w' ⟨rfl, rfl⟩)) | (go_at_call 20; refine (HSg.out _).mono ?_; rintro e w' ⟨rfl, rfl⟩) | (go_at_call 34; refine (HAP.out nq).mono ?_; rintro e w2 ⟨rfl, h2, f2⟩; replace h2 := Lib.hid h2; replace f2 := Lib.hid f2))
          go_roundw
          case rel => exact ⟨i + 1, _, M, hb, lb, by go_num, by omega, rfl, rfl, HN, h2.out, Blk.fr2 (Blk.drewN hM.out.2.1 nq) f2.out (fun e => HPQ.out.2.2 e.symm), (below_chain hM.out.2.2 (HD.out nq)).trans (f2.out.below hM.out.2.2.size fun y hy => by rw [hy]; exact HPQ.out.1)⟩
          case measure => simp only [intOf]; omega
    · obtain rfl : i = zs.length := by omega
      rw [List.take_length] at hS
      have HE := Lib.hid hS.out.sum
      have HPs : Hid (V2 P M) := ⟨topV_small (k := zs.length) (by have := HL.out; omega) (by have := hS.out.b; omega), topV_small (k := zs.length) (by have := HL.out; omega) (by have := hS.out.b; omega)⟩
      clear hS
      cases hb with
      | true =>
        cases lb with
        | true =>
          go_wp2_with (go_at_call 25; refine (nan_any _).mono ?_; rintro e w' ⟨rfl, rfl⟩)
          go_ret
          exact ⟨by rw [HE.out.1 (by simp)]; rfl, hM.out.2.2⟩
        | false =>
          go_wp2_with (go_at_call 31; refine (inf_up _ (by omega) _).mono ?_; rintro e w' ⟨rfl, rfl⟩)
          go_ret
          exact ⟨by rw [HE.out.2.1 (by simp)]; rfl, hM.out.2.2⟩
      | false =>
        cases lb with
        | true =>
          go_wp2_with (go_at_call 31; refine (inf_down _ (by omega) _).mono ?_; rintro e w' ⟨rfl, rfl⟩)
          go_ret
          exact ⟨by rw [HE.out.2.2.1 (by simp)]; rfl, hM.out.2.2⟩
        | false =>
          have HLs := Lib.hid (wless_any wr p q P M hM.out.1 hM.out.2.1 HPs.out.1 HPs.out.2)
          by_cases hlt2 : P < M
          · have HR := Lib.hid (HE.out.2.2.2.1 ⟨rfl, rfl, hlt2⟩)
            rw [decide_eq_true hlt2] at HLs
            have hneg := fun w => run_neg_f64 (b := FP.rd (M - P) 0) (by have := FP.rd_le_inf (M - P) 0; omega) w
            have HLT := Lib.hid hlt2
            clear hlt2 HE
            generalize hV : FP.rd (M - P) 0 = r at hneg HR
            have HVr := Lib.hid hV
            clear hV
            go_wp2_with (first | (go_at_call 35; refine HLs.out.mono ?_; rintro e w2 ⟨rfl, b2⟩; replace b2 := Lib.hid b2) | (go_at_call 37; refine (wminus_any _ q p M P (hM.out.2.1.below b2.out) (hM.out.1.below b2.out) (Nat.le_of_lt HLT.out)).mono ?_; rintro e w3 ⟨rfl, h3, b3⟩; replace b3 := Lib.hid b3; replace h3 := Lib.hid h3) | (go_at_call 36; refine (rounded_any _ _ _ h3.out (lt_sub HPs.out.2)).mono ?_; rintro e w4 ⟨rfl, b4⟩; replace b4 := Lib.hid b4; rw [HVr.out]))
            go_ret
            exact ⟨by rw [HR.out]; rfl, below_chain (below_chain (below_chain hM.out.2.2 b2.out) b3.out) b4.out⟩
          · have HR := Lib.hid (HE.out.2.2.2.2 ⟨rfl, rfl, hlt2⟩)
            rw [decide_eq_false hlt2] at HLs
            have HLT := Lib.hid hlt2
            clear hlt2 HE
            go_wp2_with (first | (go_at_call 35; refine HLs.out.mono ?_; rintro e w2 ⟨rfl, b2⟩; replace b2 := Lib.hid b2) | (go_at_call 37; refine (wminus_any _ p q P M (hM.out.1.below b2.out) (hM.out.2.1.below b2.out) (Nat.le_of_not_lt HLT.out)).mono ?_; rintro e w3 ⟨rfl, h3, b3⟩; replace b3 := Lib.hid b3; replace h3 := Lib.hid h3) | (go_at_call 36; refine (rounded_any _ _ _ h3.out (lt_sub HPs.out.1)).mono ?_; rintro e w4 ⟨rfl, b4⟩; replace b4 := Lib.hid b4))
            go_ret
            exact ⟨by rw [HR.out]; rfl, below_chain (below_chain (below_chain hM.out.2.2 b2.out) b3.out) b4.out⟩
end Go.Proofs.Ytdjilhahafkpfaa
