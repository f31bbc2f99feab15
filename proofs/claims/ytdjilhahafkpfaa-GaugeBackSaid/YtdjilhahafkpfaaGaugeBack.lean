/- GaugeBack: for every list of numbers and one more the law returns true. -/
import Derived.Test.YtdjilhahafkpfaaLu
import Derived.ProofKit
import Derived.OpenShut
import Derived.SizedLaws
namespace Go.Proofs.Ytdjilhahafkpfaa.gaugeBack
open Go.ChangeShapes Go.WideShapes Go.ChangeAt Go.RowKit
set_option maxRecDepth 100000
theorem same_nan (y : Nat) (h : FP.isNaN y = true) : FP.sameB 9221120237041090561 y = true := by
  unfold FP.sameB; rw [FP.rank_nan h, FP.rank_dnan]; simp
def Fin (x : Nat) : Prop := FP.isNaN x = false ∧ FP.isInf x = false
def sumN : List Nat → Int
  | [] => 0
  | x :: l => FP.num x + sumN l
theorem sumN_append : ∀ A B, sumN (A ++ B) = sumN A + sumN B
  | [], B => by simp [sumN]
  | x :: A, B => by simp only [List.cons_append, sumN, sumN_append A B]; omega
theorem fold_fin : ∀ (l : List Nat) (G : Gs), (∀ x ∈ l, Fin x) → (l.foldl addG G).V = G.V + sumN l ∧ (l.foldl addG G).o = G.o ∧ (l.foldl addG G).h = G.h ∧ (l.foldl addG G).l = G.l
  | [], G, _ => ⟨by simp [sumN], rfl, rfl, rfl⟩
  | x :: l, G, h => by
    have ih := fold_fin l (addG G x) fun y hy => h y (List.mem_cons_of_mem _ hy)
    have e := addG_fin (G := G) (h x List.mem_cons_self)
    rw [List.foldl_cons]
    rw [e] at ih ⊢
    refine ⟨ih.1.trans ?_, ih.2.1, ih.2.2.1, ih.2.2.2⟩
    show G.V + FP.num x + sumN l = G.V + (FP.num x + sumN l)
    omega
theorem num_negB {x : Nat} : FP.num (negB x) = -FP.num x := by
  unfold FP.num
  rw [sgn_negB, show FP.rung (negB x) = FP.rung x from FP.rung_word (FP.rung_lt x)]
  cases FP.sgn x <;> simp
theorem fin_negB {x : Nat} (h : Fin x) : Fin (negB x) := by
  have hr : FP.rung (negB x) = FP.rung x := FP.rung_word (FP.rung_lt x)
  have h1 := h.1; have h2 := h.2
  unfold FP.isNaN at h1; unfold FP.isInf at h2
  unfold Fin FP.isNaN FP.isInf
  rw [hr]; exact ⟨h1, h2⟩
theorem negB_lt (x : Nat) : negB x < 18446744073709551616 := by
  unfold negB; exact FP.word_num _ _ (FP.rung_lt x)
def negs (zs : List Nat) : List Nat := (zs.map negB).reverse
theorem sumN_rev : ∀ A, sumN A.reverse = sumN A
  | [] => rfl
  | x :: A => by rw [List.reverse_cons, sumN_append, sumN_rev A]; simp [sumN]; omega
theorem sumN_neg : ∀ A, sumN (A.map negB) = -sumN A
  | [] => rfl
  | x :: A => by simp only [List.map_cons, sumN, sumN_neg A, num_negB]; omega
theorem negs_len (zs : List Nat) : (negs zs).length = zs.length := by simp [negs]
theorem negs_get {zs : List Nat} {j : Nat} (hj : j < zs.length) : (negs zs).getD j 0 = negB (zs.getD (zs.length - 1 - j) 0) := by
  unfold negs
  rw [List.getD_eq_getElem?_getD, List.getElem?_reverse (by simpa using hj), List.length_map, List.getElem?_map, List.getD_eq_getElem?_getD, List.getElem?_eq_getElem (by omega)]
  rfl
theorem sumV_num {x : Nat} (hx : x < 18446744073709551616) (hf : Fin x) (hk : FP.key x ≠ 0) : sumV (FP.num x) = x := by
  have hr := fin_of_kind hf
  have hnz : FP.num x ≠ 0 := fun h => hk (FP.key_num.2 h)
  have hw := FP.word_parts hx
  have ha := FP.num_abs x
  have hv : 0 ≤ (FP.val (FP.rung x) : Int) := Int.natCast_nonneg _
  unfold sumV
  cases hs : FP.sgn x with
  | false =>
    have hn : FP.num x = FP.val (FP.rung x) := by unfold FP.num; rw [hs]; simp
    rw [hs, FP.word_eq, if_neg (by simp)] at hw
    rw [if_pos (by omega), hn, Int.toNat_natCast, FP.rd_exact0 (by omega), hw]
  | true =>
    have hn : FP.num x = -(FP.val (FP.rung x) : Int) := by unfold FP.num; rw [hs]; simp
    rw [hs] at hw
    rw [if_neg (by omega), hn, Int.neg_neg, Int.toNat_natCast, negB_rd, FP.rd_exact0 (by omega), hw]
/-- What the sum is in the end. -/
theorem back_S (zs : List Nat) (more : Nat) (hz : ∀ x ∈ zs, Fin x) (hm : more < 18446744073709551616) :
    (FP.isNaN more = true ∧ sumOf (gsOf (zs ++ more :: negs zs)) = 9221120237041090561) ∨
    (FP.isNaN more = false ∧ ((FP.key more = 0 → sumOf (gsOf (zs ++ more :: negs zs)) = 0) ∧ (FP.key more ≠ 0 → sumOf (gsOf (zs ++ more :: negs zs)) = more))) := by
  have hg : gsOf (zs ++ more :: negs zs) = (negs zs).foldl addG (addG (zs.foldl addG gs0) more) := by unfold gsOf; rw [List.foldl_append, List.foldl_cons]
  have hn : ∀ x ∈ negs zs, Fin x := fun x hx => by
    unfold negs at hx
    rw [List.mem_reverse, List.mem_map] at hx
    obtain ⟨y, hy, rfl⟩ := hx
    exact fin_negB (hz y hy)
  have f1 := fold_fin zs gs0 hz
  have f2 := fold_fin (negs zs) (addG (zs.foldl addG gs0) more) hn
  have hs : sumN (negs zs) = -sumN zs := by unfold negs; rw [sumN_rev, sumN_neg]
  rw [hg]
  generalize zs.foldl addG gs0 = G1 at f1 f2 ⊢
  have g1 : gs0.V = 0 := rfl
  have g2 : gs0.o = 0 := rfl
  have g3 : gs0.h = 0 := rfl
  have g4 : gs0.l = 0 := rfl
  rw [g1, g2, g3, g4] at f1
  rcases kinds more with k | k | k | k
  · left
    refine ⟨k, ?_⟩
    rw [addG_nan k] at f2 ⊢
    generalize (negs zs).foldl addG (addN G1) = G at f2 ⊢
    have e : G.o = 1 := by rw [f2.2.1]; show G1.o + 1 = 1; omega
    unfold sumOf; rw [e, if_pos (by omega)]
  · right
    refine ⟨k.1, fun h => absurd h (key_inf k.2.1), fun _ => ?_⟩
    rw [addG_lo k] at f2 ⊢
    generalize (negs zs).foldl addG (addL' G1) = G at f2 ⊢
    have e1 : G.o = 0 := by rw [f2.2.1]; show G1.o = 0; omega
    have e2 : G.h = 0 := by rw [f2.2.2.1]; show G1.h = 0; omega
    have e3 : G.l = 1 := by rw [f2.2.2.2]; show G1.l + 1 = 1; omega
    unfold sumOf; rw [e1, e2, e3, if_neg (by omega), if_neg (by omega), if_pos (by omega)]; exact (lo_word hm k).symm
  · right
    refine ⟨k.1, fun h => absurd h (key_inf k.2.1), fun _ => ?_⟩
    rw [addG_hi k] at f2 ⊢
    generalize (negs zs).foldl addG (addH G1) = G at f2 ⊢
    have e1 : G.o = 0 := by rw [f2.2.1]; show G1.o = 0; omega
    have e2 : G.h = 1 := by rw [f2.2.2.1]; show G1.h + 1 = 1; omega
    have e3 : G.l = 0 := by rw [f2.2.2.2]; show G1.l = 0; omega
    unfold sumOf; rw [e1, e2, e3, if_neg (by omega), if_pos (by omega)]; exact (hi_word hm k).symm
  · right
    refine ⟨k.1, ?_⟩
    rw [addG_fin k] at f2 ⊢
    generalize (negs zs).foldl addG (addF G1 more) = G at f2 ⊢
    have e0 : G.V = FP.num more := by rw [f2.1, hs]; show G1.V + FP.num more + -sumN zs = _; rw [f1.1]; omega
    have e1 : G.o = 0 := by rw [f2.2.1]; show G1.o = 0; omega
    have e2 : G.h = 0 := by rw [f2.2.2.1]; show G1.h = 0; omega
    have e3 : G.l = 0 := by rw [f2.2.2.2]; show G1.l = 0; omega
    rw [sumOf_fin e1 e2 e3, e0]
    refine ⟨fun hk => ?_, fun hk => sumV_num hm k hk⟩
    rw [FP.key_num.1 hk]; unfold sumV; rw [if_pos (by omega)]; exact FP.rd_zero 0
theorem walk_long (W : World) (a : Option Addr) (len cap : Nat) (hl : 100 < len) (hc : len ≤ 9223372036854775807) (more : Nat) :
    Calls Try.prog 3 #[.slice a len cap, .float .f64 more] W fun e w' => e = .returned (.bool true) ∧ Below W.heap.size W w' := by
  have hl' : (100 : Int) < (len : Int) := by omega
  have HA := Lib.hid (awake_ok W)
  go_enter Try.func3, Try.ntmps3
  go_wp2_with (go_at_call 10; refine HA.out.mono ?_; rintro e w' ⟨rfl, hB⟩)
  go_ret
  exact ⟨rfl, hB⟩
set_option maxHeartbeats 4000000 in
theorem walk_short (W : World) (a : Option Addr) (len cap : Nat) (zs : List Nat) (hI : IsF W a len cap zs) (hl : len ≤ 100) (more : Nat) (hm : more < 18446744073709551616) :
    Calls Try.prog 3 #[.slice a len cap, .float .f64 more] W fun e w' => e = .returned (.bool true) ∧ Below W.heap.size W w' := by
  obtain rfl := hI.hlen
  have hcap := hI.hcap
  have hmax := hI.hmax
  have HI := Lib.hid hI
  have HW := Lib.hid hI.wf
  have HM := Lib.hid hm
  clear hI hm
  unfold maxLen at hmax
  have hl' : ¬ (100 : Int) < (zs.length : Int) := by omega
  have HAW : Hid (∀ j, j ≤ zs.length → ∀ x ∈ zs ++ more :: (negs zs).take j, x < 18446744073709551616) := fun j _ x hx => by
    rcases List.mem_append.1 hx with h | h
    · exact HW.out x h
    · rcases List.mem_cons.1 h with h | h
      · rw [h]; exact HM.out
      · have := List.mem_of_mem_take h
        unfold negs at this
        rw [List.mem_reverse, List.mem_map] at this
        obtain ⟨y, -, rfl⟩ := this
        exact negB_lt y
  go_enter Try.func3, Try.ntmps3
  go_wp2_with (go_at_call 11; refine (gnew _).mono ?_; rintro e w1 ⟨rfl, hg, hb⟩)
  have HG := Lib.hid hg
  have HB := Lib.hid hb
  obtain ⟨p, hp⟩ : ∃ p, p = W.heap.size := ⟨_, rfl⟩
  rw [← hp] at HG ⊢
  have HPp := Lib.hid hp
  clear hg hb hp
  go_loopw [6] (fun iv wr => ∃ i : Nat, iv = .int .i64 i ∧ i ≤ zs.length ∧ Hid (GA wr p (gsOf (zs.take i))) ∧ Hid (Below W.heap.size W wr) ∧ Hid (∀ x ∈ zs.take i, Fin x)) (fun iv _ => zs.length - (intOf iv).toNat)
  case atStart => exact ⟨0, rfl, by omega, HG, HB, fun x hx => by simp at hx⟩
  case round =>
    obtain ⟨i, rfl, i1, hG, hB, hF⟩ := hrel
    clear HG HB
    have hi0 : (0 : Int) ≤ (i : Int) := Int.natCast_nonneg _
    by_cases hlt : i < zs.length
    · have hlt' : (i : Int) < (zs.length : Int) := by omega
      obtain ⟨b, off, rfl, hc⟩ := HI.out.one hB.out hlt
      have hH : Held i (gsOf (zs.take i)) := by
        have := heldOf (zs := zs.take i) fun x hx => HW.out x (List.mem_of_mem_take hx)
        rwa [List.length_take, Nat.min_eq_left i1] at this
      have hx : zs.getD i 0 < 18446744073709551616 := FP.getD_lt HW.out i
      have HA := Lib.hid fun n => gadd_any (wr.drewN n) p _ i (GB.below hG.out ⟨rfl, rfl, rfl, Nat.le_refl _, fun _ _ => rfl⟩) hH (by omega) (zs.getD i 0) hx
      have HF2 : Hid (Fin (zs.getD i 0) → ∀ x ∈ zs.take (i + 1), Fin x) := fun h x hx => by
        rw [take_snocN hlt] at hx
        rcases List.mem_append.1 hx with h1 | h1
        · exact hF.out x h1
        · simp at h1; rw [h1]; exact h
      rw [← gsOf_snoc, ← take_snocN hlt] at HA
      have HII := Lib.hid fun w => isInf_any (zs.getD i 0) 0 hx w
      generalize zs.getD i 0 = x at hc HA HF2 HII
      clear hH hx hG
      cases hN : FP.isNaN x with
      | true =>
        have hne := nan_ne hN
        clear HII hN
        go_wp2
        go_quiet (fail)
        go_wp2_with (go_at_call 10; refine (awake_ok _).mono ?_; rintro e w2 ⟨rfl, hb2⟩)
        go_ret
        exact ⟨rfl, below_chain (below_chain (w' := wr.drewN nq) hB.out ⟨rfl, rfl, rfl, Nat.le_refl _, fun _ _ => rfl⟩) hb2⟩
      | false =>
        have hne := nan_ne hN
        have hib : infB x 0 = FP.isInf x := by unfold infB; rw [if_pos rfl]
        rw [hib] at HII
        cases hi : FP.isInf x with
        | true =>
          rw [hi] at HII
          clear hN hib
          go_wp2
          go_quiet (first | (go_at_call 12; exact (HII.out _).mono fun _ _ h => ⟨h.1, _, by first | exact h.2 | exact h.2.symm⟩))
          go_wp2_with (go_at_call 10; refine (awake_ok _).mono ?_; rintro e w2 ⟨rfl, hb2⟩)
          go_ret
          exact ⟨rfl, below_chain (below_chain (w' := wr.drewN nq) hB.out ⟨rfl, rfl, rfl, Nat.le_refl _, fun _ _ => rfl⟩) hb2⟩
        | false =>
          rw [hi] at HII
          have HF3 := Lib.hid (HF2.out ⟨hN, hi⟩)
          clear hN hib
          go_wp2
          go_quiet (first | (go_at_call 12; exact (HII.out _).mono fun _ _ h => ⟨h.1, _, by first | exact h.2 | exact h.2.symm⟩))
          go_wp2_with (go_at_call 13; refine (HA.out _).mono ?_; rintro e w2 ⟨rfl, h2, f2⟩; replace h2 := Lib.hid h2; replace f2 := Lib.hid f2)
          have hBd : Hid (Below W.heap.size W (wr.drewN nq)) := below_chain hB.out ⟨rfl, rfl, rfl, Nat.le_refl _, fun _ _ => rfl⟩
          go_roundw
          case rel => exact ⟨i + 1, by go_num, by omega, h2, hBd.out.trans (f2.out.below hBd.out.size fun q hq => by rw [hq, HPp.out]; exact Nat.le_refl _), HF3⟩
          case measure => simp only [intOf]; omega
    · obtain rfl : i = zs.length := by omega
      rw [List.take_length] at hG hF
      have HH : Hid (∀ j, j ≤ zs.length → Held (zs.length + 1 + j) (gsOf (zs ++ more :: (negs zs).take j))) := fun j hj => by
        have h := heldOf (HAW.out j hj)
        have e : (zs ++ more :: (negs zs).take j).length = zs.length + 1 + j := by simp [negs_len]; omega
        rwa [e] at h
      have HA0 : Hid (Calls Try.prog 13 #[.pointer (some ⟨p, 0, none⟩), .float .f64 more] wr fun e w' => e = .returned (.tuple #[]) ∧ GA w' p (gsOf (zs ++ [more])) ∧ Fr (fun q => q = p) wr w') := by
        have h := gadd_any wr p _ zs.length hG.out (heldOf HW.out) (by omega) more HM.out
        rwa [← gsOf_snoc] at h
      have HFin := Lib.hid (back_S zs more hF.out HM.out)
      clear hG hF
      go_wp2_with (go_at_call 13; refine HA0.out.mono ?_; rintro e w2 ⟨rfl, h2, f2⟩; replace h2 := Lib.hid h2; replace f2 := Lib.hid f2)
      have hB2 : Hid (Below W.heap.size W w2) := hB.out.trans (f2.out.below hB.out.size fun q hq => by rw [hq, HPp.out]; exact Nat.le_refl _)
      have hG2 : Hid (GA w2 p (gsOf (zs ++ more :: (negs zs).take 0))) := h2
      clear HA0 h2 f2
      go_loopw [7] (fun iv wr => ∃ j : Nat, iv = .int .i64 j ∧ j ≤ zs.length ∧ Hid (GA wr p (gsOf (zs ++ more :: (negs zs).take j))) ∧ Hid (Below W.heap.size W wr)) (fun iv _ => zs.length - (intOf iv).toNat)
      case atStart => exact ⟨0, rfl, by omega, hG2, hB2⟩
      case round =>
        obtain ⟨j, rfl, j1, hG, hB⟩ := hrel
        clear hG2 hB2
        have hj0 : (0 : Int) ≤ (j : Int) := Int.natCast_nonneg _
        by_cases hlj : j < zs.length
        · have hlj' : (j : Int) < (zs.length : Int) := by omega
          obtain ⟨i, hi⟩ : ∃ i, i = zs.length - 1 - j := ⟨_, rfl⟩
          have hil : i < zs.length := by omega
          obtain ⟨b, off, rfl, hc⟩ := HI.out.one hB.out hil
          have hx : zs.getD i 0 < 18446744073709551616 := FP.getD_lt HW.out i
          have HA := Lib.hid (gadd_any wr p _ _ hG.out (HH.out j j1) (by omega) (negB (zs.getD i 0)) (negB_lt _))
          have e : gsOf (zs ++ more :: (negs zs).take (j + 1)) = addG (gsOf (zs ++ more :: (negs zs).take j)) (negB (zs.getD i 0)) := by
            rw [take_snocN (by rw [negs_len]; exact hlj), negs_get hlj, ← hi, ← gsOf_snoc]; simp
          rw [← e] at HA
          have hneg := fun w => run_neg_f64 hx w
          have hix : (zs.length : Int) - 1 - (j : Int) = (i : Int) := by omega
          have w1 : wrap64 ((zs.length : Int) - 1) = (zs.length : Int) - 1 := IntWalk.wrap64_in _ (by omega)
          have w2 : IntKind.i64.wrap ((zs.length : Int) - 1) = (zs.length : Int) - 1 := IntWalk.i64_in _ (by omega)
          have w3 : wrap64 (i : Int) = (i : Int) := IntWalk.wrap64_in _ (by omega)
          have w4 : IntKind.i64.wrap (i : Int) = (i : Int) := IntWalk.i64_in _ (by omega)
          have hi0 : (0 : Int) ≤ (i : Int) := Int.natCast_nonneg _
          have hi1 : (i : Int) < (zs.length : Int) := by omega
          generalize zs.getD i 0 = x at hc HA hneg
          generalize negB x = y at HA hneg
          clear hx hG hi e
          go_wp2_with (go_at_call 13; refine HA.out.mono ?_; rintro e w2 ⟨rfl, h2, f2⟩; replace h2 := Lib.hid h2; replace f2 := Lib.hid f2)
          go_roundw
          case rel => exact ⟨j + 1, by go_num, by omega, h2, hB.out.trans (f2.out.below hB.out.size fun q hq => by rw [hq, HPp.out]; exact Nat.le_refl _)⟩
          case measure => simp only [intOf]; omega
        · obtain rfl : j = zs.length := by omega
          have hlim : Lim (gsOf (zs ++ more :: (negs zs).take zs.length)).V := (HH.out zs.length (Nat.le_refl _)).lim (by omega)
          have ht : (negs zs).take zs.length = negs zs := List.take_of_length_le (by rw [negs_len]; exact Nat.le_refl _)
          rw [ht] at hG hlim
          have HS := Lib.hid (gsum_any wr p _ hG.out hlim)
          generalize sumOf (gsOf (zs ++ more :: negs zs)) = S at HS HFin
          clear hG hlim ht HH HAW
          rcases HFin.out with ⟨hn, hS⟩ | ⟨hn, hS1, hS2⟩
          · subst hS
            have hz : (FloatKind.f64.format.order more 0 == some Ordering.eq) = false := by
              show (Ieee.double.order more 0 == some Ordering.eq) = false
              rw [FP.ord_zero, hn]; rfl
            have had0 := fun t w => run_add_none (FP.add_nan_l (y := 0) hn) t w
            have HSm : Hid (∀ w u : World, Calls Try.prog 14 #[.float .f64 9221120237041090561, .float .f64 (nanOf more 0 u)] w fun e w'' => e = .returned (.bool true) ∧ w = w'') := fun w u => by
              have h := same_any 9221120237041090561 (nanOf more 0 u) w (by omega) (nanOf_spec _ _ _).1
              rwa [same_nan _ (nanOf_spec _ _ _).2] at h
            clear hn HFin
            go_wp2_with (first | (go_at_call 15; refine HS.out.mono ?_; rintro e w3 ⟨rfl, hb3⟩) | (go_at_call 14; refine (HSm.out _ _).mono ?_; rintro e w' ⟨rfl, rfl⟩) | (go_at_call 10; refine (awake_ok _).mono ?_; rintro e w4 ⟨rfl, hb4⟩))
            go_ret
            exact ⟨rfl, below_chain (below_chain (below_chain hB.out hb3) (show Below w3.heap.size w3 w3.drew from ⟨rfl, rfl, rfl, Nat.le_refl _, fun _ _ => rfl⟩)) hb4⟩
          · by_cases hk : FP.key more = 0
            · have hS := hS1 hk
              subst hS
              have hz : (FloatKind.f64.format.order more 0 == some Ordering.eq) = true := by
                show (Ieee.double.order more 0 == some Ordering.eq) = true
                rw [FP.ord_zero, hn, hk]; rfl
              have had0 := fun t w => run_add_some FP.add_zero_zero t w
              have HSm : Hid (∀ w' : World, Calls Try.prog 14 #[.float .f64 0, .float .f64 0] w' fun e w'' => e = .returned (.bool true) ∧ w' = w'') := fun w' => by
                have h := same_any 0 0 w' (by omega) (by omega)
                rwa [FP.sameB_refl] at h
              clear hn HFin hS1 hS2 hk
              go_wp2_with (first | (go_at_call 15; refine HS.out.mono ?_; rintro e w3 ⟨rfl, hb3⟩) | (go_at_call 14; refine (HSm.out _).mono ?_; rintro e w' ⟨rfl, rfl⟩) | (go_at_call 10; refine (awake_ok _).mono ?_; rintro e w4 ⟨rfl, hb4⟩))
              go_ret
              exact ⟨rfl, below_chain (below_chain hB.out hb3) hb4⟩
            · have hS := hS2 hk
              have hz : (FloatKind.f64.format.order more 0 == some Ordering.eq) = false := by
                show (Ieee.double.order more 0 == some Ordering.eq) = false
                rw [FP.ord_zero, hn]; simp [hk]
              have had0 := fun t w => run_add_some (FP.add_zero_r HM.out hn hk) t w
              have HSm : Hid (∀ w' : World, Calls Try.prog 14 #[.float .f64 S, .float .f64 more] w' fun e w'' => e = .returned (.bool true) ∧ w' = w'') := fun w' => by
                rw [hS]
                have h := same_any more more w' HM.out HM.out
                rwa [FP.sameB_refl] at h
              clear hn HFin hS1 hS2 hk hS
              go_wp2_with (first | (go_at_call 15; refine HS.out.mono ?_; rintro e w3 ⟨rfl, hb3⟩) | (go_at_call 14; refine (HSm.out _).mono ?_; rintro e w' ⟨rfl, rfl⟩) | (go_at_call 10; refine (awake_ok _).mono ?_; rintro e w4 ⟨rfl, hb4⟩))
              go_ret
              exact ⟨rfl, below_chain (below_chain hB.out hb3) hb4⟩
theorem walk (W : World) (a : Option Addr) (len cap : Nat) (zs : List Nat) (hI : IsF W a len cap zs) (hr : len * 8 ≤ 140737488351232) (more : Nat) (hm : more < 18446744073709551616) :
    Calls Try.prog 3 #[.slice a len cap, .float .f64 more] W fun e w' => e = .returned (.bool true) ∧ Below W.heap.size W w' := by
  by_cases h : len ≤ 100
  · exact walk_short W a len cap zs hI h more hm
  · exact walk_long W a len cap (by omega) (by omega) more

/-! The row's step. -/
theorem own : ownKnob Try.prog.godebug = none := by kernel_rfl
theorem laidOut : laidOutB Try.prog = true := by kernel_rfl
set_option linter.unusedVariables false
set_option maxRecDepth 100000 in
theorem lifted (os : Os) (started : os.Started) (H : Type) (enc : TypeId × Value → H) :
    ReturnsInHanded {} Try.checked os 3 .any (Rows.gaugeBackSpec.pre6 enc Try.prog Try.f3 Rows.gaugeBackRow.domain false) (Rows.gaugeBackSpec.post enc Try.prog Try.f3 false true false false) := by
  refine returnsInHanded_of_change_sized (C := Try.checked) own started (by kernel_rfl) Try.func3
    (ChangeSpec.witness6 (enc := enc) (C := Try.checked) false ⟨#[], #[.slice none 0 0, .float .f64 0], []⟩ 8 (by kernel_rfl) (by kernel_rfl) (by kernel_rfl) (by kernel_rfl)) ?_
  intro W base args ds gs before hval0 hW _ hsz0 _
  have hsz : (DataW.weightsEach Try.prog (Try.f3.params.toList ++ Rows.gaugeBackSpec.plain.varTypes Try.prog) (ds ++ gs)).all (· ≤ reachBytes) = true := hsz0
  clear hsz0
  have hval : ∀ (j : Nat) t v, Try.f3.params[j]? = some t → args[j]? = some v → Value.okWide Try.prog W .any base t v := hval0
  have hW' := hW
  obtain ⟨p, q, hA0, hV, rfl, hfz, hnd⟩ := hW
  have hA : DataW.TrodAll enc Try.prog W 0 (fun _ => true) true Try.f3.params.toList args.toList ds p := hA0
  rw [Try.params3] at hA hval hsz
  obtain ⟨v0, vs0, d0, ds0, p0, q0, hargs, rfl, rfl, h0, r0⟩ := trodAll_cons hA
  obtain ⟨v1, vs1, d1, ds1, p1, q1, rfl, rfl, rfl, h1, r1⟩ := trodAll_cons r0
  obtain ⟨rfl, rfl, rfl⟩ := trodAll_nil r1
  obtain rfl : args = #[v0, v1] := by cases args; simp_all
  obtain ⟨rfl, rfl⟩ := trodVars_none hV
  obtain ⟨a0, len0, cap0, rfl⟩ := okWide_slice Try.underlying22 (hval 0 22 v0 rfl rfl)
  have lt0 : ∀ x ∈ p0, x.block < W.heap.size := by obtain ⟨m, hm⟩ := h0; exact DataW.trod_lt m _ _ _ hm
  obtain ⟨⟨z0, w0⟩, hf0⟩ := open_f Try.underlying22 Try.underlying23 (by kernel_rfl) h0
  have rc0 := reach_slice hsz (j := 0) (e := 23) rfl rfl Try.underlying22 (k := 8) (by kernel_rfl) hf0
  clear hf0
  obtain ⟨a1, rfl, rfl, rfl, w1⟩ := open_float Try.underlying23 (hval 1 23 v1 rfl rfl) h1
  clear hA0 hval0
  refine (walk W a0 len0 cap0 z0 w0 rc0 a1 (float_lt w1)).mono fun e W' ⟨he, bel⟩ => ?_
  subst he
  exact ⟨_, rfl, _, _, _, [], _, [], hW', trodAll_mk1 (shut_bool Try.underlying4 _), (trodAll_cons_mk (Below.trod laidOut (by kernel_rfl) (of_decide_eq_true (by kernel_rfl)) h0 bel lt0) (trodAll_cons_mk (shut_float Try.underlying23 w1) trodAll_mk0)), rfl, bel.frame _, fun h => by cases h⟩

theorem over : Rows.gaugeBackRow.holds Try.pinned (OpenSpec.ofChange Rows.gaugeBackSpec) :=
  OpenClaim.holds_of_wide 3 Try.f3 rfl rfl rfl rfl rfl rfl rfl ⟨rfl, rfl, rfl, rfl, rfl⟩ rfl rfl rfl rfl rfl (by kernel_rfl) Try.func3 (by kernel_rfl)
    (of_decide_eq_true (by kernel_rfl)) (by unfold Func.isWrapper; first | (rw [if_pos (by decide +kernel)]; kernel_rfl) | (rw [if_neg (by decide +kernel)]; exact ⟨rfl, rfl⟩))
    (fun os started H enc _ => lifted os started H enc)

/-- THE STATEMENT. -/
theorem proved : Rows.GaugeBackSaid := over

#print axioms proved
end Go.Proofs.Ytdjilhahafkpfaa.gaugeBack
