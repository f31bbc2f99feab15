/- A gauge: Add of what is not finite. -/
import Derived.Test.YtdjilhahafkpfaaLp
namespace Go.Proofs.Ytdjilhahafkpfaa
open Go.RowKit Go.Deep
set_option maxRecDepth 100000
def addH (G : Gs) : Gs := ⟨G.V, G.c, G.o, G.h + 1, G.l, mnOf G 9218868437227405312, if G.c + (G.h + 1) + G.l = 1 ∨ FP.ltB G.mx 9218868437227405312 = true then 9218868437227405312 else G.mx⟩
def addL' (G : Gs) : Gs := ⟨G.V, G.c, G.o, G.h, G.l + 1, mnOf G 18442240474082181120, if G.c + G.h + (G.l + 1) = 1 ∨ FP.ltB G.mx 18442240474082181120 = true then 18442240474082181120 else G.mx⟩
def addN (G : Gs) : Gs := ⟨G.V, G.c, G.o + 1, G.h, G.l, G.mn, G.mx⟩
set_option maxHeartbeats 2000000 in
theorem add_high (w : World) (p : Nat) (G : Gs) (hG : GA w p G) (hO : GsOk G) :
    Calls Try.prog 13 #[.pointer (some ⟨p, 0, none⟩), .float .f64 9218868437227405312] w fun e w' => e = .returned (.tuple #[]) ∧ GA w' p (addH G) ∧ Fr (fun q => q = p) w w' := by
  obtain ⟨V, c, o, h, l, mn, mx⟩ := G
  obtain ⟨o1, o2, o3, o4, o5, o6⟩ := hO
  dsimp only at o1 o2 o3 o4 o5 o6
  have hx : 9218868437227405312 < 18446744073709551616 := by decide
  have H : Hid (GB w p (FP.limbsN 70 V) [.int .i64 c, .int .i64 o, .int .i64 h, .int .i64 l, .float .f64 mn, .float .f64 mx]) := hG
  have c70 := H.out.tail (i := 2) (by omega)
  have f70 := H.out.froz 72
  have H1 : Hid (GB (w.setCell ⟨p, 72, none⟩ (.int .i64 ((h : Int) + 1))) p (FP.limbsN 70 V) ([.int .i64 c, .int .i64 o, .int .i64 ((h : Int) + 1), .int .i64 l, .float .f64 mn, .float .f64 mx])) := H.out.tset (i := 2) (by omega) (.int .i64 ((h : Int) + 1))
  have hnn : FP.isNaN 9218868437227405312 = false := by decide +kernel
  have hne := nan_ne hnn
  have HI := Lib.hid fun s w => isInf_any 9218868437227405312 s hx w
  have hb1 : infB 9218868437227405312 1 = true := by decide +kernel
  have hb2 : infB 9218868437227405312 (-1) = false := by decide +kernel
  have HI1 := Lib.hid fun w => HI.out 1 w
  have HI2 := Lib.hid fun w => HI.out (-1) w
  rw [hb1] at HI1
  rw [hb2] at HI2
  clear HI
  have hMN : Hid (mnOf ⟨V, c, o, h, l, mn, mx⟩ 9218868437227405312 < 18446744073709551616 ∧ mnOf ⟨V, c, o, h, l, mn, mx⟩ 9218868437227405312 = FP.minF [mn, 9218868437227405312]) := ⟨FP.minF_lt (by intro n hn; simp at hn; rcases hn with rfl | rfl <;> assumption), rfl⟩
  have HAdd : Hid (addH ⟨V, c, o, h, l, mn, mx⟩ = ⟨V, c, o, h + 1, l, FP.minF [mn, 9218868437227405312], if c + (h + 1) + l = 1 ∨ FP.ltB mx 9218868437227405312 = true then 9218868437227405312 else mx⟩) := rfl
  have hMin : Hid (∀ (w : World) (b : Nat), w.cell? ⟨b, 0, none⟩ = some (.float .f64 mn) → w.cell? ⟨b, 1, none⟩ = some (.float .f64 9218868437227405312) → Calls Try.prog 28 #[.slice (some ⟨b, 0, none⟩) 2 2] w fun e w' => e = .returned (.float .f64 (FP.minF [mn, 9218868437227405312])) ∧ w = w') := fun w b h0 h1 =>
    min_row w b 0 2 [mn, 9218868437227405312] (by intro n hn; simp at hn; rcases hn with rfl | rfl <;> assumption) (fun i hi => by
      match i, hi with
      | 0, _ => exact h0
      | 1, _ => exact h1) (by unfold maxLen; omega) (by simp)
  have HLess := Lib.hid fun w => less_any mx 9218868437227405312 w o6 hx
  generalize FP.ltB mx 9218868437227405312 = lb at HLess HAdd
  obtain ⟨mm, hmm⟩ : ∃ mm, FP.minF [mn, 9218868437227405312] = mm := ⟨_, rfl⟩
  rw [hmm] at hMin HAdd
  clear hMN hb1 hb2 hnn hG hx o5 o6 hmm
  have hc0 : (0 : Int) ≤ (c : Int) := Int.natCast_nonneg _
  have hh0 : (0 : Int) ≤ (h : Int) := Int.natCast_nonneg _
  have hl0 : (0 : Int) ≤ (l : Int) := Int.natCast_nonneg _
  have c74 := H1.out.tail (i := 4) (by omega)
  have f74 := H1.out.froz 74
  go_enter Try.func13, Try.ntmps13
  go_wp2_with (first | (go_at_call 12; first | (with_reducible refine (HI1.out _).mono ?_; rintro e w' ⟨rfl, rfl⟩) | (with_reducible refine (HI2.out _).mono ?_; rintro e w' ⟨rfl, rfl⟩)) | (go_at_call 28; refine (hMin.out _ _ (by go_cell) (by go_cell)).mono ?_; rintro e w' ⟨rfl, rfl⟩; have h3 := Lib.hid (GB.below H1.out ((Below.refl _ _).alloc (Nat.le_refl _) (.cells #[.float .f64 mn, .float .f64 9218868437227405312] 23))); have c74a := h3.out.tail (i := 4) (by omega); have f74a := h3.out.froz 74))
  have h4 : Hid (GB (((w.setCell ⟨p, 72, none⟩ (.int .i64 ((h : Int) + 1))).alloc (.cells #[.float .f64 mn, .float .f64 9218868437227405312] 23)).setCell ⟨p, 74, none⟩ (.float .f64 mm)) p (FP.limbsN 70 V) [.int .i64 c, .int .i64 o, .int .i64 ((h : Int) + 1), .int .i64 l, .float .f64 mm, .float .f64 mx]) := h3.out.tset (i := 4) (by omega) (.float .f64 mm)
  have f20 : Hid (Fr (fun q => q = p) w (w.setCell ⟨p, 72, none⟩ (.int .i64 ((h : Int) + 1)))) := (Fr.refl (fun q => q = p) w).setCell (x := ⟨p, 72, none⟩) (Or.inl rfl) _
  have f4 : Hid (Fr (fun q => q = p) w (((w.setCell ⟨p, 72, none⟩ (.int .i64 ((h : Int) + 1))).alloc (.cells #[.float .f64 mn, .float .f64 9218868437227405312] 23)).setCell ⟨p, 74, none⟩ (.float .f64 mm))) := (f20.out.alloc _).setCell (x := ⟨p, 74, none⟩) (Or.inl rfl) _
  generalize ((w.setCell ⟨p, 72, none⟩ (.int .i64 ((h : Int) + 1))).alloc (.cells #[.float .f64 mn, .float .f64 9218868437227405312] 23)).setCell ⟨p, 74, none⟩ (.float .f64 mm) = w4 at h4 f4 ⊢
  have d70 := h4.out.tail (i := 0) (by omega)
  have d72 := h4.out.tail (i := 2) (by omega)
  have d73 := h4.out.tail (i := 3) (by omega)
  have d75 := h4.out.tail (i := 5) (by omega)
  have g75 := h4.out.froz 75
  clear c70 f70 f20 h3 c74a f74a c74 f74 H1
  by_cases hs : c + (h + 1) + l = 1
  · have hsi : ((c : Int) + ((h : Int) + 1) + (l : Int) == 1) = true := by rw [beq_iff_eq]; omega
    have hfin : Hid (∀ n, GA ((w4.drewN n).setCell ⟨p, 75, none⟩ (.float .f64 9218868437227405312)) p (addH ⟨V, c, o, h, l, mn, mx⟩)) := fun n => by
      rw [HAdd.out]
      have e : (if c + (h + 1) + l = 1 ∨ lb = true then 9218868437227405312 else mx) = 9218868437227405312 := if_pos (Or.inl hs)
      rw [e]
      exact (h4.out.below ⟨rfl, rfl, rfl, Nat.le_refl _, fun _ _ => rfl⟩ : GB (w4.drewN n) p _ _).tset (i := 5) (by omega) (.float .f64 9218868437227405312)
    clear hs
    go_quiet (fail)
    go_wp2
    go_end0
    exact ⟨rfl, hfin.out _, (f4.out.drewN _).setCell (x := ⟨p, 75, none⟩) (Or.inl rfl) _⟩
  · have hsi : ((c : Int) + ((h : Int) + 1) + (l : Int) == 1) = false := by rw [beq_eq_false_iff_ne]; omega
    cases lb with
    | true =>
      have hfin : Hid (∀ n, GA ((w4.drewN n).setCell ⟨p, 75, none⟩ (.float .f64 9218868437227405312)) p (addH ⟨V, c, o, h, l, mn, mx⟩)) := fun n => by
        rw [HAdd.out]
        have e : (if c + (h + 1) + l = 1 ∨ true = true then 9218868437227405312 else mx) = 9218868437227405312 := if_pos (Or.inr rfl)
        rw [e]
        exact (h4.out.below ⟨rfl, rfl, rfl, Nat.le_refl _, fun _ _ => rfl⟩ : GB (w4.drewN n) p _ _).tset (i := 5) (by omega) (.float .f64 9218868437227405312)
      clear hs
      go_quiet (first | (go_at_call 29; exact (HLess.out _).mono fun _ _ h => ⟨h.1, _, by first | exact h.2 | exact h.2.symm⟩))
      go_wp2
      go_end0
      exact ⟨rfl, hfin.out _, (f4.out.drewN _).setCell (x := ⟨p, 75, none⟩) (Or.inl rfl) _⟩
    | false =>
      have hfin : Hid (∀ n, GA (w4.drewN n) p (addH ⟨V, c, o, h, l, mn, mx⟩)) := fun n => by
        rw [HAdd.out]
        have e : (if c + (h + 1) + l = 1 ∨ false = true then 9218868437227405312 else mx) = mx := if_neg (by rintro (h | h); exact hs h; cases h)
        rw [e]
        exact h4.out.below ⟨rfl, rfl, rfl, Nat.le_refl _, fun _ _ => rfl⟩
      clear hs
      go_quiet (first | (go_at_call 29; exact (HLess.out _).mono fun _ _ h => ⟨h.1, _, by first | exact h.2 | exact h.2.symm⟩))
      go_wp2
      go_end0
      exact ⟨rfl, hfin.out _, f4.out.drewN _⟩
set_option maxHeartbeats 2000000 in
theorem add_low (w : World) (p : Nat) (G : Gs) (hG : GA w p G) (hO : GsOk G) :
    Calls Try.prog 13 #[.pointer (some ⟨p, 0, none⟩), .float .f64 18442240474082181120] w fun e w' => e = .returned (.tuple #[]) ∧ GA w' p (addL' G) ∧ Fr (fun q => q = p) w w' := by
  obtain ⟨V, c, o, h, l, mn, mx⟩ := G
  obtain ⟨o1, o2, o3, o4, o5, o6⟩ := hO
  dsimp only at o1 o2 o3 o4 o5 o6
  have hx : 18442240474082181120 < 18446744073709551616 := by decide
  have H : Hid (GB w p (FP.limbsN 70 V) [.int .i64 c, .int .i64 o, .int .i64 h, .int .i64 l, .float .f64 mn, .float .f64 mx]) := hG
  have c70 := H.out.tail (i := 3) (by omega)
  have f70 := H.out.froz 73
  have H1 : Hid (GB (w.setCell ⟨p, 73, none⟩ (.int .i64 ((l : Int) + 1))) p (FP.limbsN 70 V) ([.int .i64 c, .int .i64 o, .int .i64 h, .int .i64 ((l : Int) + 1), .float .f64 mn, .float .f64 mx])) := H.out.tset (i := 3) (by omega) (.int .i64 ((l : Int) + 1))
  have hnn : FP.isNaN 18442240474082181120 = false := by decide +kernel
  have hne := nan_ne hnn
  have HI := Lib.hid fun s w => isInf_any 18442240474082181120 s hx w
  have hb1 : infB 18442240474082181120 1 = false := by decide +kernel
  have hb2 : infB 18442240474082181120 (-1) = true := by decide +kernel
  have HI1 := Lib.hid fun w => HI.out 1 w
  have HI2 := Lib.hid fun w => HI.out (-1) w
  rw [hb1] at HI1
  rw [hb2] at HI2
  clear HI
  have hMN : Hid (mnOf ⟨V, c, o, h, l, mn, mx⟩ 18442240474082181120 < 18446744073709551616 ∧ mnOf ⟨V, c, o, h, l, mn, mx⟩ 18442240474082181120 = FP.minF [mn, 18442240474082181120]) := ⟨FP.minF_lt (by intro n hn; simp at hn; rcases hn with rfl | rfl <;> assumption), rfl⟩
  have HAdd : Hid (addL' ⟨V, c, o, h, l, mn, mx⟩ = ⟨V, c, o, h, l + 1, FP.minF [mn, 18442240474082181120], if c + h + (l + 1) = 1 ∨ FP.ltB mx 18442240474082181120 = true then 18442240474082181120 else mx⟩) := rfl
  have hMin : Hid (∀ (w : World) (b : Nat), w.cell? ⟨b, 0, none⟩ = some (.float .f64 mn) → w.cell? ⟨b, 1, none⟩ = some (.float .f64 18442240474082181120) → Calls Try.prog 28 #[.slice (some ⟨b, 0, none⟩) 2 2] w fun e w' => e = .returned (.float .f64 (FP.minF [mn, 18442240474082181120])) ∧ w = w') := fun w b h0 h1 =>
    min_row w b 0 2 [mn, 18442240474082181120] (by intro n hn; simp at hn; rcases hn with rfl | rfl <;> assumption) (fun i hi => by
      match i, hi with
      | 0, _ => exact h0
      | 1, _ => exact h1) (by unfold maxLen; omega) (by simp)
  have HLess := Lib.hid fun w => less_any mx 18442240474082181120 w o6 hx
  generalize FP.ltB mx 18442240474082181120 = lb at HLess HAdd
  obtain ⟨mm, hmm⟩ : ∃ mm, FP.minF [mn, 18442240474082181120] = mm := ⟨_, rfl⟩
  rw [hmm] at hMin HAdd
  clear hMN hb1 hb2 hnn hG hx o5 o6 hmm
  have hc0 : (0 : Int) ≤ (c : Int) := Int.natCast_nonneg _
  have hh0 : (0 : Int) ≤ (h : Int) := Int.natCast_nonneg _
  have hl0 : (0 : Int) ≤ (l : Int) := Int.natCast_nonneg _
  have c74 := H1.out.tail (i := 4) (by omega)
  have f74 := H1.out.froz 74
  go_enter Try.func13, Try.ntmps13
  go_wp2_with (first | (go_at_call 12; first | (with_reducible refine (HI1.out _).mono ?_; rintro e w' ⟨rfl, rfl⟩) | (with_reducible refine (HI2.out _).mono ?_; rintro e w' ⟨rfl, rfl⟩)) | (go_at_call 28; refine (hMin.out _ _ (by go_cell) (by go_cell)).mono ?_; rintro e w' ⟨rfl, rfl⟩; have h3 := Lib.hid (GB.below H1.out ((Below.refl _ _).alloc (Nat.le_refl _) (.cells #[.float .f64 mn, .float .f64 18442240474082181120] 23))); have c74a := h3.out.tail (i := 4) (by omega); have f74a := h3.out.froz 74))
  have h4 : Hid (GB (((w.setCell ⟨p, 73, none⟩ (.int .i64 ((l : Int) + 1))).alloc (.cells #[.float .f64 mn, .float .f64 18442240474082181120] 23)).setCell ⟨p, 74, none⟩ (.float .f64 mm)) p (FP.limbsN 70 V) [.int .i64 c, .int .i64 o, .int .i64 h, .int .i64 ((l : Int) + 1), .float .f64 mm, .float .f64 mx]) := h3.out.tset (i := 4) (by omega) (.float .f64 mm)
  have f20 : Hid (Fr (fun q => q = p) w (w.setCell ⟨p, 73, none⟩ (.int .i64 ((l : Int) + 1)))) := (Fr.refl (fun q => q = p) w).setCell (x := ⟨p, 73, none⟩) (Or.inl rfl) _
  have f4 : Hid (Fr (fun q => q = p) w (((w.setCell ⟨p, 73, none⟩ (.int .i64 ((l : Int) + 1))).alloc (.cells #[.float .f64 mn, .float .f64 18442240474082181120] 23)).setCell ⟨p, 74, none⟩ (.float .f64 mm))) := (f20.out.alloc _).setCell (x := ⟨p, 74, none⟩) (Or.inl rfl) _
  generalize ((w.setCell ⟨p, 73, none⟩ (.int .i64 ((l : Int) + 1))).alloc (.cells #[.float .f64 mn, .float .f64 18442240474082181120] 23)).setCell ⟨p, 74, none⟩ (.float .f64 mm) = w4 at h4 f4 ⊢
  have d70 := h4.out.tail (i := 0) (by omega)
  have d72 := h4.out.tail (i := 2) (by omega)
  have d73 := h4.out.tail (i := 3) (by omega)
  have d75 := h4.out.tail (i := 5) (by omega)
  have g75 := h4.out.froz 75
  clear c70 f70 f20 h3 c74a f74a c74 f74 H1
  by_cases hs : c + h + (l + 1) = 1
  · have hsi : ((c : Int) + (h : Int) + ((l : Int) + 1) == 1) = true := by rw [beq_iff_eq]; omega
    have hfin : Hid (∀ n, GA ((w4.drewN n).setCell ⟨p, 75, none⟩ (.float .f64 18442240474082181120)) p (addL' ⟨V, c, o, h, l, mn, mx⟩)) := fun n => by
      rw [HAdd.out]
      have e : (if c + h + (l + 1) = 1 ∨ lb = true then 18442240474082181120 else mx) = 18442240474082181120 := if_pos (Or.inl hs)
      rw [e]
      exact (h4.out.below ⟨rfl, rfl, rfl, Nat.le_refl _, fun _ _ => rfl⟩ : GB (w4.drewN n) p _ _).tset (i := 5) (by omega) (.float .f64 18442240474082181120)
    clear hs
    go_quiet (fail)
    go_wp2
    go_end0
    exact ⟨rfl, hfin.out _, (f4.out.drewN _).setCell (x := ⟨p, 75, none⟩) (Or.inl rfl) _⟩
  · have hsi : ((c : Int) + (h : Int) + ((l : Int) + 1) == 1) = false := by rw [beq_eq_false_iff_ne]; omega
    cases lb with
    | true =>
      have hfin : Hid (∀ n, GA ((w4.drewN n).setCell ⟨p, 75, none⟩ (.float .f64 18442240474082181120)) p (addL' ⟨V, c, o, h, l, mn, mx⟩)) := fun n => by
        rw [HAdd.out]
        have e : (if c + h + (l + 1) = 1 ∨ true = true then 18442240474082181120 else mx) = 18442240474082181120 := if_pos (Or.inr rfl)
        rw [e]
        exact (h4.out.below ⟨rfl, rfl, rfl, Nat.le_refl _, fun _ _ => rfl⟩ : GB (w4.drewN n) p _ _).tset (i := 5) (by omega) (.float .f64 18442240474082181120)
      clear hs
      go_quiet (first | (go_at_call 29; exact (HLess.out _).mono fun _ _ h => ⟨h.1, _, by first | exact h.2 | exact h.2.symm⟩))
      go_wp2
      go_end0
      exact ⟨rfl, hfin.out _, (f4.out.drewN _).setCell (x := ⟨p, 75, none⟩) (Or.inl rfl) _⟩
    | false =>
      have hfin : Hid (∀ n, GA (w4.drewN n) p (addL' ⟨V, c, o, h, l, mn, mx⟩)) := fun n => by
        rw [HAdd.out]
        have e : (if c + h + (l + 1) = 1 ∨ false = true then 18442240474082181120 else mx) = mx := if_neg (by rintro (h | h); exact hs h; cases h)
        rw [e]
        exact h4.out.below ⟨rfl, rfl, rfl, Nat.le_refl _, fun _ _ => rfl⟩
      clear hs
      go_quiet (first | (go_at_call 29; exact (HLess.out _).mono fun _ _ h => ⟨h.1, _, by first | exact h.2 | exact h.2.symm⟩))
      go_wp2
      go_end0
      exact ⟨rfl, hfin.out _, f4.out.drewN _⟩
theorem add_nan (w : World) (p : Nat) (G : Gs) (hG : GA w p G) (hO : GsOk G) (x : Nat) (hN : FP.isNaN x = true) :
    Calls Try.prog 13 #[.pointer (some ⟨p, 0, none⟩), .float .f64 x] w fun e w' => e = .returned (.tuple #[]) ∧ GA w' p (addN G) ∧ Fr (fun q => q = p) w w' := by
  obtain ⟨V, c, o, h, l, mn, mx⟩ := G
  obtain ⟨o1, o2, o3, o4, o5, o6⟩ := hO
  dsimp only at o2
  have H : Hid (GB w p (FP.limbsN 70 V) [.int .i64 c, .int .i64 o, .int .i64 h, .int .i64 l, .float .f64 mn, .float .f64 mx]) := hG
  have c71 := H.out.tail (i := 1) (by omega)
  have f71 := H.out.froz 71
  have H1 : Hid (GA (w.setCell ⟨p, 71, none⟩ (.int .i64 ((o : Int) + 1))) p (addN ⟨V, c, o, h, l, mn, mx⟩)) := H.out.tset (i := 1) (by omega) (.int .i64 ((o : Int) + 1))
  have hne := nan_ne hN
  have hc0 : (0 : Int) ≤ (o : Int) := Int.natCast_nonneg _
  clear hG hN o1 o3 o4 o5 o6
  go_enter Try.func13, Try.ntmps13
  go_wp2
  (try simp only [Exit.inBlock, Exit.then])
  refine bodyPost_ret (results_none rfl _ _ _) rfl ?_
  exact ⟨rfl, H1.out, (Fr.refl (fun q => q = p) w).setCell (x := ⟨p, 71, none⟩) (Or.inl rfl) _⟩
end Go.Proofs.Ytdjilhahafkpfaa
