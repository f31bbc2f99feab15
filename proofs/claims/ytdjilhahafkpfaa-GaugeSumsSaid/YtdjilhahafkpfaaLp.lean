/- A gauge: New, Add. -/
import Derived.Test.YtdjilhahafkpfaaLe
import Derived.Test.YtdjilhahafkpfaaMm
import Derived.Deep.WholeRow
namespace Go.Proofs.Ytdjilhahafkpfaa
open Go.RowKit Go.Deep
set_option maxRecDepth 100000
theorem GB.tset {w : World} {p : Nat} {L : List Int} {t : List Value} (h : GB w p L t) {i : Nat} (hi : i < 6) (v : Value) : GB (w.setCell ⟨p, 70 + i, none⟩ v) p L (t.set i v) := by
  refine ⟨?_, h.l, by rw [List.length_set]; exact h.n⟩
  have hb := h.b.set (70 + i) v
  have hl := h.l
  have e : (gcells L t).setIfInBounds (70 + i) v = gcells L (t.set i v) := by
    unfold gcells ints
    rw [List.setIfInBounds_toArray, List.set_append_right _ _ (by simp; omega)]
    congr 2
    simp [hl]
  rw [e] at hb; exact hb
/-- What a gauge holds: the sum, how many of each kind, the first and the last. -/
structure Gs where
  V : Int
  c : Nat
  o : Nat
  h : Nat
  l : Nat
  mn : Nat
  mx : Nat
def Gs.tl (G : Gs) : List Value := [.int .i64 G.c, .int .i64 G.o, .int .i64 G.h, .int .i64 G.l, .float .f64 G.mn, .float .f64 G.mx]
def GA (w : World) (p : Nat) (G : Gs) : Prop := GB w p (FP.limbsN 70 G.V) G.tl
def gs0 : Gs := ⟨0, 0, 0, 0, 0, 9221120237041090561, 9221120237041090561⟩
def zcells : Array Value := gcells (FP.limbsN 70 0) [.int .i64 0, .int .i64 0, .int .i64 0, .int .i64 0, .float .f64 0, .float .f64 0]
theorem zero_gauge : (Try.prog.info? 46).map (fun i => (i.zero, i.size)) = some (some (.agg zcells), 76) := by kernel_rfl
theorem ztop : (zcells.setIfInBounds 74 (.float .f64 9221120237041090561)).setIfInBounds 75 (.float .f64 9221120237041090561) = gcells (FP.limbsN 70 0) gs0.tl := by rfl
theorem zsize : zcells.size = 76 := by rfl
theorem gnew (w : World) : Calls Try.prog 11 #[] w fun e w' => e = .returned (.pointer (some ⟨w.heap.size, 0, none⟩)) ∧ GA w' w.heap.size gs0 ∧ Below w.heap.size w w' := by
  have hz := fun w => (zero_of_info (P := Try.prog) zero_gauge).1 w
  have hzs := zsize
  have HT := Lib.hid ztop
  generalize zcells = Z at hz hzs HT
  go_enter Try.func11, Try.ntmps11
  go_wp2_with (go_at_call 25; refine (nan_any _).mono ?_; rintro e w' ⟨rfl, rfl⟩)
  go_ret
  refine ⟨rfl, ⟨?_, rfl, rfl⟩, (Below.refl _ _).alloc (Nat.le_refl _) _⟩
  show Blk _ _ _ (gcells (FP.limbsN 70 0) gs0.tl)
  rw [← HT.out]
  exact heap_alloc_new w _
/-- What Add makes of it. -/
def mnOf (G : Gs) (x : Nat) : Nat := FP.minF [G.mn, x]
def addF (G : Gs) (x : Nat) : Gs := ⟨G.V + FP.num x, G.c + 1, G.o, G.h, G.l, mnOf G x, if G.c + 1 + G.h + G.l = 1 ∨ FP.ltB G.mx x = true then x else G.mx⟩
structure GsOk (G : Gs) : Prop where
  c : G.c ≤ 1000000
  o : G.o ≤ 1000000
  h : G.h ≤ 1000000
  l : G.l ≤ 1000000
  mn : G.mn < 18446744073709551616
  mx : G.mx < 18446744073709551616
theorem infB_fin {x : Nat} (hf : FP.rung x < 9218868437227405312) (s : Int) : infB x s = false := by
  have h : FP.isInf x = false := by unfold FP.isInf; simp; omega
  unfold infB
  rw [h]; simp
set_option maxHeartbeats 2000000 in
theorem add_fin (w : World) (p : Nat) (G : Gs) (hG : GA w p G) (hO : GsOk G) (hV : Lim G.V) (x : Nat) (hx : x < 18446744073709551616) (hf : FP.rung x < 9218868437227405312) :
    Calls Try.prog 13 #[.pointer (some ⟨p, 0, none⟩), .float .f64 x] w fun e w' => e = .returned (.tuple #[]) ∧ GA w' p (addF G x) ∧ Fr (fun q => q = p) w w' := by
  obtain ⟨V, c, o, h, l, mn, mx⟩ := G
  obtain ⟨o1, o2, o3, o4, o5, o6⟩ := hO
  dsimp only at o1 o2 o3 o4 o5 o6 hV
  have H : Hid (GB w p (FP.limbsN 70 V) [.int .i64 c, .int .i64 o, .int .i64 h, .int .i64 l, .float .f64 mn, .float .f64 mx]) := hG
  have c70 := H.out.tail (i := 0) (by omega)
  have f70 := H.out.froz 70
  have H1 := Lib.hid (H.out.tset (i := 0) (by omega) (.int .i64 ((c : Int) + 1)))
  have HV := Lib.hid hV
  have HX := Lib.hid hx
  have HF := Lib.hid hf
  have hnn : FP.isNaN x = false := by unfold FP.isNaN; simp; omega
  have hne := nan_ne hnn
  have HI := Lib.hid fun s w => isInf_any x s hx w
  have hib : ∀ s, infB x s = false := fun s => infB_fin hf s
  simp only [hib] at HI
  have hMN : Hid (mnOf ⟨V, c, o, h, l, mn, mx⟩ x < 18446744073709551616 ∧ mnOf ⟨V, c, o, h, l, mn, mx⟩ x = FP.minF [mn, x]) := ⟨FP.minF_lt (by intro n hn; simp at hn; rcases hn with rfl | rfl <;> assumption), rfl⟩
  have HAdd : Hid (addF ⟨V, c, o, h, l, mn, mx⟩ x = ⟨V + FP.num x, c + 1, o, h, l, FP.minF [mn, x], if c + 1 + h + l = 1 ∨ FP.ltB mx x = true then x else mx⟩) := rfl
  have hMin : Hid (∀ (w : World) (b : Nat), w.cell? ⟨b, 0, none⟩ = some (.float .f64 mn) → w.cell? ⟨b, 1, none⟩ = some (.float .f64 x) → Calls Try.prog 28 #[.slice (some ⟨b, 0, none⟩) 2 2] w fun e w' => e = .returned (.float .f64 (FP.minF [mn, x])) ∧ w = w') := fun w b h0 h1 =>
    min_row w b 0 2 [mn, x] (by intro n hn; simp at hn; rcases hn with rfl | rfl <;> assumption) (fun i hi => by
      match i, hi with
      | 0, _ => exact h0
      | 1, _ => exact h1) (by unfold maxLen; omega) (by simp)
  have HLess := Lib.hid fun w => less_any mx x w o6 hx
  generalize FP.ltB mx x = lb at HLess HAdd
  obtain ⟨mm, hmm⟩ : ∃ mm, FP.minF [mn, x] = mm := ⟨_, rfl⟩
  rw [hmm] at hMin HAdd
  clear hMN hib hnn hG hV hx hf o5 o6 hmm
  have hc0 : (0 : Int) ≤ (c : Int) := Int.natCast_nonneg _
  have hh0 : (0 : Int) ≤ (h : Int) := Int.natCast_nonneg _
  have hl0 : (0 : Int) ≤ (l : Int) := Int.natCast_nonneg _
  go_enter Try.func13, Try.ntmps13
  go_wp2_with (first | (go_at_call 12; refine (HI.out _ _).mono ?_; rintro e w' ⟨rfl, rfl⟩) | (go_at_call 27; refine (lay_any _ p V _ H1.out HV.out x HX.out HF.out).mono ?_; rintro e w2 ⟨rfl, h2, f2⟩; replace h2 := Lib.hid h2; replace f2 := Lib.hid f2; have c74 := h2.out.tail (i := 4) (by omega); have f74 := h2.out.froz 74) | (go_at_call 28; refine (hMin.out _ _ (World.cell?_alloc_new _ _ _ 0) (World.cell?_alloc_new _ _ _ 1)).mono ?_; rintro e w' ⟨rfl, rfl⟩; have h3 := Lib.hid (GB.below h2.out ((Below.refl _ _).alloc (Nat.le_refl _) (.cells #[.float .f64 mn, .float .f64 x] 23))); have c74a := h3.out.tail (i := 4) (by omega); have f74a := h3.out.froz 74; clear c74 f74))
  have h4 : Hid (GB ((w2.alloc (.cells #[.float .f64 mn, .float .f64 x] 23)).setCell ⟨p, 74, none⟩ (.float .f64 mm)) p (FP.limbsN 70 (V + FP.num x)) [.int .i64 ((c : Int) + 1), .int .i64 o, .int .i64 h, .int .i64 l, .float .f64 mm, .float .f64 mx]) := h3.out.tset (i := 4) (by omega) (.float .f64 mm)
  have f20 : Hid (Fr (fun q => q = p) w w2) := ((Fr.refl (fun q => q = p) w).setCell (x := ⟨p, 70 + 0, none⟩) (Or.inl rfl) _).trans f2.out
  have f4 : Hid (Fr (fun q => q = p) w ((w2.alloc (.cells #[.float .f64 mn, .float .f64 x] 23)).setCell ⟨p, 74, none⟩ (.float .f64 mm))) := (f20.out.alloc _).setCell (x := ⟨p, 74, none⟩) (Or.inl rfl) _
  generalize (w2.alloc (.cells #[.float .f64 mn, .float .f64 x] 23)).setCell ⟨p, 74, none⟩ (.float .f64 mm) = w4 at h4 f4 ⊢
  have d70 := h4.out.tail (i := 0) (by omega)
  have d72 := h4.out.tail (i := 2) (by omega)
  have d73 := h4.out.tail (i := 3) (by omega)
  have d75 := h4.out.tail (i := 5) (by omega)
  have g75 := h4.out.froz 75
  clear c70 f70 h2 f2 f20 h3 c74a f74a
  by_cases hs : c + 1 + h + l = 1
  · have hsi : ((c : Int) + 1 + (h : Int) + (l : Int) == 1) = true := by rw [beq_iff_eq]; omega
    have hfin : Hid (∀ n, GA ((w4.drewN n).setCell ⟨p, 75, none⟩ (.float .f64 x)) p (addF ⟨V, c, o, h, l, mn, mx⟩ x)) := fun n => by
      rw [HAdd.out]
      have e : (if c + 1 + h + l = 1 ∨ lb = true then x else mx) = x := if_pos (Or.inl hs)
      rw [e]
      exact (h4.out.below ⟨rfl, rfl, rfl, Nat.le_refl _, fun _ _ => rfl⟩ : GB (w4.drewN n) p _ _).tset (i := 5) (by omega) (.float .f64 x)
    clear hs
    go_quiet (fail)
    go_wp2
    go_end0
    exact ⟨rfl, hfin.out _, (f4.out.drewN _).setCell (x := ⟨p, 75, none⟩) (Or.inl rfl) _⟩
  · have hsi : ((c : Int) + 1 + (h : Int) + (l : Int) == 1) = false := by rw [beq_eq_false_iff_ne]; omega
    cases lb with
    | true =>
      have hfin : Hid (∀ n, GA ((w4.drewN n).setCell ⟨p, 75, none⟩ (.float .f64 x)) p (addF ⟨V, c, o, h, l, mn, mx⟩ x)) := fun n => by
        rw [HAdd.out]
        have e : (if c + 1 + h + l = 1 ∨ true = true then x else mx) = x := if_pos (Or.inr rfl)
        rw [e]
        exact (h4.out.below ⟨rfl, rfl, rfl, Nat.le_refl _, fun _ _ => rfl⟩ : GB (w4.drewN n) p _ _).tset (i := 5) (by omega) (.float .f64 x)
      clear hs
      go_quiet (first | (go_at_call 29; exact (HLess.out _).mono fun _ _ h => ⟨h.1, _, by first | exact h.2 | exact h.2.symm⟩))
      go_wp2
      go_end0
      exact ⟨rfl, hfin.out _, (f4.out.drewN _).setCell (x := ⟨p, 75, none⟩) (Or.inl rfl) _⟩
    | false =>
      have hfin : Hid (∀ n, GA (w4.drewN n) p (addF ⟨V, c, o, h, l, mn, mx⟩ x)) := fun n => by
        rw [HAdd.out]
        have e : (if c + 1 + h + l = 1 ∨ false = true then x else mx) = mx := if_neg (by rintro (h | h); exact hs h; cases h)
        rw [e]
        exact h4.out.below ⟨rfl, rfl, rfl, Nat.le_refl _, fun _ _ => rfl⟩
      clear hs
      go_quiet (first | (go_at_call 29; exact (HLess.out _).mono fun _ _ h => ⟨h.1, _, by first | exact h.2 | exact h.2.symm⟩))
      go_wp2
      go_end0
      exact ⟨rfl, hfin.out _, f4.out.drewN _⟩
end Go.Proofs.Ytdjilhahafkpfaa
