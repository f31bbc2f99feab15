/- Rows of tasks: Wake. -/
import Derived.Test.YtpfdfbmoegajbaaGe
import Derived.Test.YtpfdfbmoegajbaaMm
namespace Go.Proofs.Ytpfdfbmoegajbaa
open Go.RowKit Go.Deep
set_option maxRecDepth 100000
theorem infoFloatG : (Try.prog.info? 22).map (fun i => (i.zero, i.size, i.bytes)) = some (some (.float .f64 0), 1, 8) := by kernel_rfl
def passOf (T : List Tk) (x : Int) : Nat := (T.getD x.toNat tk0).2.2
def passes (T : List Tk) (L : List Int) : List Nat := L.map (passOf T)
def fls (L : List Nat) : List Value := L.map (.float .f64)
theorem passes_snoc (T : List Tk) {A : List Int} {i : Nat} (h : i < A.length) : passes T (A.take (i + 1)) = passes T (A.take i) ++ [passOf T (A.getD i 0)] := by
  rw [take_snocI h]; unfold passes; rw [List.map_append]; rfl
theorem RowAt.passOf_lt {w : World} {p g cap : Nat} {T : List Tk} (h : RowAt w p g cap T) (x : Int) : passOf T x < 18446744073709551616 := by
  unfold passOf
  by_cases hx : x.toNat < T.length
  · exact (h.wfD hx).2
  · rw [List.getD_eq_getElem?_getD, List.getElem?_eq_none (by omega)]; decide
theorem RowAt.passes_lt {w : World} {p g cap : Nat} {T : List Tk} (h : RowAt w p g cap T) (L : List Int) : ∀ n ∈ passes T L, n < 18446744073709551616 := fun n hn => by
  obtain ⟨x, -, rfl⟩ := List.mem_map.1 hn; exact h.passOf_lt x
/-- The tasks when task i has been woken. -/
def wakeT (T : List Tk) (i s : Nat) : List Tk := T.set i (true, (T.getD i tk0).2.1, if awk T T.length = [] then (T.getD i tk0).2.2 else FP.clampB (T.getD i tk0).2.2 (FP.minF (passes T (awk T T.length))) s)
theorem getD_set_self {T : List Tk} {i : Nat} (h : i < T.length) (t : Tk) : (T.set i t).getD i tk0 = t := by
  rw [List.getD_eq_getElem?_getD, List.getElem?_set_self h]; rfl
theorem passes_get {T : List Tk} {A : List Int} {k : Nat} (h : k < A.length) : (passes T A).getD k 0 = passOf T (A.getD k 0) := by
  unfold passes; simp [List.getD, h]
theorem wake_out (w : World) (p g cap : Nat) (T : List Tk) (h : RowAt w p g cap T) (i : Int) (hi : i < 0 ∨ (T.length : Int) ≤ i) : Calls Try.prog 12 #[.pointer (some ⟨p, 0, none⟩), .int .i64 i] w fun e w' => e = .returned (.int .i64 1) ∧ w = w' := by
  have HF := Lib.hid (find_out w p g cap T h i hi)
  go_enter Try.func12, Try.ntmps12
  go_wp2_with (go_at_call 24; refine HF.out.mono ?_; rintro e w' ⟨rfl, rfl⟩)
  go_ret
  exact ⟨rfl, rfl⟩
theorem wake_on (w : World) (p g cap : Nat) (T : List Tk) (h : RowAt w p g cap T) (i : Nat) (hi : i < T.length) (ha : (T.getD i tk0).1 = true) : Calls Try.prog 12 #[.pointer (some ⟨p, 0, none⟩), .int .i64 i] w fun e w' => e = .returned (.int .i64 0) ∧ w = w' := by
  have HF := Lib.hid (find_in w p g cap T h i hi)
  have c2 := (h.task hi).1
  rw [ha] at c2
  clear ha
  go_enter Try.func12, Try.ntmps12
  go_wp2_with (go_at_call 24; refine HF.out.mono ?_; rintro e w' ⟨rfl, rfl⟩)
  go_ret
  exact ⟨rfl, rfl⟩
set_option maxHeartbeats 2000000 in
theorem wake_in (w : World) (p g cap : Nat) (T : List Tk) (h : RowAt w p g cap T) (i : Nat) (hi : i < T.length) (ha : (T.getD i tk0).1 = false) (s : Nat) (hsl : s < 18446744073709551616)
    (hs : awk T T.length ≠ [] → floatBits .add .f64 (FP.minF (passes T (awk T T.length))) 4652218415073722368 = some s) :
    Calls Try.prog 12 #[.pointer (some ⟨p, 0, none⟩), .int .i64 i] w fun e w' => e = .returned (.int .i64 0) ∧ RowAt w' p g cap (wakeT T i s) ∧ Fr (fun q => q = g) w w' := by
  have H := Lib.hid h
  have HFI := Lib.hid (find_in w p g cap T h i hi)
  have c0 := h.c0
  have h8 := h.n8
  have hcap := h.hc
  have hmx := h.hm
  obtain ⟨hc1, hc2, hc3⟩ := h.task hi
  rw [ha] at hc1
  have hgl : g < w.heap.size := World.block_lt_of_cell? w _ hc1
  have HWF := Lib.hid (h.wfD hi)
  have HT : Hid (∀ z : Nat, wakeT T i s = T.set i (true, (T.getD i tk0).2.1, z) ∨ ¬ z = (if awk T T.length = [] then (T.getD i tk0).2.2 else FP.clampB (T.getD i tk0).2.2 (FP.minF (passes T (awk T T.length))) s)) := fun z => by
    by_cases hz : z = (if awk T T.length = [] then (T.getD i tk0).2.2 else FP.clampB (T.getD i tk0).2.2 (FP.minF (passes T (awk T T.length))) s)
    · left; rw [hz]; rfl
    · exact Or.inr hz
  have HFS := Lib.hid hs
  clear hs ha
  have HPL := Lib.hid (h.passes_lt (awk T T.length))
  have hal := awk_le T T.length
  have HM := Lib.hid fun (x : Int) (hx : x ∈ awk T T.length) => awk_mem hx
  have HAW := Lib.hid (awake_row w p g cap T h)
  generalize wakeT T i s = WT at HT ⊢
  generalize awk T T.length = A at hal HM HAW HFS HT HPL
  obtain ⟨i0, hif, hz0, hz1, hz2⟩ := info_parts infoFloatG
  clear h
  unfold maxLen at hmx
  go_enter Try.func12, Try.ntmps12
  go_wp2_with (first | (go_at_call 24; refine HFI.out.mono ?_; rintro e w' ⟨rfl, rfl⟩) | (go_at_call 17; refine HAW.out.mono ?_; rintro e w2 ⟨v, rfl, hown, hB⟩; obtain ⟨va, vc, rfl⟩ := own_shape' hown))
  have HC : Hid (∀ k : Nat, k < A.length → ∃ g2 : Nat, va = some ⟨g2, 0, none⟩ ∧ w.heap.size ≤ g2 ∧ g2 < w2.heap.size ∧ w2.cell? ⟨g2, k, none⟩ = some (.int .i64 (A.getD k 0)) ∧ A.length ≤ vc ∧ vc ≤ maxLen) := fun k hk => by
    obtain ⟨g2, cap2, e, hg1, hg2, hg3, hg4, hg5⟩ := own_cellsI hown (by omega)
    cases e
    exact ⟨g2, rfl, hg1, hg4, hg5 k (.int .i64 (A.getD k 0)) (by simp [ints, List.getD, hk]), hg2, hg3⟩
  have H2 := Lib.hid (H.out.below hB)
  have HBl := Lib.hid hB
  clear hown c0 hc1 hc2 hc3 hB
  go_loopw [7, 29] (fun u t wr => ∃ k : Nat, t = .int .i64 k ∧ k ≤ A.length ∧ wr.ownsRow w2.heap.size 22 1 u k (fls (passes T (A.take k))) ∧ Below w2.heap.size w2 wr) (fun _ t _ => A.length - (intOf t).toNat)
  case atStart => exact ⟨0, rfl, Nat.zero_le _, ⟨rfl, Or.inl ⟨rfl, rfl⟩⟩, Below.refl _ _⟩
  case round =>
    obtain ⟨k, rfl, j1, hownF, hBF⟩ := hrel
    have hk0 : (0 : Int) ≤ (k : Int) := Int.natCast_nonneg _
    have HR := Lib.hid (H2.out.below hBF)
    have d0 := HR.out.c0
    by_cases hlt : k < A.length
    · have hlt' : (k : Int) < (A.length : Int) := by omega
      obtain ⟨g2, rfl, hg1, hg2, hcx, hcc, hcm⟩ := HC.out k hlt
      rw [← hBF.cell (p := ⟨g2, k, none⟩) hg2] at hcx
      obtain ⟨xi, hxi, hxl, -⟩ := HM.out (A.getD k 0) (by rw [List.getD_eq_getElem?_getD, List.getElem?_eq_getElem hlt]; exact List.getElem_mem hlt)
      have HS := Lib.hid (passes_snoc T hlt)
      rw [hxi] at hcx HS
      clear hxi
      have hx0 : (0 : Int) ≤ (xi : Int) := Int.natCast_nonneg _
      have hxl' : (xi : Int) < (T.length : Int) := by omega
      have px := (HR.out.task hxl).2.2
      have HPX : Hid (passOf T (xi : Int) = (T.getD xi tk0).2.2) := rfl
      rw [HPX.out] at HS
      clear HPX
      generalize (T.getD xi tk0).2.2 = fx at px HS
      obtain ⟨ua, uc, rfl⟩ := own_shape' hownF
      have Hr : Hid (∀ q, (Value.slice ua k uc).ownBlock = some q → w2.heap.size ≤ q) := fun q hq => own_baseB hownF hq
      have hBs := hBF.size
      unfold maxLen at hcm
      go_wp2_with (at_builtin; go_must (refine wpList_append_own _ rfl _ _ 65 rfl w2.heap.size 22 i0 (.float .f64 0) 1 8 Try.underlying65 hif hz0 hz1 hz2 rfl (by decide) _ _ _ rfl (hownF.alloc _) ⟨_, 0, none⟩ 1 1 [.float .f64 fx] rfl rfl (World.news_of_block (cs := #[.float .f64 fx]) (t := 22) (fr := (0, 0)) (heap_alloc_new' _ _ _ (by simp))) (by simp [Value.oneCell']) (by unfold maxLen; omega) (by omega) (by simp; omega) ?_); intro v4 w4 hown4 hgrow4 hnil4)
      have hB4 := (hBF.alloc hBF.size _).grown hgrow4 (by simp; omega) Hr.out
      go_roundw
      case rel => exact ⟨k + 1, by go_num, by omega, by rw [HS.out]; unfold fls; rw [List.map_append]; exact hown4, hB4⟩
      case measure => simp only [intOf]; omega
    · obtain rfl : k = A.length := by omega
      have hBA : Hid (Below w.heap.size w wr) := below_chain HBl.out hBF
      have HPs : Hid (fls (passes T (A.take A.length)) = fls (passes T A)) := by unfold Hid; rw [List.take_length]
      rw [HPs.out] at hownF
      clear HPs
      obtain ⟨e1, e2, e3⟩ := HR.out.task hi
      have f1 := HR.out.froz (i * 3)
      have f2 := HR.out.froz (i * 3 + 2)
      by_cases hA0 : A = []
      · subst hA0
        obtain ⟨ua, uc, rfl⟩ := own_shape' hownF
        have HTe : Hid (WT = T.set i (true, (T.getD i tk0).2)) := by
          rcases HT.out ((T.getD i tk0).2.2) with h | h
          · exact h
          · exact absurd rfl h
        have HRA := Lib.hid (HR.out.awake hi true)
        rw [← HTe.out] at HRA
        clear HTe HT HFS HC HM HAW
        generalize (T.getD i tk0).1 = y1 at e1
        generalize (T.getD i tk0).2.2 = y3 at e3
        clear e3 hownF
        go_wp2
        go_ret
        exact ⟨rfl, HRA.out, (Fr.of_below (S := fun q => q = g) hBA.out).setCell (Or.inl rfl) _⟩
      · have hapos : 0 < A.length := by
          cases A with
          | nil => exact absurd rfl hA0
          | cons _ _ => simp
        obtain ⟨gf, cf, e, hgf1, hgf2, hgf3, hgf4⟩ := own_cells hownF hapos
        subst e
        have HTe : Hid (WT = T.set i (true, (T.getD i tk0).2.1, FP.clampB (T.getD i tk0).2.2 (FP.minF (passes T A)) s)) := by
          rcases HT.out (FP.clampB (T.getD i tk0).2.2 (FP.minF (passes T A)) s) with h | h
          · exact h
          · exact absurd (if_neg hA0).symm h
        have hpl : (passes T A).length = A.length := by simp [passes]
        have HMN := Lib.hid (min_row wr gf 0 cf (passes T A) HPL.out (fun j hj => hgf4 j _ (float_ne _ hj)) hgf3 (by omega))
        have hm0 : FP.minF (passes T A) < 18446744073709551616 := FP.minF_lt HPL.out
        have hfs := fun t w' => run_fadd (HFS.out hA0) t w'
        have HRA := Lib.hid ((HR.out.pass hi (FP.clampB (T.getD i tk0).2.2 (FP.minF (passes T A)) s) (FP.clampB_lt HWF.out.2 hm0 hsl)).awake (i := i) (by simpa using hi) true)
        rw [getD_set_self hi, List.set_set, ← HTe.out] at HRA
        have hwy := HWF.out.2
        clear HTe HT HFS HC HM HAW HWF
        rw [hpl] at HMN
        generalize (T.getD i tk0).1 = y1 at e1
        generalize (T.getD i tk0).2.2 = y3 at e3 HRA hwy
        generalize FP.minF (passes T A) = mn at HMN hfs HRA hm0
        have HCL := Lib.hid fun w' => clamp_any y3 mn s hwy hm0 hsl w'
        generalize FP.clampB y3 mn s = z at HCL HRA
        have hw1 := Lib.hid hwy
        clear hgf4 hownF hpl hwy hm0
        have hap' : (0 : Int) < (A.length : Int) := by omega
        go_wp2_with (first | (go_at_call 26; refine HMN.out.mono ?_; rintro e w' ⟨rfl, rfl⟩) | (go_at_call 25; refine (HCL.out _).mono ?_; rintro e w' ⟨rfl, rfl⟩))
        go_ret
        exact ⟨rfl, HRA.out, ((Fr.of_below (S := fun q => q = g) hBA.out).setCell (Or.inl rfl) _).setCell (Or.inl rfl) _⟩
end Go.Proofs.Ytpfdfbmoegajbaa
