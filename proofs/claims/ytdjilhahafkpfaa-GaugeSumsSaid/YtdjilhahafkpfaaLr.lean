/- A gauge: Sum. -/
import Derived.Test.YtdjilhahafkpfaaLq
import Derived.Test.YtdjilhahafkpfaaLn
namespace Go.Proofs.Ytdjilhahafkpfaa
open Go.RowKit Go.Deep
set_option maxRecDepth 100000
theorem wpl_zero {ops : Array Oper} {rest : List Oper} {op : Oper} {a : Go.Act} {w : World} {Q : Exit → Go.Act → World → Prop} (Z : Array Value) (hZ : Z.size = 76) (h1 : Z.all (·.oneCell') = true) (x y : Operand) (ho : op.op = .store 46 x y) (hw : Region.wanted op (yielded ops a.tmps) = true)
    (hx : a.eval x = .pointer (some ⟨w.heap.size, 0, none⟩)) (hy : a.eval y = .agg Z)
    (h : wpList Try.prog ops Q rest (a.put op.dst undef) (w.alloc (.cells Z 46))) : wpList Try.prog ops Q (op :: rest) a (w.alloc (.cells Z 46)) := by
  have hi : (Try.prog.info? 46).map (·.size) = some Z.size := by rw [hZ]; exact (zero_of_info (P := Try.prog) zero_gauge).2
  unfold wpList
  rw [if_pos hw]
  refine Or.inl ?_
  unfold Oper.wp execOp
  simp only [ho, hx, hy, run_storeAt_new (P := Try.prog) w 46 Z Z hi rfl h1, Sem.run_bind, Sem.run_pure, Result.andThen_ok]
  exact h
theorem GB.range {w : World} {p : Nat} {L : List Int} {t : List Value} (h : GB w p L t) : w.rangeAt p 0 (ints L) := fun j v hv => by
  rw [Nat.zero_add, h.b.cell]
  unfold gcells
  have hj : j < (ints L).length := (List.getElem?_eq_some_iff.1 hv).1
  rw [List.getElem?_toArray, List.getElem?_append_left hj]; exact hv
theorem worth_neg : ∀ L : List Int, FP.worth (L.map fun x => -x) = -FP.worth L
  | [] => rfl
  | x :: L => by simp only [List.map_cons, FP.worth, worth_neg L]; rw [Int.mul_neg]; omega
theorem neg_of {M L : List Int} (hM : M.length = 70) (hL : L.length = 70) (h : ∀ j, j < 70 → M.getD j 0 = -(L.getD j 0)) : FP.worth M = -FP.worth L := by
  have : M = L.map fun x => -x := by
    apply List.ext_getElem
    · simp [hM, hL]
    · intro j h1 h2
      have := h j (by omega)
      simp only [List.getD_eq_getElem?_getD] at this
      rw [List.getElem?_eq_getElem h1, List.getElem?_eq_getElem (by omega)] at this
      simpa using this
  rw [this, worth_neg]
/-- What Sum answers. -/
def sumOf (G : Gs) : Nat :=
  if 0 < G.o ∨ (0 < G.h ∧ 0 < G.l) then 9221120237041090561 else if 0 < G.h then 9218868437227405312 else if 0 < G.l then 18442240474082181120
  else if 0 ≤ G.V then FP.rd G.V.toNat 0 else negB (FP.rd (-G.V).toNat 0)
theorem lim_nat {V : Nat} (h : V < 4294967296 ^ 69) : Hid (V < 4294967296 ^ 70) := Nat.lt_of_lt_of_le h (Nat.pow_le_pow_right (by omega) (by omega))
theorem lim_of {V : Int} (h : Lim V) {n : Nat} (hn : V = n ∨ V = -(n : Int)) : Hid (n < 4294967296 ^ 70 ) ∨ n = 4294967296 ^ 69 := by
  unfold Lim at h
  have e : ((4294967296 : Int) ^ 69) = ((4294967296 ^ 69 : Nat) : Int) := by rw [Int.natCast_pow]; rfl
  rw [e] at h
  generalize hB : (4294967296 : Nat) ^ 69 = B at h
  by_cases hb : n < B
  · left; rw [← hB] at hb; exact lim_nat hb
  · right
    rcases hn with rfl | rfl <;> omega
theorem lim_hid {V : Int} (h : Lim V) {n : Nat} (hn : V = n ∨ V = -(n : Int)) : Hid (n < 4294967296 ^ 70) := by
  rcases lim_of h hn with h | h
  · exact h
  · rw [h]; exact Nat.pow_lt_pow_right (by omega) (by omega)
theorem index_arr (arr : Array Value) (i : Nat) (hi : i < 70) (x : Int) (h : arr[i]? = some (.int .i64 x)) (w : World) : (Instr.index 44 (.agg arr) (.int .i64 i)).run Try.prog w = .ok (.int .i64 x) w := by
  simp [Instr.index, run_underlying (P := Try.prog) Try.underlying44, asIntOf, go_sem, hi, h]
set_option maxHeartbeats 2000000 in
theorem gsum_any (w : World) (p : Nat) (G : Gs) (hG : GA w p G) (hV : Lim G.V) :
    Calls Try.prog 15 #[.pointer (some ⟨p, 0, none⟩)] w fun e w' => e = .returned (.float .f64 (sumOf G)) ∧ Below w.heap.size w w' := by
  obtain ⟨V, c, o, h, l, mn, mx⟩ := G
  dsimp only at hV
  have H : Hid (GB w p (FP.limbsN 70 V) [.int .i64 c, .int .i64 o, .int .i64 h, .int .i64 l, .float .f64 mn, .float .f64 mx]) := hG
  have c71 := H.out.tail (i := 1) (by omega)
  have c72 := H.out.tail (i := 2) (by omega)
  have c73 := H.out.tail (i := 3) (by omega)
  have c69 := H.out.limb (i := 69) (by omega)
  have hl69 := FP.limbs_last 69 V
  have ES : Hid (sumOf ⟨V, c, o, h, l, mn, mx⟩ = if 0 < o ∨ (0 < h ∧ 0 < l) then 9221120237041090561 else if 0 < h then 9218868437227405312 else if 0 < l then 18442240474082181120 else if 0 ≤ V then FP.rd V.toNat 0 else negB (FP.rd (-V).toNat 0)) := rfl
  generalize sumOf ⟨V, c, o, h, l, mn, mx⟩ = S at ES ⊢
  have HV := Lib.hid hV
  have hsg : 0 ≤ (FP.limbsN 70 V).getD 69 0 ↔ 0 ≤ V := by
    rw [hl69]
    have hp : (0 : Int) < 4294967296 ^ 69 := Int.pow_pos (by omega)
    generalize (4294967296 : Int) ^ 69 = B at hp ⊢
    exact Int.ediv_nonneg_iff_of_pos hp
  generalize (FP.limbsN 70 V).getD 69 0 = top at c69 hsg
  clear hG hV hl69
  have ho0 : (0 : Int) ≤ (o : Int) := Int.natCast_nonneg _
  have hh0 : (0 : Int) ≤ (h : Int) := Int.natCast_nonneg _
  have hl0 : (0 : Int) ≤ (l : Int) := Int.natCast_nonneg _
  by_cases h1 : 0 < o
  · have h1' : (0 : Int) < (o : Int) := by omega
    have e : S = 9221120237041090561 := by rw [ES.out, if_pos (Or.inl h1)]
    subst e
    clear ES hsg h1
    go_enter Try.func15, Try.ntmps15
    go_wp2_with (go_at_call 25; refine (nan_any _).mono ?_; rintro e w' ⟨rfl, rfl⟩)
    go_ret
    exact ⟨rfl, Below.refl _ _⟩
  · have h1' : ¬ (0 : Int) < (o : Int) := by omega
    by_cases h2 : 0 < h
    · have h2' : (0 : Int) < (h : Int) := by omega
      by_cases h3 : 0 < l
      · have h3' : (0 : Int) < (l : Int) := by omega
        have e : S = 9221120237041090561 := by rw [ES.out, if_pos (Or.inr ⟨h2, h3⟩)]
        subst e
        clear ES hsg h1 h2 h3
        go_enter Try.func15, Try.ntmps15
        go_wp2_with (go_at_call 25; refine (nan_any _).mono ?_; rintro e w' ⟨rfl, rfl⟩)
        go_ret
        exact ⟨rfl, Below.refl _ _⟩
      · have h3' : ¬ (0 : Int) < (l : Int) := by omega
        have e : S = 9218868437227405312 := by rw [ES.out, if_neg (by omega), if_pos h2]
        subst e
        clear ES hsg h1 h2 h3
        go_enter Try.func15, Try.ntmps15
        go_wp2_with (go_at_call 31; refine (inf_up _ (by omega) _).mono ?_; rintro e w' ⟨rfl, rfl⟩)
        go_ret
        exact ⟨rfl, Below.refl _ _⟩
    · have h2' : ¬ (0 : Int) < (h : Int) := by omega
      by_cases h3 : 0 < l
      · have h3' : (0 : Int) < (l : Int) := by omega
        have e : S = 18442240474082181120 := by rw [ES.out, if_neg (by omega), if_neg h2, if_pos h3]
        subst e
        clear ES hsg h1 h2 h3
        go_enter Try.func15, Try.ntmps15
        go_wp2_with (go_at_call 31; refine (inf_down _ (by omega) _).mono ?_; rintro e w' ⟨rfl, rfl⟩)
        go_ret
        exact ⟨rfl, Below.refl _ _⟩
      · have h3' : ¬ (0 : Int) < (l : Int) := by omega
        by_cases hv : 0 ≤ V
        · have htop : 0 ≤ top := hsg.2 hv
          obtain ⟨n, rfl⟩ : ∃ n : Nat, V = n := ⟨V.toNat, by omega⟩
          have e : S = FP.rd n 0 := by rw [ES.out, if_neg (by omega), if_neg h2, if_neg h3, if_pos hv, Int.toNat_natCast]
          subst e
          have HN := Lib.hid fun w => nearest_any w n (lim_hid HV.out (Or.inl rfl))
          have hrg := Lib.hid H.out.range
          have hlen := arr_len (n : Int)
          generalize FP.rd n 0 = y at HN
          generalize ints (FP.limbsN 70 (n : Int)) = cs at HN hrg hlen
          clear ES hsg h1 h2 h3 hv H HV
          go_enter Try.func15, Try.ntmps15
          go_wp2_with (first | (go_at_call 32; refine (HN.out _).mono ?_; rintro e w2 ⟨rfl, hb2⟩) | (refine wpl_arr _ rfl rfl p 0 rfl cs hrg.out hlen ?_))
          go_ret
          exact ⟨rfl, hb2⟩
        · have htop : ¬ 0 ≤ top := fun h => hv (hsg.1 h)
          obtain ⟨n, hn⟩ : ∃ n : Nat, V = -(n : Int) := ⟨(-V).toNat, by omega⟩
          have e : S = negB (FP.rd n 0) := by rw [ES.out, if_neg (by omega), if_neg h2, if_neg h3, if_neg hv, show (-V).toNat = n by omega]
          subst e
          have HN := Lib.hid fun w => nearest_any w n (lim_hid HV.out (Or.inr hn))
          have hlen := arr_len V
          have hrg := Lib.hid H.out.range
          have HW : Hid (∀ M : List Int, M.length = 70 → (∀ j, j < 70 → M.getD j 0 = -((FP.limbsN 70 V).getD j 0)) → FP.worth M = (n : Int)) := fun M hM hj => by
            rw [neg_of hM (FP.limbsN_length 70 V) hj, FP.worth_limbs]; omega
          have HLb : Hid (∀ j, j < 70 → -1 ≤ (FP.limbsN 70 V).getD j 0 ∧ (FP.limbsN 70 V).getD j 0 < 4294967296) := limb_bound HV.out
          have HAr : Hid (∀ j, j < 70 → (ints (FP.limbsN 70 V)).toArray[j]? = some (.int .i64 ((FP.limbsN 70 V).getD j 0))) := fun j hj => by
            rw [List.getElem?_toArray]; unfold ints; simp [List.getD, FP.limbsN_length, hj]
          have hyl : FP.rd n 0 < 18446744073709551616 := by have := FP.rd_le_inf n 0; omega
          have hneg := fun w => run_neg_f64 hyl w
          generalize FP.rd n 0 = y at HN hneg
          clear hyl
          generalize FP.limbsN 70 V = L at HLb HAr HW hlen hrg H
          have hz := fun w => (zero_of_info (P := Try.prog) zero_gauge).1 w
          have hzs := zsize
          have hza : zcells.all (·.oneCell') = true := by decide +kernel
          have HZ : Hid (zcells = gcells (FP.limbsN 70 0) [.int .i64 0, .int .i64 0, .int .i64 0, .int .i64 0, .float .f64 0, .float .f64 0]) := rfl
          generalize zcells = Z at hz hzs hza HZ
          have hrg2 := Lib.hid (World.rangeAt_alloc hrg.out (.cells Z 46))
          have h72 : c72 = c72 := rfl
          clear ES hsg h1 h2 h3 hv hn HV h72
          go_enter Try.func15, Try.ntmps15
          go_wp2_with (first | (refine wpl_zero Z hzs hza _ _ rfl rfl rfl rfl ?_) | (refine wpl_arr _ rfl rfl p 0 rfl (ints L) hrg2.out hlen ?_))
          have hlen2 : L.length = 70 := by unfold ints at hlen; simpa using hlen
          have hB0 : Hid (GB (w.alloc (.cells Z 46)) w.heap.size (FP.limbsN 70 0) [.int .i64 0, .int .i64 0, .int .i64 0, .int .i64 0, .float .f64 0, .float .f64 0]) := by
            refine ⟨?_, rfl, rfl⟩
            show Blk _ _ _ (gcells _ _)
            rw [← HZ.out]; exact heap_alloc_new w _
          have hW0 : Hid (Below w.heap.size w (w.alloc (.cells Z 46))) := (Below.refl _ _).alloc (Nat.le_refl _) _
          have hz0 : Hid (∀ j, j < 70 → (FP.limbsN 70 0).getD j 0 = 0) := fun j hj => by
            have h := limb_nat 69 0 j (by omega) (Nat.pow_pos (by omega))
            rw [Nat.zero_div, Nat.zero_mod] at h
            exact h
          obtain ⟨q, hq⟩ : ∃ q, q = w.heap.size := ⟨_, rfl⟩
          rw [← hq] at hB0 ⊢
          have HQ := Lib.hid hq
          clear hq
          generalize FP.limbsN 70 0 = M0 at hB0 hz0
          generalize [Value.int .i64 0, .int .i64 0, .int .i64 0, .int .i64 0, .float .f64 0, .float .f64 0] = tz at hB0
          generalize w.alloc (.cells Z 46) = w0 at hB0 hW0 ⊢
          clear hz hzs hza HZ hrg2 c69 c71 c72 c73
          go_loopw [62] (fun iv wr => ∃ i : Nat, ∃ M : List Int, iv = .int .i64 i ∧ i ≤ 70 ∧ Hid (GB wr q M tz ∧ ∀ j, j < 70 → M.getD j 0 = if j < i then -(L.getD j 0) else 0) ∧ Fr (fun x => x = q) w0 wr) (fun iv _ => 70 - (intOf iv).toNat)
          case atStart => exact ⟨0, M0, rfl, by omega, ⟨hB0.out, fun j hj => by rw [if_neg (by omega)]; exact hz0.out j hj⟩, Fr.refl _ _⟩
          case round =>
            obtain ⟨i, M, rfl, i1, HM, hF⟩ := hrel
            have hi0 : (0 : Int) ≤ (i : Int) := Int.natCast_nonneg _
            by_cases hlt : i < 70
            · have hlt' : (i : Int) < 70 := by omega
              have c1 := HM.out.1.limb hlt
              have f1 := HM.out.1.froz i
              have hai := HAr.out i hlt
              have hbi := HLb.out i hlt
              have HS := Lib.hid fun v => HM.out.1.set hlt v
              have HML := Lib.hid HM.out.1.l
              generalize M.getD i 0 = old at c1
              obtain ⟨x, hx⟩ : ∃ x, L.getD i 0 = x := ⟨_, rfl⟩
              rw [hx] at hai hbi
              have HXx := Lib.hid hx
              clear hx
              have w1 : wrap64 (-x) = -x := IntWalk.wrap64_in _ (by omega)
              have w2 : IntKind.i64.wrap (-x) = -x := IntWalk.i64_in _ (by omega)
              generalize (ints L).toArray = arr at hai ⊢
              have hjx := fun w => index_arr arr i hlt x hai w
              go_wp2
              go_roundw
              case rel =>
                refine ⟨i + 1, M.set i (-x), by go_num, by omega, ⟨HS.out (-x), fun j hj => ?_⟩, hF.setCell (Or.inl rfl) _⟩
                have hml := HML.out
                rw [getD_setI _ (by omega)]
                by_cases e : i = j
                · subst e; rw [if_pos rfl, if_pos (by omega), HXx.out]
                · rw [if_neg e, HM.out.2 j hj]
                  by_cases h : j < i
                  · rw [if_pos h, if_pos (by omega)]
                  · rw [if_neg h, if_neg (by omega)]
              case measure => simp only [intOf]; omega
            · obtain rfl : i = 70 := by omega
              have hMe : ∀ j, j < 70 → M.getD j 0 = -(L.getD j 0) := fun j hj => by rw [HM.out.2 j hj, if_pos hj]
              have HC := Lib.hid (carry_any wr q M tz HM.out.1 fun j hj => by rw [hMe j hj]; have := HLb.out j hj; omega)
              rw [HW.out M HM.out.1.l hMe] at HC
              have hlen3 := arr_len (n : Int)
              clear hMe HM HAr HLb HW
              go_wp2_with (first | (go_at_call 33; refine HC.out.mono ?_; rintro e w3 ⟨rfl, h3, f3⟩; have hrg3 := Lib.hid h3.range; replace h3 := Lib.hid h3; replace f3 := Lib.hid f3) | (go_at_call 32; refine (HN.out _).mono ?_; rintro e w4 ⟨rfl, hb4⟩) | (refine wpl_arr _ rfl rfl q 0 rfl (ints (FP.limbsN 70 (n : Int))) hrg3.out hlen3 ?_))
              go_ret
              refine ⟨rfl, hW0.out.trans ((hF.trans f3.out).below hW0.out.size (fun x hx => by rw [hx, HQ.out]; exact Nat.le_refl _) |>.trans (hb4.mono ?_))⟩
              have h5 := hW0.out.size
              have h6 := (hF.trans f3.out).size
              omega
end Go.Proofs.Ytdjilhahafkpfaa
