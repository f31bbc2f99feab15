/- The reference's magnitudes: less, minus. -/
import Derived.Test.YtdjilhahafkpfaaLz
namespace Go.Proofs.Ytdjilhahafkpfaa
open Go.RowKit Go.Deep
set_option maxRecDepth 100000
theorem wless_any (w : World) (p q A B : Nat) (hA : BW w p A) (hB : BW w q B) (hAl : Hid (A < 2 ^ WN)) (hBl : Hid (B < 2 ^ WN)) :
    Calls Try.prog 35 #[.pointer (some ⟨p, 0, none⟩), .pointer (some ⟨q, 0, none⟩)] w fun e w' => e = .returned (.bool (decide (A < B))) ∧ Below w.heap.size w w' := by
  have HA := Lib.hid hA
  have HB := Lib.hid hB
  have H0 : Hid (A / 2 ^ 2200 = B / 2 ^ 2200) := by
    have h1 := Nat.div_eq_of_lt hAl.out
    have h2 := Nat.div_eq_of_lt hBl.out
    rw [wn] at h1 h2
    unfold Hid
    rw [h1, h2]
  clear hA hB hAl hBl
  go_enter Try.func35, Try.ntmps35
  go_wp2
  go_loopw [5] (fun iv wr => ∃ j : Nat, iv = .int .i64 ((j : Int) - 1) ∧ j ≤ 2200 ∧ Hid (A / 2 ^ j = B / 2 ^ j) ∧ Hid (Below w.heap.size w wr)) (fun iv _ => (intOf iv + 1).toNat)
  case atStart => exact ⟨2200, rfl, by omega, H0, Below.refl _ _⟩
  case round =>
    obtain ⟨j, rfl, j1, hE, hW⟩ := hrel
    clear H0
    cases j with
    | zero =>
      have hAB : Hid (decide (A < B) = false) := by
        have := FP.eq_of_zero hE.out
        unfold Hid; rw [this]; simp
      have ez : ((0 : Nat) : Int) - 1 = -1 := rfl
      clear hE
      rw [ez]
      go_wp2
      go_ret
      exact ⟨by rw [hAB.out]; rfl, hW.out⟩
    | succ t =>
      have et : ((t + 1 : Nat) : Int) - 1 = (t : Int) := by omega
      rw [et]
      clear et
      have ht0 : (0 : Int) ≤ (t : Int) := Int.natCast_nonneg _
      have ht1 : (t : Int) < 2200 := by omega
      have ca := (HA.out.below hW.out).cell (i := t) (by omega)
      have cb := (HB.out.below hW.out).cell (i := t) (by omega)
      have da2 := FP.dig_lt A t
      have db2 := FP.dig_lt B t
      have hL := Lib.hid (FP.less_of hE.out)
      generalize FP.dig A t = da at ca da2 hL
      generalize FP.dig B t = db at cb db2 hL
      have hd1 : (0 : Int) ≤ (da : Int) := Int.natCast_nonneg _
      have hd2 : (0 : Int) ≤ (db : Int) := Int.natCast_nonneg _
      clear hE
      by_cases hd : da = db
      · have hE2 := Lib.hid (hL.out.1 hd)
        subst hd
        clear hL
        go_wp2
        go_quiet (fail)
        go_wp2
        go_roundw
        case rel => exact ⟨t, by first | rfl | go_num, by omega, hE2, below_chain hW.out ⟨rfl, rfl, rfl, Nat.le_refl _, fun _ _ => rfl⟩⟩
        case measure => simp [intOf]
      · have hdi : ((da : Int) == (db : Int)) = false := by rw [beq_eq_false_iff_ne]; omega
        have hres : Hid (decide ((da : Int) < (db : Int)) = decide (A < B)) := by
          unfold Hid
          rw [decide_eq_decide]
          constructor
          · intro h; exact hL.out.2.1 (by omega)
          · intro h
            apply Classical.byContradiction
            intro hn
            have := hL.out.2.2 (by omega)
            omega
        have hne : ¬ (da : Int) = (db : Int) := by omega
        by_cases hlt : (da : Int) < (db : Int)
        · have hd3 : decide (A < B) = true := by rw [← hres.out]; exact decide_eq_true hlt
          have HD3 := Lib.hid hd3
          clear hL hres hd hd3
          go_wp2
          go_quiet (fail)
          go_wp2
          go_quiet (fail)
          go_wp2
          go_ret
          exact ⟨by rw [HD3.out]; rfl, below_chain hW.out ⟨rfl, rfl, rfl, Nat.le_refl _, fun _ _ => rfl⟩⟩
        · have hd3 : decide (A < B) = false := by rw [← hres.out]; exact decide_eq_false hlt
          have HD3 := Lib.hid hd3
          clear hL hres hd hd3
          go_wp2
          go_quiet (fail)
          go_wp2
          go_quiet (fail)
          go_wp2
          go_ret
          have hdn : decide (da < db) = false := decide_eq_false (by omega)
          exact ⟨by show Ending.returned (.bool (decide (da < db))) = _; rw [HD3.out, hdn], below_chain hW.out ⟨rfl, rfl, rfl, Nat.le_refl _, fun _ _ => rfl⟩⟩
def part (D i : Nat) (j : Nat) : Nat := if j < i then FP.dig D j else 0
set_option maxHeartbeats 1000000 in
theorem wminus_any (w : World) (p q A B : Nat) (hA : BW w p A) (hB : BW w q B) (hle : B ≤ A) :
    Calls Try.prog 37 #[.pointer (some ⟨p, 0, none⟩), .pointer (some ⟨q, 0, none⟩)] w fun e w' => e = .returned (.pointer (some ⟨w.heap.size, 0, none⟩)) ∧ BW w' w.heap.size (A - B) ∧ Below w.heap.size w w' := by
  have HA := Lib.hid hA
  have HB := Lib.hid hB
  have HL := Lib.hid hle
  clear hA hB hle
  have hz := fun w => (zero_of_info (P := Try.prog) zero_whole).1 w
  have HZ : Hid (Blk (w.alloc (.cells (wb fun _ => 0) 52)) w.heap.size 52 (wb fun _ => 0)) := heap_alloc_new w _
  have HZB : Hid (Below w.heap.size w (w.alloc (.cells (wb fun _ => 0) 52))) := (Below.refl _ _).alloc (Nat.le_refl _) _
  have HZE : Hid ((wb fun _ => 0) = wb (part (A - B) 0)) := wb_congr fun j _ => by unfold part; rw [if_neg (by omega)]
  generalize (wb fun _ => 0) = Z at hz HZ HZB HZE
  go_enter Try.func37, Try.ntmps37
  go_wp2
  obtain ⟨r, hr⟩ : ∃ r, r = w.heap.size := ⟨_, rfl⟩
  rw [← hr] at HZ ⊢
  have HR := Lib.hid hr
  have hpr : Hid (p ≠ r ∧ q ≠ r) := ⟨by have := Blk.lt HA.out; omega, by have := Blk.lt HB.out; omega⟩
  clear hr
  generalize w.alloc (.cells Z 52) = w0 at HZ HZB ⊢
  have hZ0 : Hid (Z = wb (part (A - B) 0)) := HZE.out
  rw [hZ0.out] at HZ
  go_loopw [6, 7] (fun cv iv wr => ∃ c i : Nat, cv = .int .u8 c ∧ iv = .int .i64 i ∧ i ≤ 2200 ∧ Hid (c = FP.cy B (A - B) i) ∧ Hid (Blk wr r 52 (wb (part (A - B) i))) ∧ Hid (Below w.heap.size w wr)) (fun _ iv _ => 2200 - (intOf iv).toNat)
  case atStart => exact ⟨0, 0, rfl, rfl, by omega, (FP.cy_zero _ _).symm, HZ, HZB⟩
  case round =>
    obtain ⟨c, i, rfl, rfl, i1, hC, hP, hW⟩ := hrel
    clear HZ HZB hZ0 hz
    have hi0 : (0 : Int) ≤ (i : Int) := Int.natCast_nonneg _
    by_cases hlt : i < 2200
    · have hlt' : (i : Int) < 2200 := by omega
      have hc1 : c ≤ 1 := by rw [hC.out]; exact (FP.cy_eq _ _ _).2
      have ca := (HA.out.below hW.out).cell hlt
      have cb := (HB.out.below hW.out).cell hlt
      have fr := hP.out.froz i
      have cr : wr.cell? ⟨r, i, none⟩ = some (.int .u8 0) := by
        rw [BAt.cell hP.out hlt]; unfold part; rw [if_neg (by omega)]; rfl
      have da2 := FP.dig_lt A i
      have db2 := FP.dig_lt B i
      have hS := Lib.hid (FP.sub_dig HL.out i)
      rw [← hC.out] at hS
      generalize FP.dig A i = da at ca da2 hS
      generalize FP.dig B i = db at cb db2 hS
      have hd1 : (0 : Int) ≤ (da : Int) := Int.natCast_nonneg _
      have hd2 : (0 : Int) ≤ (db : Int) := Int.natCast_nonneg _
      have hc0 : (0 : Int) ≤ (c : Int) := Int.natCast_nonneg _
      obtain ⟨u, hu⟩ : ∃ u, u = 2 + da := ⟨_, rfl⟩
      obtain ⟨v, hv⟩ : ∃ v, v = 2 + da - db := ⟨_, rfl⟩
      obtain ⟨y, hy⟩ : ∃ y, y = 2 + da - db - c := ⟨_, rfl⟩
      obtain ⟨hh, hhd⟩ : ∃ hh, hh = y / 2 := ⟨_, rfl⟩
      obtain ⟨d, hd⟩ : ∃ d, d = y % 2 := ⟨_, rfl⟩
      obtain ⟨c2, hc2⟩ : ∃ c2, c2 = 1 - hh := ⟨_, rfl⟩
      have e1 : (2 : Int) + (da : Int) = (u : Int) := by omega
      have e2 : (u : Int) - (db : Int) = (v : Int) := by omega
      have e3 : (v : Int) - (c : Int) = (y : Int) := by omega
      have e4 : (y : Int) / 2 = (hh : Int) := by omega
      have e5 : (y : Int) % 2 = (d : Int) := by omega
      have e4' : (y : Int).tdiv 2 = (hh : Int) := by rw [Int.tdiv_eq_ediv_of_nonneg (Int.natCast_nonneg _)]; exact e4
      have e5' : (y : Int).tmod 2 = (d : Int) := by rw [Int.tmod_eq_emod_of_nonneg (Int.natCast_nonneg _)]; exact e5
      have e6 : (1 : Int) - (hh : Int) = (c2 : Int) := by omega
      have w1 : IntKind.u8.wrap (u : Int) = (u : Int) := by rw [IntKind.wrap_u8]; omega
      have w2 : IntKind.u8.wrap (v : Int) = (v : Int) := by rw [IntKind.wrap_u8]; omega
      have w3 : IntKind.u8.wrap (y : Int) = (y : Int) := by rw [IntKind.wrap_u8]; omega
      have w4 : IntKind.u8.wrap (d : Int) = (d : Int) := by rw [IntKind.wrap_u8]; omega
      have w5 : IntKind.u8.wrap (c2 : Int) = (c2 : Int) := by rw [IntKind.wrap_u8]; omega
      have HC2 : Hid (c2 = FP.cy B (A - B) (i + 1)) := by unfold Hid; rw [hS.out.2, ← hy, ← hhd]; exact hc2
      have HD : Hid (d = FP.dig (A - B) i) := by unfold Hid; rw [hS.out.1, ← hy]; exact hd
      have hy0 : (0 : Int) ≤ (y : Int) := Int.natCast_nonneg _
      have hy3 : (y : Int) ≤ 3 := by omega
      clear hu hv hy hhd hd hc2 hS hC
      have hNext : Hid (∀ n, Blk ((wr.drewN n).setCell ⟨r, i, none⟩ (.int .u8 d)) r 52 (wb (part (A - B) (i + 1))) ∧ Below w.heap.size w ((wr.drewN n).setCell ⟨r, i, none⟩ (.int .u8 d))) := fun n => by
        have hd : Below wr.heap.size wr (wr.drewN n) := ⟨rfl, rfl, rfl, Nat.le_refl _, fun _ _ => rfl⟩
        refine ⟨?_, (below_chain hW.out hd).setCell (by rw [HR.out]; exact Nat.le_refl _) _⟩
        have h : Blk ((wr.drewN n).setCell ⟨r, i, none⟩ (.int .u8 d)) r 52 _ := (hP.out.drewN n).set i (.int .u8 d)
        rw [wb_set, wb_congr (g := part (A - B) (i + 1)) fun j _ => by
          unfold part
          by_cases h1 : j = i
          · rw [if_pos h1, if_pos (by omega), h1]; exact HD.out
          · rw [if_neg h1]
            by_cases h2 : j < i
            · rw [if_pos h2, if_pos (by omega)]
            · rw [if_neg h2, if_neg (by omega)]] at h
        exact h
      go_wp2
      go_quiet (fail)
      go_wp2
      go_roundw
      case rel => exact ⟨c2, i + 1, rfl, by go_num, by omega, HC2, (hNext.out _).1, (hNext.out _).2⟩
      case measure => simp only [intOf]; omega
    · obtain rfl : i = 2200 := by omega
      have hBe : Hid (BW wr r (A - B)) := by
        have h := hP.out
        rw [wb_congr (g := FP.dig (A - B)) fun j hj => by unfold part; rw [if_pos hj]] at h
        exact h
      clear hP hC
      go_wp2
      go_ret
      exact ⟨by rw [← HR.out]; rfl, by rw [← HR.out]; exact hBe.out, hW.out⟩
end Go.Proofs.Ytdjilhahafkpfaa
