/- The reference's magnitude: ones and noughts; add. -/
import Derived.Test.YtdjilhahafkpfaaLv
import Derived.Test.YtdjilhahafkpfaaFpm
namespace Go.Proofs.Ytdjilhahafkpfaa
open Go.RowKit Go.Deep
set_option maxRecDepth 100000
@[irreducible] def WN : Nat := 2200
theorem wn : WN = 2200 := by unfold WN; rfl
/-- The cells that hold ones and noughts. -/
def wb (f : Nat → Nat) : Array Value := ((List.range WN).map fun j => Value.int .u8 (f j : Nat)).toArray
theorem wb_get (f : Nat → Nat) {i : Nat} (hi : i < 2200) : (wb f)[i]? = some (.int .u8 (f i : Nat)) := by
  have := wn
  unfold wb
  rw [List.getElem?_toArray, List.getElem?_map, List.getElem?_range (by omega)]; rfl
theorem wb_congr {f g : Nat → Nat} (h : ∀ j, j < 2200 → f j = g j) : wb f = wb g := by
  unfold wb
  congr 1
  apply List.map_congr_left
  intro j hj
  have := wn
  rw [List.mem_range] at hj
  rw [h j (by omega)]
theorem wb_set (f : Nat → Nat) (i v : Nat) : (wb f).setIfInBounds i (.int .u8 (v : Nat)) = wb (fun j => if j = i then v else f j) := by
  unfold wb
  rw [List.setIfInBounds_toArray]
  congr 1
  apply List.ext_getElem
  · simp
  · intro j h1 h2
    simp only [List.getElem_set, List.getElem_map, List.getElem_range]
    by_cases h : i = j
    · subst h; simp
    · rw [if_neg h, if_neg (Ne.symm h)]
theorem zero_whole : (Try.prog.info? 52).map (fun i => (i.zero, i.size)) = some (some (.agg (wb fun _ => 0)), 2200) := by kernel_rfl
/-- A magnitude in memory. -/
def BW (w : World) (p : Nat) (V : Nat) : Prop := Blk w p 52 (wb (FP.dig V))
theorem BW.cell {w : World} {p V : Nat} (h : BW w p V) {i : Nat} (hi : i < 2200) : w.cell? ⟨p, i, none⟩ = some (.int .u8 (FP.dig V i : Nat)) := by
  rw [Blk.cell h]; exact wb_get _ hi
theorem BW.below {w w' : World} {p V : Nat} (h : BW w p V) (hB : Below w.heap.size w w') : BW w' p V := Blk.below h hB (Blk.lt h)
/-- While a number is added: up to a place the sum's digits, from there on the old ones. -/
def mixed (V M i : Nat) (j : Nat) : Nat := if j < i then FP.dig (V + M) j else FP.dig V j
theorem mixed_start (V m s : Nat) : wb (mixed V (m * 2 ^ s) s) = wb (FP.dig V) := by
  apply wb_congr
  intro j _
  unfold mixed
  by_cases hj : j < s
  · rw [if_pos hj]; exact FP.low_dig V m s j hj
  · rw [if_neg hj]
theorem BAt.cell {w : World} {p : Nat} {f : Nat → Nat} (h : Blk w p 52 (wb f)) {i : Nat} (hi : i < 2200) : w.cell? ⟨p, i, none⟩ = some (.int .u8 (f i : Nat)) := by
  rw [h.cell]; exact wb_get _ hi
set_option maxHeartbeats 2000000 in
theorem wadd_any (w : World) (p V : Nat) (h : BW w p V) (x : Nat) (hx : x < 18446744073709551616) (hf : FP.rung x < 9218868437227405312) :
    Calls Try.prog 34 #[.pointer (some ⟨p, 0, none⟩), .float .f64 x] w fun e w' => e = .returned (.tuple #[]) ∧ BW w' p (V + FP.val (FP.rung x)) ∧ Fr (fun q => q = p) w w' := by
  obtain ⟨n, hn⟩ : ∃ n : Int, n = (x : Int) := ⟨_, rfl⟩
  have hbits := run_bits_at hn
  obtain ⟨m0, hm0⟩ : ∃ m0, n % 4503599627370496 = m0 := ⟨_, rfl⟩
  obtain ⟨E, hE⟩ : ∃ E, n / 4503599627370496 % 2048 = E := ⟨_, rfl⟩
  have hrx : FP.rung x = x % 9223372036854775808 := rfl
  have a2 := and11 (n / 4503599627370496) (by omega) (by omega)
  rw [hE] at a2
  have b0 : 0 ≤ m0 ∧ m0 < 4503599627370496 := by omega
  have b1 : 0 ≤ E ∧ E < 2047 := by omega
  have s1 : IntKind.u64.wrap (n * 4096) / 4096 = m0 := by rw [IntKind.wrap_u64]; omega
  have hn0 : 0 ≤ n ∧ n < 18446744073709551616 := by omega
  have hV : ∃ m s : Nat, m < 9007199254740992 ∧ s < 2046 ∧ FP.val (FP.rung x) = m * 2 ^ s ∧ ((E = 0 ∧ s = 0 ∧ m0 = (m : Int)) ∨ (0 < E ∧ E = (s : Int) + 1 ∧ m0 + 4503599627370496 = (m : Int))) := by
    by_cases h0 : E = 0
    · refine ⟨m0.toNat, 0, by omega, by omega, ?_, Or.inl ⟨h0, rfl, by omega⟩⟩
      have := num_small (x := x) (m0 := m0) (by rw [← hm0, hn]) (by rw [← hn, hE, h0])
      rw [Nat.pow_zero, Nat.mul_one]; omega
    · obtain ⟨s, hs⟩ : ∃ s : Nat, E = (s : Int) + 1 := ⟨(E - 1).toNat, by omega⟩
      refine ⟨(m0 + 4503599627370496).toNat, s, by omega, by omega, ?_, Or.inr ⟨by omega, hs, by omega⟩⟩
      have := num_parts (x := x) (m0 := m0) (a := s) (by rw [← hm0, hn]) (by rw [← hn, hE, hs])
      have e : (m0 + 4503599627370496) = ((m0 + 4503599627370496).toNat : Int) := by omega
      rw [e] at this
      apply Int.ofNat_inj.1
      rw [this, Int.natCast_mul, Int.natCast_pow]; rfl
  obtain ⟨m, s, hm, hs, hval, hcase⟩ := hV
  rw [hval]
  have H := Lib.hid h
  have HN := Lib.hid hn
  clear h hn hval hrx hE hm0 hf
  rcases hcase with ⟨c1, c2, c3⟩ | ⟨c0, c1, c3⟩
  · subst c1 c2 c3
    go_enter Try.func34, Try.ntmps34
    go_wp2
    go_loopw [7, 8] (fun cv iv wr => ∃ i c : Nat, cv = .int .u8 c ∧ iv = .int .i64 i ∧ 0 ≤ i ∧ i ≤ 2200 ∧ Hid (c = FP.cy V (m * 2 ^ 0) i) ∧ Hid (Blk wr p 52 (wb (mixed V (m * 2 ^ 0) i))) ∧ Hid (Fr (fun q => q = p) w wr)) (fun _ iv _ => 2200 - (intOf iv).toNat)
    case atStart => exact ⟨0, 0, rfl, rfl, Nat.le_refl _, by omega, (FP.low_cy V m 0).symm, by
      unfold Hid
      rw [mixed_start]
      exact H.out, Fr.refl _ _⟩
    case round =>
      obtain ⟨i, c, rfl, rfl, hi1, hi2, hC, hB, hF⟩ := hrel
      have hi0 : (0 : Int) ≤ (i : Int) := Int.natCast_nonneg _
      have hc0 : (0 : Int) ≤ (c : Int) := Int.natCast_nonneg _
      have hc1 : c ≤ 1 := by rw [hC.out]; exact (FP.cy_eq _ _ _).2
      by_cases hlt : i < 2200
      · have hlt' : (i : Int) < 2200 := by omega
        have hcell : wr.cell? ⟨p, i, none⟩ = some (.int .u8 (FP.dig V i : Nat)) := by
          rw [BAt.cell hB.out hlt]; unfold mixed; rw [if_neg (by omega)]
        have hfz := hB.out.froz i
        have hd1 := FP.dig_lt V i
        have hS := Lib.hid (FP.cy_succ V (m * 2 ^ 0) i)
        have hA := Lib.hid (FP.dig_add V (m * 2 ^ 0) i)
        rw [← hC.out] at hS hA
        have hNext : Hid (∀ w', Blk w' p 52 ((wb (mixed V (m * 2 ^ 0) i)).setIfInBounds i (.int .u8 (FP.dig (V + m * 2 ^ 0) i : Nat))) → Blk w' p 52 (wb (mixed V (m * 2 ^ 0) (i + 1)))) := fun w' h => by
          rw [wb_set, wb_congr (g := mixed V (m * 2 ^ 0) (i + 1)) fun j _ => by
            unfold mixed
            by_cases h1 : j = i
            · rw [if_pos h1, if_pos (by omega), h1]
            · rw [if_neg h1]
              by_cases h2 : j < i
              · rw [if_pos h2, if_pos (by omega)]
              · rw [if_neg h2, if_neg (by omega)]] at h
          exact h
  
        by_cases hk53 : i < 53
        · have hk53' : (i : Int) < 53 := by omega
          have hbm : Hid (FP.dig (m * 2 ^ 0) i = m / 2 ^ i % 2) := by
            unfold Hid; have := FP.dig_up m 0 i; rwa [Nat.zero_add] at this
          rw [hbm.out] at hS hA
          have hand : bits .and .u64 ((m : Int) / 2 ^ i) 1 = ((m / 2 ^ i % 2 : Nat) : Int) := by
            have hand := and1 ((m / 2 ^ i : Nat) : Int) (Int.natCast_nonneg _) (by have := Nat.div_le_self m (2 ^ i); omega)
            have hcast : (m : Int) / 2 ^ i = ((m / 2 ^ i : Nat) : Int) := by rw [Int.natCast_ediv, Int.natCast_pow]; rfl
            rw [hcast, hand]; rfl
          have hb1 := Nat.mod_lt (m / 2 ^ i) (show 0 < 2 by omega)
          generalize m / 2 ^ i % 2 = bm at hS hA hand hb1
          generalize FP.dig V i = d at hcell hd1 hS hA
          have hbm0 : (0 : Int) ≤ (bm : Int) := Int.natCast_nonneg _
          have hd0 : (0 : Int) ≤ (d : Int) := Int.natCast_nonneg _
          obtain ⟨y, hy⟩ : ∃ y, y = d + (c + bm) := ⟨_, rfl⟩
          obtain ⟨c2, hc2⟩ : ∃ c2, c2 = FP.cy V (m * 2 ^ 0) (i + 1) := ⟨_, rfl⟩
          obtain ⟨r, hr2⟩ : ∃ r, r = FP.dig (V + m * 2 ^ 0) i := ⟨_, rfl⟩
          have hS' := hS.out
          have hA' := hA.out
          rw [← hc2] at hS'
          rw [← hr2] at hA'
          have hyy : (d : Int) + ((c : Int) + (bm : Int)) = (y : Int) := by omega
          have hq : (y : Int) / 2 = (c2 : Int) := by omega
          have hr : (y : Int) % 2 = (r : Int) := by omega
          have hq' : (y : Int).tdiv 2 = (c2 : Int) := by rw [Int.tdiv_eq_ediv_of_nonneg (Int.natCast_nonneg _)]; exact hq
          have hr' : (y : Int).tmod 2 = (r : Int) := by rw [Int.tmod_eq_emod_of_nonneg (Int.natCast_nonneg _)]; exact hr
          have hy0 : (0 : Int) ≤ (y : Int) := Int.natCast_nonneg _
          have hy3 : (y : Int) ≤ 3 := by omega
          have w1 : IntKind.u8.wrap (y : Int) = (y : Int) := by rw [IntKind.wrap_u8]; omega
          have w2 : IntKind.u8.wrap (r : Int) = (r : Int) := by rw [IntKind.wrap_u8]; omega
          have HC2 := Lib.hid hc2
          have HR2 := Lib.hid hr2
          clear hc2 hr2 hS hA hC hS' hA' hy hbm
          have hB1 : Hid (∀ v, Blk (wr.setCell ⟨p, i, none⟩ v).drew p 52 ((wb (mixed V (m * 2 ^ 0) i)).setIfInBounds i v)) := fun v => hB.out.set i v
          have hF1 : Hid (∀ v, Fr (fun q => q = p) w (wr.setCell ⟨p, i, none⟩ v).drew) := fun v => (hF.out.setCell (Or.inl rfl) _).drew
          go_wp2
          go_region
          have hb1 := hB1.out (.int .u8 y)
          have hf1 := Lib.hid (hF1.out (.int .u8 y))
          generalize (wr.setCell ⟨p, i, none⟩ (.int .u8 y)).drew = w5 at hb1 hf1 ⊢
          have hcell5 : w5.cell? ⟨p, i, none⟩ = some (.int .u8 y) := by
            rw [hb1.cell, wb_set, wb_get _ hlt, if_pos rfl]
          have hfz5 := hb1.froz i
          have hB2 := Lib.hid (hb1.set i (.int .u8 r))
          rw [Array.setIfInBounds_setIfInBounds] at hB2
          clear hcell hfz hB1 hF1 hb1
          go_wp2
          go_region
          have hF2 : Hid (Fr (fun q => q = p) w (w5.setCell ⟨p, i, none⟩ (.int .u8 r)).drew) := (hf1.out.setCell (Or.inl rfl) _).drew
          have hB3 : Hid (Blk (w5.setCell ⟨p, i, none⟩ (.int .u8 r)).drew p 52 ((wb (mixed V (m * 2 ^ 0) i)).setIfInBounds i (.int .u8 (FP.dig (V + m * 2 ^ 0) i : Nat)))) := by
            rw [← HR2.out]; exact hB2.out
          go_wp2
          go_roundw
          case rel => exact ⟨i + 1, c2, rfl, by go_num, by omega, by omega, HC2.out, hNext.out _ hB3.out, hF2⟩
          case measure => simp only [intOf]; omega
        · have hk53' : ¬ (i : Int) < 53 := by omega
          by_cases hcz : c = 0
          · have hStop := Lib.hid (FP.add_stop (FP.lt_up (m := m) (s := 0) (i := i) hm (by omega)) (by rw [← hC.out]; exact hcz))
            subst hcz
            have hBe : Hid (BW wr p (V + m * 2 ^ 0)) := by
              have h := hB.out
              rw [wb_congr (g := FP.dig (V + m * 2 ^ 0)) fun j hj => by
                unfold mixed
                by_cases h1 : j < i
                · rw [if_pos h1]
                · rw [if_neg h1, hStop.out j (by omega)]] at h
              exact h
            clear hStop hNext hS hA hC hB
            go_wp2
            (try simp only [Exit.inBlock, Exit.then])
            refine bodyPost_ret (results_none rfl _ _ _) rfl ?_
            exact ⟨rfl, by first | exact hBe.out | (have := hBe.out; rwa [Nat.pow_zero, Nat.mul_one] at this), hF.out⟩
          · obtain rfl : c = 1 := by omega
            have hdM : FP.dig (m * 2 ^ 0) i = 0 := FP.dig_small (FP.lt_up hm (by omega))
            rw [hdM] at hS hA
            generalize FP.dig V i = d at hcell hd1 hS hA
            have hd0 : (0 : Int) ≤ (d : Int) := Int.natCast_nonneg _
            obtain ⟨y, hy⟩ : ∃ y, y = d + 1 := ⟨_, rfl⟩
            obtain ⟨c2, hc2⟩ : ∃ c2, c2 = FP.cy V (m * 2 ^ 0) (i + 1) := ⟨_, rfl⟩
            obtain ⟨r, hr2⟩ : ∃ r, r = FP.dig (V + m * 2 ^ 0) i := ⟨_, rfl⟩
            have hS' := hS.out
            have hA' := hA.out
            rw [← hc2] at hS'
            rw [← hr2] at hA'
            have hyy : (d : Int) + 1 = (y : Int) := by omega
            have hq : (y : Int) / 2 = (c2 : Int) := by omega
            have hr : (y : Int) % 2 = (r : Int) := by omega
            have hq' : (y : Int).tdiv 2 = (c2 : Int) := by rw [Int.tdiv_eq_ediv_of_nonneg (Int.natCast_nonneg _)]; exact hq
            have hr' : (y : Int).tmod 2 = (r : Int) := by rw [Int.tmod_eq_emod_of_nonneg (Int.natCast_nonneg _)]; exact hr
            have hy0 : (0 : Int) ≤ (y : Int) := Int.natCast_nonneg _
            have hy3 : (y : Int) ≤ 3 := by omega
            have w1 : IntKind.u8.wrap (y : Int) = (y : Int) := by rw [IntKind.wrap_u8]; omega
            have w2 : IntKind.u8.wrap (r : Int) = (r : Int) := by rw [IntKind.wrap_u8]; omega
            have HC2 := Lib.hid hc2
            have HR2 := Lib.hid hr2
            clear hc2 hr2 hS hA hC hS' hA' hy hcz hdM
            have hB1 : Hid (∀ v, Blk (wr.setCell ⟨p, i, none⟩ v).drew p 52 ((wb (mixed V (m * 2 ^ 0) i)).setIfInBounds i v)) := fun v => hB.out.set i v
            have hF1 : Hid (∀ v, Fr (fun q => q = p) w (wr.setCell ⟨p, i, none⟩ v).drew) := fun v => (hF.out.setCell (Or.inl rfl) _).drew
            go_wp2
            go_region
            have hb1 := hB1.out (.int .u8 y)
            have hf1 := Lib.hid (hF1.out (.int .u8 y))
            generalize (wr.setCell ⟨p, i, none⟩ (.int .u8 y)).drew = w5 at hb1 hf1 ⊢
            have hcell5 : w5.cell? ⟨p, i, none⟩ = some (.int .u8 y) := by
              rw [hb1.cell, wb_set, wb_get _ hlt, if_pos rfl]
            have hfz5 := hb1.froz i
            have hB2 := Lib.hid (hb1.set i (.int .u8 r))
            rw [Array.setIfInBounds_setIfInBounds] at hB2
            clear hcell hfz hB1 hF1 hb1
            go_wp2
            go_region
            have hF2 : Hid (Fr (fun q => q = p) w (w5.setCell ⟨p, i, none⟩ (.int .u8 r)).drew) := (hf1.out.setCell (Or.inl rfl) _).drew
            have hB3 : Hid (Blk (w5.setCell ⟨p, i, none⟩ (.int .u8 r)).drew p 52 ((wb (mixed V (m * 2 ^ 0) i)).setIfInBounds i (.int .u8 (FP.dig (V + m * 2 ^ 0) i : Nat)))) := by
              rw [← HR2.out]; exact hB2.out
            go_wp2
            go_roundw
            case rel => exact ⟨i + 1, c2, rfl, by go_num, by omega, by omega, HC2.out, hNext.out _ hB3.out, hF2⟩
            case measure => simp only [intOf]; omega
      · obtain rfl : i = 2200 := by omega
        have hBe : Hid (BW wr p (V + m * 2 ^ 0)) := by
          have h := hB.out
          rw [wb_congr (g := FP.dig (V + m * 2 ^ 0)) fun j hj => by unfold mixed; rw [if_pos hj]] at h
          exact h
        clear hB hC
        go_wp2
        go_end0
        exact ⟨rfl, by first | exact hBe.out | (have := hBe.out; rwa [Nat.pow_zero, Nat.mul_one] at this), hF.out⟩
  · subst c1
    go_enter Try.func34, Try.ntmps34
    go_wp2
    go_loopw [7, 8] (fun cv iv wr => ∃ i c : Nat, cv = .int .u8 c ∧ iv = .int .i64 i ∧ s ≤ i ∧ i ≤ 2200 ∧ Hid (c = FP.cy V (m * 2 ^ s) i) ∧ Hid (Blk wr p 52 (wb (mixed V (m * 2 ^ s) i))) ∧ Hid (Fr (fun q => q = p) w wr)) (fun _ iv _ => 2200 - (intOf iv).toNat)
    case atStart => exact ⟨s, 0, rfl, rfl, Nat.le_refl _, by omega, (FP.low_cy V m s).symm, by
      unfold Hid
      rw [mixed_start]
      exact H.out, Fr.refl _ _⟩
    case round =>
      obtain ⟨i, c, rfl, rfl, hi1, hi2, hC, hB, hF⟩ := hrel
      have hi0 : (0 : Int) ≤ (i : Int) := Int.natCast_nonneg _
      have hc0 : (0 : Int) ≤ (c : Int) := Int.natCast_nonneg _
      have hc1 : c ≤ 1 := by rw [hC.out]; exact (FP.cy_eq _ _ _).2
      by_cases hlt : i < 2200
      · have hlt' : (i : Int) < 2200 := by omega
        have hcell : wr.cell? ⟨p, i, none⟩ = some (.int .u8 (FP.dig V i : Nat)) := by
          rw [BAt.cell hB.out hlt]; unfold mixed; rw [if_neg (by omega)]
        have hfz := hB.out.froz i
        have hd1 := FP.dig_lt V i
        have hS := Lib.hid (FP.cy_succ V (m * 2 ^ s) i)
        have hA := Lib.hid (FP.dig_add V (m * 2 ^ s) i)
        rw [← hC.out] at hS hA
        have hNext : Hid (∀ w', Blk w' p 52 ((wb (mixed V (m * 2 ^ s) i)).setIfInBounds i (.int .u8 (FP.dig (V + m * 2 ^ s) i : Nat))) → Blk w' p 52 (wb (mixed V (m * 2 ^ s) (i + 1)))) := fun w' h => by
          rw [wb_set, wb_congr (g := mixed V (m * 2 ^ s) (i + 1)) fun j _ => by
            unfold mixed
            by_cases h1 : j = i
            · rw [if_pos h1, if_pos (by omega), h1]
            · rw [if_neg h1]
              by_cases h2 : j < i
              · rw [if_pos h2, if_pos (by omega)]
              · rw [if_neg h2, if_neg (by omega)]] at h
          exact h
        obtain ⟨k, hk⟩ : ∃ k, k = i - s := ⟨_, rfl⟩
        have hki : (i : Int) - (s : Int) = (k : Int) := by omega
        have hk0 : (0 : Int) ≤ (k : Int) := Int.natCast_nonneg _
  
        by_cases hk53 : k < 53
        · have hk53' : (k : Int) < 53 := by omega
          have hbm : Hid (FP.dig (m * 2 ^ s) i = m / 2 ^ k % 2) := by
            unfold Hid; rw [show i = s + k by omega]; exact FP.dig_up m s k
          rw [hbm.out] at hS hA
          have hand : bits .and .u64 ((m : Int) / 2 ^ k) 1 = ((m / 2 ^ k % 2 : Nat) : Int) := by
            have hand := and1 ((m / 2 ^ k : Nat) : Int) (Int.natCast_nonneg _) (by have := Nat.div_le_self m (2 ^ k); omega)
            have hcast : (m : Int) / 2 ^ k = ((m / 2 ^ k : Nat) : Int) := by rw [Int.natCast_ediv, Int.natCast_pow]; rfl
            rw [hcast, hand]; rfl
          have hb1 := Nat.mod_lt (m / 2 ^ k) (show 0 < 2 by omega)
          generalize m / 2 ^ k % 2 = bm at hS hA hand hb1
          generalize FP.dig V i = d at hcell hd1 hS hA
          have hbm0 : (0 : Int) ≤ (bm : Int) := Int.natCast_nonneg _
          have hd0 : (0 : Int) ≤ (d : Int) := Int.natCast_nonneg _
          obtain ⟨y, hy⟩ : ∃ y, y = d + (c + bm) := ⟨_, rfl⟩
          obtain ⟨c2, hc2⟩ : ∃ c2, c2 = FP.cy V (m * 2 ^ s) (i + 1) := ⟨_, rfl⟩
          obtain ⟨r, hr2⟩ : ∃ r, r = FP.dig (V + m * 2 ^ s) i := ⟨_, rfl⟩
          have hS' := hS.out
          have hA' := hA.out
          rw [← hc2] at hS'
          rw [← hr2] at hA'
          have hyy : (d : Int) + ((c : Int) + (bm : Int)) = (y : Int) := by omega
          have hq : (y : Int) / 2 = (c2 : Int) := by omega
          have hr : (y : Int) % 2 = (r : Int) := by omega
          have hq' : (y : Int).tdiv 2 = (c2 : Int) := by rw [Int.tdiv_eq_ediv_of_nonneg (Int.natCast_nonneg _)]; exact hq
          have hr' : (y : Int).tmod 2 = (r : Int) := by rw [Int.tmod_eq_emod_of_nonneg (Int.natCast_nonneg _)]; exact hr
          have hy0 : (0 : Int) ≤ (y : Int) := Int.natCast_nonneg _
          have hy3 : (y : Int) ≤ 3 := by omega
          have w1 : IntKind.u8.wrap (y : Int) = (y : Int) := by rw [IntKind.wrap_u8]; omega
          have w2 : IntKind.u8.wrap (r : Int) = (r : Int) := by rw [IntKind.wrap_u8]; omega
          have HC2 := Lib.hid hc2
          have HR2 := Lib.hid hr2
          clear hc2 hr2 hS hA hC hS' hA' hy hbm hk
          have hB1 : Hid (∀ v, Blk (wr.setCell ⟨p, i, none⟩ v).drew p 52 ((wb (mixed V (m * 2 ^ s) i)).setIfInBounds i v)) := fun v => hB.out.set i v
          have hF1 : Hid (∀ v, Fr (fun q => q = p) w (wr.setCell ⟨p, i, none⟩ v).drew) := fun v => (hF.out.setCell (Or.inl rfl) _).drew
          go_wp2
          go_region
          have hb1 := hB1.out (.int .u8 y)
          have hf1 := Lib.hid (hF1.out (.int .u8 y))
          generalize (wr.setCell ⟨p, i, none⟩ (.int .u8 y)).drew = w5 at hb1 hf1 ⊢
          have hcell5 : w5.cell? ⟨p, i, none⟩ = some (.int .u8 y) := by
            rw [hb1.cell, wb_set, wb_get _ hlt, if_pos rfl]
          have hfz5 := hb1.froz i
          have hB2 := Lib.hid (hb1.set i (.int .u8 r))
          rw [Array.setIfInBounds_setIfInBounds] at hB2
          clear hcell hfz hB1 hF1 hb1
          go_wp2
          go_region
          have hF2 : Hid (Fr (fun q => q = p) w (w5.setCell ⟨p, i, none⟩ (.int .u8 r)).drew) := (hf1.out.setCell (Or.inl rfl) _).drew
          have hB3 : Hid (Blk (w5.setCell ⟨p, i, none⟩ (.int .u8 r)).drew p 52 ((wb (mixed V (m * 2 ^ s) i)).setIfInBounds i (.int .u8 (FP.dig (V + m * 2 ^ s) i : Nat)))) := by
            rw [← HR2.out]; exact hB2.out
          go_wp2
          go_roundw
          case rel => exact ⟨i + 1, c2, rfl, by go_num, by omega, by omega, HC2.out, hNext.out _ hB3.out, hF2⟩
          case measure => simp only [intOf]; omega
        · have hk53' : ¬ (k : Int) < 53 := by omega
          by_cases hcz : c = 0
          · have hStop := Lib.hid (FP.add_stop (FP.lt_up (m := m) (s := s) (i := i) hm (by omega)) (by rw [← hC.out]; exact hcz))
            subst hcz
            have hBe : Hid (BW wr p (V + m * 2 ^ s)) := by
              have h := hB.out
              rw [wb_congr (g := FP.dig (V + m * 2 ^ s)) fun j hj => by
                unfold mixed
                by_cases h1 : j < i
                · rw [if_pos h1]
                · rw [if_neg h1, hStop.out j (by omega)]] at h
              exact h
            clear hStop hNext hS hA hC hB
            go_wp2
            (try simp only [Exit.inBlock, Exit.then])
            refine bodyPost_ret (results_none rfl _ _ _) rfl ?_
            exact ⟨rfl, by first | exact hBe.out | (have := hBe.out; rwa [Nat.pow_zero, Nat.mul_one] at this), hF.out⟩
          · obtain rfl : c = 1 := by omega
            have hdM : FP.dig (m * 2 ^ s) i = 0 := FP.dig_small (FP.lt_up hm (by omega))
            rw [hdM] at hS hA
            generalize FP.dig V i = d at hcell hd1 hS hA
            have hd0 : (0 : Int) ≤ (d : Int) := Int.natCast_nonneg _
            obtain ⟨y, hy⟩ : ∃ y, y = d + 1 := ⟨_, rfl⟩
            obtain ⟨c2, hc2⟩ : ∃ c2, c2 = FP.cy V (m * 2 ^ s) (i + 1) := ⟨_, rfl⟩
            obtain ⟨r, hr2⟩ : ∃ r, r = FP.dig (V + m * 2 ^ s) i := ⟨_, rfl⟩
            have hS' := hS.out
            have hA' := hA.out
            rw [← hc2] at hS'
            rw [← hr2] at hA'
            have hyy : (d : Int) + 1 = (y : Int) := by omega
            have hq : (y : Int) / 2 = (c2 : Int) := by omega
            have hr : (y : Int) % 2 = (r : Int) := by omega
            have hq' : (y : Int).tdiv 2 = (c2 : Int) := by rw [Int.tdiv_eq_ediv_of_nonneg (Int.natCast_nonneg _)]; exact hq
            have hr' : (y : Int).tmod 2 = (r : Int) := by rw [Int.tmod_eq_emod_of_nonneg (Int.natCast_nonneg _)]; exact hr
            have hy0 : (0 : Int) ≤ (y : Int) := Int.natCast_nonneg _
            have hy3 : (y : Int) ≤ 3 := by omega
            have w1 : IntKind.u8.wrap (y : Int) = (y : Int) := by rw [IntKind.wrap_u8]; omega
            have w2 : IntKind.u8.wrap (r : Int) = (r : Int) := by rw [IntKind.wrap_u8]; omega
            have HC2 := Lib.hid hc2
            have HR2 := Lib.hid hr2
            clear hc2 hr2 hS hA hC hS' hA' hy hcz hk hdM
            have hB1 : Hid (∀ v, Blk (wr.setCell ⟨p, i, none⟩ v).drew p 52 ((wb (mixed V (m * 2 ^ s) i)).setIfInBounds i v)) := fun v => hB.out.set i v
            have hF1 : Hid (∀ v, Fr (fun q => q = p) w (wr.setCell ⟨p, i, none⟩ v).drew) := fun v => (hF.out.setCell (Or.inl rfl) _).drew
            go_wp2
            go_region
            have hb1 := hB1.out (.int .u8 y)
            have hf1 := Lib.hid (hF1.out (.int .u8 y))
            generalize (wr.setCell ⟨p, i, none⟩ (.int .u8 y)).drew = w5 at hb1 hf1 ⊢
            have hcell5 : w5.cell? ⟨p, i, none⟩ = some (.int .u8 y) := by
              rw [hb1.cell, wb_set, wb_get _ hlt, if_pos rfl]
            have hfz5 := hb1.froz i
            have hB2 := Lib.hid (hb1.set i (.int .u8 r))
            rw [Array.setIfInBounds_setIfInBounds] at hB2
            clear hcell hfz hB1 hF1 hb1
            go_wp2
            go_region
            have hF2 : Hid (Fr (fun q => q = p) w (w5.setCell ⟨p, i, none⟩ (.int .u8 r)).drew) := (hf1.out.setCell (Or.inl rfl) _).drew
            have hB3 : Hid (Blk (w5.setCell ⟨p, i, none⟩ (.int .u8 r)).drew p 52 ((wb (mixed V (m * 2 ^ s) i)).setIfInBounds i (.int .u8 (FP.dig (V + m * 2 ^ s) i : Nat)))) := by
              rw [← HR2.out]; exact hB2.out
            go_wp2
            go_roundw
            case rel => exact ⟨i + 1, c2, rfl, by go_num, by omega, by omega, HC2.out, hNext.out _ hB3.out, hF2⟩
            case measure => simp only [intOf]; omega
      · obtain rfl : i = 2200 := by omega
        have hBe : Hid (BW wr p (V + m * 2 ^ s)) := by
          have h := hB.out
          rw [wb_congr (g := FP.dig (V + m * 2 ^ s)) fun j hj => by unfold mixed; rw [if_pos hj]] at h
          exact h
        clear hB hC
        go_wp2
        go_end0
        exact ⟨rfl, by first | exact hBe.out | (have := hBe.out; rwa [Nat.pow_zero, Nat.mul_one] at this), hF.out⟩
end Go.Proofs.Ytdjilhahafkpfaa
