/- A gauge: the number nearest to a sum. -/
import Derived.Test.YtdjilhahafkpfaaLe
import Derived.Test.YtdjilhahafkpfaaLl
import Derived.Test.YtdjilhahafkpfaaLm
import Derived.Test.YtdjilhahafkpfaaFpj
namespace Go.Proofs.Ytdjilhahafkpfaa
open Go.RowKit Go.Deep
set_option maxRecDepth 100000
theorem limb_eq {V t : Nat} (h : V < 4294967296 ^ (t + 1)) : V / 4294967296 ^ t % 4294967296 = V / 4294967296 ^ t :=
  Nat.mod_eq_of_lt (Nat.div_lt_of_lt_mul (by rw [Nat.pow_succ] at h; exact h))
theorem limb_zero {V t : Nat} (h0 : V / 4294967296 ^ t = 0) : V < 4294967296 ^ t := by
  have hp : 0 < 4294967296 ^ t := Nat.pow_pos (by omega)
  rcases Nat.div_eq_zero_iff.1 h0 with h | h
  · omega
  · exact h
theorem shl_or (m b : Nat) (hm : m < 9007199254740992) (hb : b < 2) : bits .or .u64 ((m : Int) * 2) (b : Int) = ((2 * m + b : Nat) : Int) := by
  have h := bits_or_u64_nat (m * 2) b (by omega) (by omega)
  have e : (m * 2 ||| b : Nat) = 2 * m + b := by
    have := Nat.two_pow_add_eq_or_of_lt (i := 1) (b := b) (by omega) m
    rw [show (2 : Nat) ^ 1 = 2 from rfl] at this
    rw [Nat.mul_comm m, ← this]
  rw [e] at h
  rw [← h]; rfl
theorem foi (m : Nat) : floatOfInt .f64 (m : Int) = FP.near m 0 := by
  unfold floatOfInt FloatKind.nearest FloatKind.encode
  have h1 : (decide ((m : Int) < 0)) = false := decide_eq_false (by omega)
  rw [h1, Int.natAbs_natCast]
  exact FP.write_int m
set_option maxHeartbeats 4000000 in
theorem nearest_any (w : World) (V : Nat) (hV : Hid (V < 4294967296 ^ 70)) : Calls Try.prog 32 #[.agg (ints (FP.limbsN 70 V)).toArray] w fun e w' => e = .returned (.float .f64 (FP.rd V 0)) ∧ Below w.heap.size w w' := by
  have HBit := Lib.hid fun w i hi => bit_any w V hV i hi
  have HSome := Lib.hid fun w i hi => some_any w V hV i hi
  have HA := Lib.hid fun j hj => arr_limb (V := V) (j := j) hj hV
  have hlen := arr_len V
  generalize ints (FP.limbsN 70 V) = cs at HBit HSome HA hlen ⊢
  go_enter Try.func32, Try.ntmps32
  go_wp2
  have hB0 : Hid (Blk (w.alloc (.cells cs.toArray 44)) w.heap.size 44 cs.toArray) := heap_alloc_new w _
  have hW0 : Hid (Below w.heap.size w (w.alloc (.cells cs.toArray 44))) := (Below.refl _ _).alloc (Nat.le_refl _) _
  obtain ⟨q, hq⟩ : ∃ q, q = w.heap.size := ⟨_, rfl⟩
  rw [← hq] at hB0 ⊢
  have HQ := Lib.hid hq
  clear hq
  generalize w.alloc (.cells cs.toArray 44) = w0 at hB0 hW0 ⊢
  go_loopw [3] (fun tv wr => ∃ j : Nat, tv = .int .i64 ((j : Int) - 1) ∧ j ≤ 70 ∧ Hid (V < 4294967296 ^ j) ∧ w0 = wr) (fun tv _ => (intOf tv + 1).toNat)
  case atStart => exact ⟨70, rfl, by omega, hV, rfl⟩
  case round =>
    obtain ⟨j, rfl, j1, hVj, rfl⟩ := hrel
    cases j with
    | zero =>
      have hv0 : V = 0 := by have := hVj.out; rw [Nat.pow_zero] at this; omega
      have HE : Hid (FP.rd V 0 = 0) := by unfold Hid; rw [hv0]; exact FP.rd_zero 0
      clear hv0 hVj
      have ez : ((0 : Nat) : Int) - 1 = -1 := rfl
      rw [ez]
      go_wp2
      go_ret
      exact ⟨by rw [HE.out]; rfl, hW0.out⟩
    | succ t =>
      have et : ((t + 1 : Nat) : Int) - 1 = (t : Int) := by omega
      rw [et]
      clear et
      have ht0 : (0 : Int) ≤ (t : Int) := Int.natCast_nonneg _
      have hc : w0.cell? ⟨q, t, none⟩ = some (.int .i64 ((V / 4294967296 ^ t % 4294967296 : Nat) : Int)) := by
        rw [hB0.out.cell]; exact HA.out t (by omega)
      rw [limb_eq hVj.out] at hc
      obtain ⟨l, hl⟩ : ∃ l, V / 4294967296 ^ t = l := ⟨_, rfl⟩
      have hll : l < 4294967296 := by rw [← hl, ← limb_eq hVj.out]; exact Nat.mod_lt _ (by omega)
      rw [hl] at hc
      by_cases h0 : l = 0
      · have hVt : Hid (V < 4294967296 ^ t) := limb_zero (hl.trans h0)
        subst h0
        clear hl hll
        go_wp2
        go_roundw
        case rel => exact ⟨t, by first | rfl | go_num, by omega, hVt, by first | rfl | trivial⟩
        case measure => simp [intOf]
      · have HLog := Lib.hid (FP.top_log hl h0)
        have HVne : Hid (V ≠ 0) := fun h => h0 (by rw [← hl, h, Nat.zero_div])
        have HLen : Hid (∀ w : World, Calls Try.prog 42 #[.int .u64 l] w fun e w' => e = .returned (.int .i64 ((l.log2 + 1 : Nat) : Int)) ∧ w' = w) := fun w => by
          have h := len64_any l w (by omega) (by omega)
          rwa [Int.toNat_natCast, bitLen_log h0 (by omega)] at h
        have hlz : ((l : Int) == 0) = false := by rw [beq_eq_false_iff_ne]; omega
        have hl0 : (0 : Int) ≤ (l : Int) := Int.natCast_nonneg _
        have hg : l.log2 ≤ 31 := by have := (Nat.log2_lt h0 (k := 32)).2 (by omega); omega
        obtain ⟨g, hgd⟩ : ∃ g, l.log2 = g := ⟨_, rfl⟩
        rw [hgd] at HLog HLen hg
        clear hl hVj h0 hgd
        go_wp2_with (first | (go_at_call 42; refine (HLen.out _).mono ?_; rintro e w2 ⟨rfl, hw2⟩; subst hw2))
        generalize hI : 32 * (t : Int) + ((g : Int) + 1) - 1 = I0
        generalize hFr : max (32 * (t : Int) + ((g : Int) + 1) - 53) 0 = F
        obtain ⟨fr, hfr⟩ : ∃ fr : Nat, fr = 32 * t + g - 52 := ⟨_, rfl⟩
        obtain rfl : F = (fr : Int) := by omega
        have hfl : fr + 0 ≤ 2187 := by omega
        have hLm : 32 * t + g ≤ 2239 := by omega
        obtain ⟨L, hL⟩ : ∃ L, L = 32 * t + g := ⟨_, rfl⟩
        have hI2 : I0 = (L : Int) := by omega
        subst hI2
        rw [← hL] at HLog hfr hLm
        clear hI hFr hL
        have hLf : fr ≤ L := by omega
        have hLf2 : L ≤ fr + 52 := by omega
        have HFr : Hid (fr = L - 52) := hfr
        clear hfr
        have HKept : Hid (∀ r, fr ≤ r → V / 2 ^ r < 9007199254740992) := fun r hr => FP.kept (by rw [HLog.out]; omega)
        have HTop : Hid (V / 2 ^ (L + 1) = 0) := Nat.div_eq_of_lt (by have := @FP.lt_two_log V; rwa [HLog.out] at this)
        go_loopw [6, 7] (fun mv iv wr => ∃ r : Nat, r + fr ≤ L + 1 ∧ iv = .int .i64 ((fr : Int) + r - 1) ∧ mv = .int .u64 ((V / 2 ^ (fr + r) : Nat) : Int) ∧ Below w2.heap.size w2 wr) (fun _ iv _ => (intOf iv + 1 - fr).toNat)
        case atStart => exact ⟨L + 1 - fr, by omega, by congr 1; omega, by rw [show fr + (L + 1 - fr) = L + 1 by omega, HTop.out]; rfl, Below.refl _ _⟩
        case round =>
          obtain ⟨r, hr1, rfl, rfl, hBr⟩ := hrel
          cases r with
          | succ s =>
            have hix : (fr : Int) + ((s + 1 : Nat) : Int) - 1 = ((fr + s : Nat) : Int) := by omega
            rw [hix]
            have hge : (fr : Int) ≤ ((fr + s : Nat) : Int) := by omega
            have hmm := HKept.out (fr + (s + 1)) (by omega)
            have HD := Lib.hid (FP.digit V (fr + s))
            have HBt := Lib.hid fun w => HBit.out w (fr + s) (by omega)
            have hb2 := Nat.mod_lt (V / 2 ^ (fr + s)) (show 0 < 2 by omega)
            rw [show fr + (s + 1) = fr + s + 1 by omega] at hmm ⊢
            generalize V / 2 ^ (fr + s) % 2 = b at HD HBt hb2
            generalize V / 2 ^ (fr + s + 1) = m at HD hmm ⊢
            have hor := shl_or m b hmm hb2
            obtain ⟨i, hi⟩ : ∃ i, i = fr + s := ⟨_, rfl⟩
            rw [← hi] at HD HBt hge ⊢
            have hi0 : (0 : Int) ≤ (i : Int) := Int.natCast_nonneg _
            have hil : i ≤ 2239 := by omega
            have hm0 : (0 : Int) ≤ (m : Int) := Int.natCast_nonneg _
            have hld := Lib.hid (range_blk (hB0.out.below hBr hB0.out.lt))
            have HI := Lib.hid hi
            clear hix hi
            go_wp2_with (first | (go_at_call 43; refine (HBt.out _).mono ?_; rintro e w3 ⟨rfl, hb3⟩) | (refine wpl_arr _ rfl rfl q 0 rfl cs hld.out hlen ?_))
            go_roundw
            case rel => exact ⟨s, by omega, by rw [HI.out]; first | rfl | go_num | (congr 1; omega), by rw [← HI.out, HD.out]; first | rfl | (congr 1; omega), below_chain hBr hb3⟩
            case measure => simp [intOf]; omega
          | zero =>
            have hge : ¬ (fr : Int) ≤ (fr : Int) + ((0 : Nat) : Int) - 1 := by omega
            rw [Nat.add_zero]
            have hfr0 : (0 : Int) ≤ (fr : Int) := Int.natCast_nonneg _
            have hml := HKept.out fr (Nat.le_refl _)
            have HRes : Hid (FP.rd V 0 = min (fr * 4503599627370496 + FP.rnd V fr) 9218868437227405312) := by
              unfold Hid; rw [FP.rd_top HVne.out, HLog.out, HFr.out]
            have hr1 : V / 2 ^ fr ≤ FP.rnd V fr ∧ FP.rnd V fr ≤ V / 2 ^ fr + 1 := by unfold FP.rnd; split <;> omega
            have hlow : 1 ≤ V / 2 ^ fr ∧ (fr = 0 ∨ 4503599627370496 ≤ V / 2 ^ fr) := by
              by_cases hz : fr = 0
              · subst hz
                rw [Nat.pow_zero, Nat.div_one]
                have := HVne.out
                omega
              · have h := FP.kept_low (V := V) HVne.out (by rw [HLog.out]; have := HFr.out; omega)
                rw [HLog.out, ← HFr.out] at h
                omega
            obtain ⟨k, c, hk, hc, hm, hk2⟩ := FP.kc_of (m := FP.rnd V fr) (by omega) (by omega)
            have HLdx : Hid (∀ (w : World) (E : Int), E = (fr : Int) - 1074 → Calls Try.prog 45 #[.float .f64 (floatOfInt .f64 (FP.rnd V fr : Nat)), .int .i64 E] w fun e w' => e = .returned (.float .f64 (FP.rd V 0)) ∧ w = w') := by
              intro w E hE
              subst hE
              rw [foi, HRes.out]
              exact Ldexp_any (FP.rnd V fr) k c fr hk hc hm (by omega) (by rcases hlow.2 with h | h; exact Or.inl h; exact Or.inr (hk2 (by omega))) (by omega) w
            clear hk hm hk2 hlow hr1 hc
            cases fr with
            | zero =>
              rw [FP.rnd_zero] at HLdx
              rw [Nat.pow_zero, Nat.div_one] at hml ⊢
              go_wp2_with (first | (go_at_call 45; refine (HLdx.out _ _ (by omega)).mono ?_; rintro e w5 ⟨rfl, hw5⟩; subst hw5))
              go_ret
              exact ⟨rfl, below_chain hW0.out hBr⟩
            | succ d =>
              have hm0 : (0 : Int) ≤ ((V / 2 ^ (d + 1) : Nat) : Int) := Int.natCast_nonneg _
              have HR := Lib.hid (FP.rnd_succ V d)
              have HBd := Lib.hid fun w => HBit.out w d (by omega)
              have HSd := Lib.hid fun w => HSome.out w d (by omega)
              have hb2 := Nat.mod_lt (V / 2 ^ d) (show 0 < 2 by omega)
              have hand := and1 ((V / 2 ^ (d + 1) : Nat) : Int) hm0 (by omega)
              have hld := Lib.hid (range_blk (hB0.out.below hBr hB0.out.lt))
              have hd0 : (0 : Int) ≤ (d : Int) := Int.natCast_nonneg _
              generalize V / 2 ^ (d + 1) = m at HR hand hml hm0 ⊢
              generalize V / 2 ^ d % 2 = b at HR HBd hb2
              obtain ⟨o, ho⟩ : ∃ o : Nat, m % 2 = o := ⟨_, rfl⟩
              have hand2 : bits .and .u64 (m : Int) 1 = (o : Int) := by rw [hand]; omega
              have ho2 : o < 2 := by omega
              rw [ho] at HR
              clear hand ho hge
              obtain rfl | rfl : b = 0 ∨ b = 1 := by omega
              · rw [HR.out, if_neg (by omega), Nat.add_zero] at HLdx
                clear HR
                go_wp2_with (first | (go_at_call 45; refine (HLdx.out _ _ (by omega)).mono ?_; rintro e w5 ⟨rfl, hw5⟩; subst hw5) | (go_at_call 43; refine (HBd.out _).mono ?_; rintro e w3 ⟨rfl, hb3⟩; have hBr3 := below_chain hBr hb3; have hld3 := Lib.hid (range_blk (hB0.out.below hBr3 hB0.out.lt))) | (refine wpl_arr _ rfl rfl q 0 rfl cs (by first | exact hld.out | exact hld3.out) hlen ?_))
                go_ret
                exact ⟨rfl, below_chain hW0.out hBr3⟩
              · obtain rfl | rfl : o = 0 ∨ o = 1 := by omega
                · by_cases hr : V % 2 ^ d = 0
                  · rw [HR.out, if_neg (by omega), Nat.add_zero] at HLdx
                    rw [decide_eq_false (show ¬ V % 2 ^ d ≠ 0 from fun h => h hr)] at HSd
                    clear HR hr
                    go_wp2_with (first | (go_at_call 45; refine (HLdx.out _ _ (by omega)).mono ?_; rintro e w5 ⟨rfl, hw5⟩; subst hw5) | (go_at_call 43; refine (HBd.out _).mono ?_; rintro e w3 ⟨rfl, hb3⟩; have hBr3 := below_chain hBr hb3; have hld3 := Lib.hid (range_blk (hB0.out.below hBr3 hB0.out.lt))) | (refine wpl_arr _ rfl rfl q 0 rfl cs (by first | exact hld.out | exact hld3.out) hlen ?_) | (go_at_call 44; refine (HSd.out _).mono ?_; rintro e w4 ⟨rfl, hb4⟩; have hBr4 := below_chain hBr3 hb4))
                    go_ret
                    exact ⟨rfl, below_chain hW0.out hBr4⟩
                  · rw [HR.out, if_pos ⟨rfl, Or.inr hr⟩, Int.natCast_add] at HLdx
                    rw [decide_eq_true hr] at HSd
                    clear HR hr
                    go_wp2_with (first | (go_at_call 45; refine (HLdx.out _ _ (by omega)).mono ?_; rintro e w5 ⟨rfl, hw5⟩; subst hw5) | (go_at_call 43; refine (HBd.out _).mono ?_; rintro e w3 ⟨rfl, hb3⟩; have hBr3 := below_chain hBr hb3; have hld3 := Lib.hid (range_blk (hB0.out.below hBr3 hB0.out.lt))) | (refine wpl_arr _ rfl rfl q 0 rfl cs (by first | exact hld.out | exact hld3.out) hlen ?_) | (go_at_call 44; refine (HSd.out _).mono ?_; rintro e w4 ⟨rfl, hb4⟩; have hBr4 := below_chain hBr3 hb4))
                    go_ret
                    exact ⟨rfl, below_chain hW0.out hBr4⟩
                · rw [HR.out, if_pos ⟨rfl, Or.inl rfl⟩, Int.natCast_add] at HLdx
                  clear HR
                  go_wp2_with (first | (go_at_call 45; refine (HLdx.out _ _ (by omega)).mono ?_; rintro e w5 ⟨rfl, hw5⟩; subst hw5) | (go_at_call 43; refine (HBd.out _).mono ?_; rintro e w3 ⟨rfl, hb3⟩; have hBr3 := below_chain hBr hb3; have hld3 := Lib.hid (range_blk (hB0.out.below hBr3 hB0.out.lt))) | (refine wpl_arr _ rfl rfl q 0 rfl cs (by first | exact hld.out | exact hld3.out) hlen ?_))
                  go_ret
                  exact ⟨rfl, below_chain hW0.out hBr3⟩
end Go.Proofs.Ytdjilhahafkpfaa
