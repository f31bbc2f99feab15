/- The reference's rounding of a magnitude. -/
import Derived.Test.YtdjilhahafkpfaaLz
namespace Go.Proofs.Ytdjilhahafkpfaa
open Go.RowKit Go.Deep
set_option maxRecDepth 100000
theorem tail_cases {V fr R : Nat} (hRes : FP.rd V 0 = min (fr * 4503599627370496 + R) 9218868437227405312) (hR : R ≤ 9007199254740992) (hlow : fr = 0 ∨ 4503599627370496 ≤ R) :
    (R = 9007199254740992 ∧ 2046 < fr + 2 ∧ FP.rd V 0 = 9218868437227405312) ∨ (R = 9007199254740992 ∧ fr + 2 ≤ 2046 ∧ FP.rd V 0 = (fr + 2) * 4503599627370496) ∨ (R < 4503599627370496 ∧ fr = 0 ∧ FP.rd V 0 = R) ∨
    ((4503599627370496 ≤ R ∧ R < 9007199254740992) ∧ 2046 < fr + 1 ∧ FP.rd V 0 = 9218868437227405312) ∨ ((4503599627370496 ≤ R ∧ R < 9007199254740992) ∧ fr + 1 ≤ 2046 ∧ FP.rd V 0 = fr * 4503599627370496 + R) := by
  omega
theorem ret_congr {a b : Nat} (h : a = b) : Ending.returned (.float .f64 a) = Ending.returned (.float .f64 b) := by rw [h]
theorem BW.now {w w' : World} {p V : Nat} (h : BW w p V) (e : w = w') : BW w' p V := e ▸ h
theorem dig_top {V t : Nat} (h : V < 2 ^ (t + 1)) : FP.dig V t = V / 2 ^ t ∧ V / 2 ^ t < 2 := by
  have h2 : V / 2 ^ t < 2 := by rw [Nat.div_lt_iff_lt_mul (Nat.two_pow_pos t)]; rw [Nat.pow_succ] at h; omega
  unfold FP.dig
  exact ⟨Nat.mod_eq_of_lt h2, h2⟩
theorem lt_of_div {V t : Nat} (h : V / 2 ^ t = 0) : V < 2 ^ t := by
  have := Nat.two_pow_pos t
  rcases Nat.div_eq_zero_iff.1 h with h | h <;> omega
theorem log_top {V t : Nat} (h : V < 2 ^ (t + 1)) (h1 : V / 2 ^ t ≠ 0) : V.log2 = t ∧ V ≠ 0 := by
  have hv : V ≠ 0 := fun e => h1 (by rw [e, Nat.zero_div])
  have h2 : 2 ^ t ≤ V := by
    apply Classical.byContradiction
    intro hn
    exact h1 (Nat.div_eq_of_lt (by omega))
  have h3 := (Nat.log2_lt hv).2 h
  have h4 := (Nat.le_log2 hv).2 h2
  exact ⟨by omega, hv⟩
theorem more_zero (V o : Nat) : decide (o = 1 ∨ V % 2 ^ 0 ≠ 0) = ((o : Int) == 1) := by
  rw [Nat.pow_zero, Nat.mod_one]
  by_cases h : o = 1
  · subst h; rfl
  · rw [decide_eq_false (by omega)]; symm; rw [beq_eq_false_iff_ne]; omega
theorem more_step (V o i : Nat) : decide (o = 1 ∨ V % 2 ^ (i + 1) ≠ 0) = (decide (o = 1 ∨ V % 2 ^ i ≠ 0) || decide (V / 2 ^ i % 2 = 1)) := by
  have h1 : V % 2 ^ (i + 1) = V % 2 ^ i + 2 ^ i * (V / 2 ^ i % 2) := by rw [Nat.pow_succ, Nat.mod_mul]
  have h2 := Nat.two_pow_pos i
  have h3 := Nat.mod_lt (V / 2 ^ i) (show 0 < 2 by omega)
  rw [h1]
  generalize V / 2 ^ i % 2 = x at h3
  obtain rfl | rfl : x = 0 ∨ x = 1 := by omega
  · simp
  · simp <;> omega
set_option maxHeartbeats 8000000 in
theorem rounded_any (w : World) (p V : Nat) (h : BW w p V) (hV : Hid (V < 2 ^ WN)) :
    Calls Try.prog 36 #[.pointer (some ⟨p, 0, none⟩)] w fun e w' => e = .returned (.float .f64 (FP.rd V 0)) ∧ Below w.heap.size w w' := by
  have H := Lib.hid h
  have HV : Hid (V < 2 ^ 2200) := by have := hV.out; rwa [wn] at this
  have hfb := run_frombits
  clear h hV
  go_enter Try.func36, Try.ntmps36
  go_wp2
  go_loopw [3] (fun tv wr => ∃ j : Nat, tv = .int .i64 ((j : Int) - 1) ∧ j ≤ 2200 ∧ Hid (V < 2 ^ j) ∧ w = wr) (fun tv _ => (intOf tv + 1).toNat)
  case atStart => exact ⟨2200, rfl, by omega, HV, rfl⟩
  case round =>
    obtain ⟨j, rfl, j1, hVj, rfl⟩ := hrel
    clear HV
    cases j with
    | zero =>
      have hv0 : V = 0 := by have := hVj.out; rw [Nat.pow_zero] at this; omega
      have HE : Hid (FP.rd V 0 = 0) := by unfold Hid; rw [hv0]; exact FP.rd_zero 0
      clear hv0 hVj
      have ez : ((0 : Nat) : Int) - 1 = -1 := rfl
      rw [ez]
      go_wp2
      have hmx : max (-53 : Int) 0 = 0 := by decide
      rw [hmx]
      go_loopw [5, 6] (fun mv iv wr => mv = .int .u64 0 ∧ iv = .int .i64 (-1) ∧ w = wr) (fun _ iv _ => 0)
      case atStart => exact ⟨rfl, rfl, rfl⟩
      case round =>
        obtain ⟨rfl, rfl, rfl⟩ := hrel
        go_wp2
        go_ret
        exact ⟨by rw [HE.out]; rfl, Below.refl _ _⟩
    | succ t =>
      have et : ((t + 1 : Nat) : Int) - 1 = (t : Int) := by omega
      rw [et]
      clear et
      have ht0 : (0 : Int) ≤ (t : Int) := Int.natCast_nonneg _
      have ht1 : (t : Int) < 2200 := by omega
      have hc := H.out.cell (i := t) (by omega)
      obtain ⟨hd1, hd2⟩ := dig_top hVj.out
      rw [hd1] at hc
      obtain ⟨l, hl⟩ : ∃ l, V / 2 ^ t = l := ⟨_, rfl⟩
      rw [hl] at hc hd2
      by_cases h0 : l = 0
      · have hVt : Hid (V < 2 ^ t) := lt_of_div (hl.trans h0)
        subst h0
        clear hl hd1 hd2
        go_wp2
        go_roundw
        case rel => exact ⟨t, by first | rfl | go_num, by omega, hVt, by first | rfl | trivial⟩
        case measure => simp [intOf]
      · obtain rfl : l = 1 := by omega
        obtain ⟨hlog, hvn⟩ := log_top hVj.out (by rw [hl]; omega)
        have HLog := Lib.hid hlog
        have HVne := Lib.hid hvn
        clear hl hd1 hd2 h0 hlog hvn hVj
        go_wp2
        generalize hFr : max ((t : Int) - 52) 0 = F
        obtain ⟨fr, hfr⟩ : ∃ fr : Nat, fr = t - 52 := ⟨_, rfl⟩
        obtain rfl : F = (fr : Int) := by omega
        clear hFr
        have hLf : fr ≤ t := by omega
        have hLf2 : t ≤ fr + 52 := by omega
        have HFr : Hid (fr = t - 52) := hfr
        clear hfr
        have HKept : Hid (∀ r, fr ≤ r → V / 2 ^ r < 9007199254740992) := fun r hr => FP.kept (by rw [HLog.out]; have := HFr.out; omega)
        have HTop : Hid (V / 2 ^ (t + 1) = 0) := Nat.div_eq_of_lt (by have := @FP.lt_two_log V; rwa [HLog.out] at this)
        go_loopw [5, 6] (fun mv iv wr => ∃ r : Nat, r + fr ≤ t + 1 ∧ iv = .int .i64 ((fr : Int) + r - 1) ∧ mv = .int .u64 ((V / 2 ^ (fr + r) : Nat) : Int) ∧ w = wr) (fun _ iv _ => (intOf iv + 1 - fr).toNat)
        case atStart => exact ⟨t + 1 - fr, by omega, by congr 1; omega, by rw [show fr + (t + 1 - fr) = t + 1 by omega, HTop.out]; rfl, rfl⟩
        case round =>
          obtain ⟨r, hr1, rfl, rfl, rfl⟩ := hrel
          cases r with
          | succ s =>
            have hix : (fr : Int) + ((s + 1 : Nat) : Int) - 1 = ((fr + s : Nat) : Int) := by omega
            rw [hix]
            have hge : (fr : Int) ≤ ((fr + s : Nat) : Int) := by omega
            have hmm := HKept.out (fr + (s + 1)) (by omega)
            have HD := Lib.hid (FP.digit V (fr + s))
            have hb2 := Nat.mod_lt (V / 2 ^ (fr + s)) (show 0 < 2 by omega)
            have hcc : w.cell? ⟨p, fr + s, none⟩ = some (.int .u8 (V / 2 ^ (fr + s) % 2 : Nat)) := H.out.cell (i := fr + s) (by omega)
            rw [show fr + (s + 1) = fr + s + 1 by omega] at hmm ⊢
            generalize V / 2 ^ (fr + s) % 2 = b at HD hcc hb2
            generalize V / 2 ^ (fr + s + 1) = m at HD hmm ⊢
            obtain ⟨i, hi⟩ : ∃ i, i = fr + s := ⟨_, rfl⟩
            rw [← hi] at HD hcc hge ⊢
            have hi0 : (0 : Int) ≤ (i : Int) := Int.natCast_nonneg _
            have hil : (i : Int) < 2200 := by omega
            have hm0 : (0 : Int) ≤ (m : Int) := Int.natCast_nonneg _
            have hb0 : (0 : Int) ≤ (b : Int) := Int.natCast_nonneg _
            have HI := Lib.hid hi
            clear hix hi
            go_wp2
            go_roundw
            case rel => exact ⟨s, by omega, by rw [HI.out]; first | rfl | go_num | (congr 1; omega), by rw [← HI.out, HD.out]; first | rfl | (congr 1; omega), by first | rfl | trivial⟩
            case measure => simp [intOf]; omega
          | zero =>
            have e00 : (fr : Int) + ((0 : Nat) : Int) - 1 = (fr : Int) - 1 := by omega
            rw [e00, Nat.add_zero]
            clear e00
            have hge : ¬ (fr : Int) ≤ (fr : Int) - 1 := by omega
            have hfr0 : (0 : Int) ≤ (fr : Int) := Int.natCast_nonneg _
            have hml := HKept.out fr (Nat.le_refl _)
            have HRes : Hid (FP.rd V 0 = min (fr * 4503599627370496 + FP.rnd V fr) 9218868437227405312) := by
              unfold Hid; rw [FP.rd_top HVne.out, HLog.out, HFr.out]
            have hr1 : V / 2 ^ fr ≤ FP.rnd V fr ∧ FP.rnd V fr ≤ V / 2 ^ fr + 1 := by unfold FP.rnd; split <;> omega
            have hlow : fr = 0 ∨ 4503599627370496 ≤ FP.rnd V fr := by
              by_cases hz : fr = 0
              · exact Or.inl hz
              · have h := FP.kept_low (V := V) HVne.out (by rw [HLog.out]; have := HFr.out; omega)
                rw [HLog.out, ← HFr.out] at h
                omega
            have HT := Lib.hid (tail_cases HRes.out (by omega) hlow)
            clear HRes hlow hr1 HTop HKept
            by_cases hz : fr = 0
            · subst hz
              rw [FP.rnd_zero] at HT
              rw [Nat.pow_zero, Nat.div_one] at hml ⊢
              clear HLog HVne HFr
              have hV0 : (0 : Int) ≤ (V : Int) := Int.natCast_nonneg _
              have HT2 := HT.out
              clear HT
              rcases HT2 with ⟨t1, t2, t3⟩ | ⟨t1, t2, t3⟩ | ⟨t1, t2, t3⟩ | ⟨⟨t0, t1⟩, t2, t3⟩ | ⟨⟨t0, t1⟩, t2, t3⟩
              · exfalso; omega
              · exfalso; omega
              · have hq : ((V : Int) == 9007199254740992) = false := by rw [beq_eq_false_iff_ne]; omega
                have hq2 : decide ((V : Int) < 4503599627370496) = true := decide_eq_true (by omega)
                have HRes := Lib.hid t3
                have HT1 := Lib.hid (And.intro hml t1)
                clear t3 t1 t2 hml
                repeat (first | (go_at_call 31; refine (inf_up _ (by omega) _).mono ?_; rintro e w' ⟨rfl, rfl⟩; simp only []) | go_values | go_skip | go_guarded | go_step | go_upon | go_back | (go_values <;> (try go_simp)))
                go_ret
                refine ⟨?_, Below.refl _ _⟩
                rw [HRes.out]
                refine ret_congr ?_
                have h1' := HT1.out
                omega
              · exfalso; omega
              · have t2' : (0 : Int) + 1 ≤ (2046 : Int) := by omega
                have hq : ((V : Int) == 9007199254740992) = false := by rw [beq_eq_false_iff_ne]; omega
                have hq2 : ((V : Int) < 4503599627370496) = False := eq_false (by omega)
                have hq3 : (V : Int) < 9007199254740992 := by omega
                have HRes := Lib.hid t3
                have HT1 := Lib.hid (And.intro hml (And.intro t0 t2))
                clear t3 t0 t1 t2 hml
                repeat (first | (go_at_call 31; refine (inf_up _ (by omega) _).mono ?_; rintro e w' ⟨rfl, rfl⟩; simp only []) | go_values | go_skip | go_guarded | go_step | go_upon | go_back | (go_values <;> (try go_simp)))
                go_ret
                refine ⟨?_, Below.refl _ _⟩
                rw [HRes.out]
                refine ret_congr ?_
                have h1' := HT1.out
                omega
            · obtain ⟨d, hd⟩ : ∃ d, fr = d + 1 := ⟨fr - 1, by omega⟩
              have hm0 : (0 : Int) ≤ ((V / 2 ^ fr : Nat) : Int) := Int.natCast_nonneg _
              have HR : Hid (FP.rnd V fr = V / 2 ^ fr + (if V / 2 ^ d % 2 = 1 ∧ (V / 2 ^ fr % 2 = 1 ∨ V % 2 ^ d ≠ 0) then 1 else 0)) := by
                unfold Hid; rw [hd]; exact FP.rnd_succ V d
              have hcd : w.cell? ⟨p, d, none⟩ = some (.int .u8 (V / 2 ^ d % 2 : Nat)) := H.out.cell (i := d) (by omega)
              have hb2 := Nat.mod_lt (V / 2 ^ d) (show 0 < 2 by omega)
              have hd0 : (0 : Int) ≤ (d : Int) := Int.natCast_nonneg _
              have hdt : (d : Int) < (t : Int) := by omega
              have esub : (fr : Int) - 1 = (d : Int) := by omega
              have hfp : (0 : Int) < (fr : Int) := by omega
              rw [esub] at hge ⊢
              have hft : (fr : Int) ≤ 2200 := by omega
              have HD0 := Lib.hid (And.intro hd (And.intro hz (And.intro hLf hLf2)))
              clear hd hz hLf hLf2
              generalize V / 2 ^ fr = m at HR hml hm0 ⊢
              generalize V / 2 ^ d % 2 = b at HR hcd hb2
              obtain ⟨o, ho⟩ : ∃ o : Nat, m % 2 = o := ⟨_, rfl⟩
              have ho' : (m : Int) % 2 = (o : Int) := by omega
              have ho2 : o < 2 := by omega
              rw [ho] at HR
              clear ho HLog HVne HFr
              generalize FP.rnd V fr = R at HT HR
              obtain rfl | rfl : b = 0 ∨ b = 1 := by omega
              · have hRm : R = m := by rw [HR.out, if_neg (by omega), Nat.add_zero]
                subst hRm
                clear HR ho' ho2
                iterate 64 (first | go_values | go_skip | go_guarded | go_step | go_upon | (go_values <;> (try go_simp)))
                have HT2 := HT.out
                clear HT
                rcases HT2 with ⟨t1, t2, t3⟩ | ⟨t1, t2, t3⟩ | ⟨t1, t2, t3⟩ | ⟨⟨t0, t1⟩, t2, t3⟩ | ⟨⟨t0, t1⟩, t2, t3⟩
                · exfalso; omega
                · exfalso; omega
                · exfalso; omega
                · obtain ⟨f, hf⟩ : ∃ f : Nat, f = fr + 1 := ⟨_, rfl⟩
                  have e1 : (fr : Int) + 1 = (f : Int) := by omega
                  have t2' : (2046 : Int) < (f : Int) := by omega
                  have hq : ((R : Int) == 9007199254740992) = false := by rw [beq_eq_false_iff_ne]; omega
                  have hq2 : ((R : Int) < 4503599627370496) = False := eq_false (by omega)
                  have hf1 : (f : Int) ≤ 2200 := by omega
                  have HRes := Lib.hid t3
                  have HT1 := Lib.hid (And.intro hml (And.intro t0 t2))
                  clear t3 t0 t1 t2 hml hf
                  repeat (first | (go_at_call 31; refine (inf_up _ (by omega) _).mono ?_; rintro e w' ⟨rfl, rfl⟩; simp only []) | go_values | go_skip | go_guarded | go_step | go_upon | go_back | (go_values <;> (try go_simp)))
                  go_ret
                  refine ⟨?_, Below.refl _ _⟩
                  rw [HRes.out]
                  refine ret_congr ?_
                  have h1' := HT1.out
                  omega
                · have hq : ((R : Int) == 9007199254740992) = false := by rw [beq_eq_false_iff_ne]; omega
                  have hq2 : ((R : Int) < 4503599627370496) = False := eq_false (by omega)
                  have hR0 : (0 : Int) ≤ (R : Int) := Int.natCast_nonneg _
                  obtain ⟨f, hf⟩ : ∃ f : Nat, f = fr + 1 := ⟨_, rfl⟩
                  obtain ⟨g, hg⟩ : ∃ g : Nat, g = f * 4503599627370496 := ⟨_, rfl⟩
                  obtain ⟨hh, hhd⟩ : ∃ hh : Nat, hh = g + R := ⟨_, rfl⟩
                  obtain ⟨z, hz⟩ : ∃ z : Nat, z = hh - 4503599627370496 := ⟨_, rfl⟩
                  have e1 : (fr : Int) + 1 = (f : Int) := by omega
                  have e2 : (f : Int) * 4503599627370496 = (g : Int) := by omega
                  have e3 : (g : Int) + (R : Int) = (hh : Int) := by omega
                  have e4 : (hh : Int) - 4503599627370496 = (z : Int) := by omega
                  have hf1 : (f : Int) ≤ 2046 := by omega
                  have hf0 : (0 : Int) ≤ (f : Int) := Int.natCast_nonneg _
                  have hg1 : (g : Int) ≤ 9214364837600034816 := by omega
                  have hg0 : (0 : Int) ≤ (g : Int) := Int.natCast_nonneg _
                  have hh1 : (hh : Int) ≤ 9223372036854775808 := by omega
                  have hh0 : (4503599627370496 : Int) ≤ (hh : Int) := by omega
                  have hz0 : (0 : Int) ≤ (z : Int) := Int.natCast_nonneg _
                  have hz1 : (z : Int) < 9223372036854775808 := by omega
                  have w1 : IntKind.u64.wrap (g : Int) = (g : Int) := by rw [IntKind.wrap_u64]; omega
                  have w2 : IntKind.u64.wrap (hh : Int) = (hh : Int) := by rw [IntKind.wrap_u64]; omega
                  have w3 : IntKind.u64.wrap (z : Int) = (z : Int) := by rw [IntKind.wrap_u64]; omega
                  have HRes : Hid (FP.rd V 0 = z) := t3.trans (by omega)
                  have HT1 := Lib.hid (And.intro hml (And.intro t0 t2))
                  clear t3 t0 t1 t2 hml hf hg hhd hz hg1 hh1 hh0 hz1
                  repeat (first | (go_at_call 31; refine (inf_up _ (by omega) _).mono ?_; rintro e w' ⟨rfl, rfl⟩; simp only []) | go_values | go_skip | go_guarded | go_step | go_upon | go_back | (go_values <;> (try go_simp)))
                  go_ret
                  refine ⟨?_, Below.refl _ _⟩
                  rw [HRes.out]
                  refine ret_congr ?_
                  have h1' := HT1.out
                  omega
              · have HD1 : d < t := by omega
                have HD2 := Lib.hid HD1
                clear HD1
                go_wp2
                go_loopw [7, 8] (fun mv iv wr => ∃ i : Nat, i ≤ d ∧ mv = .bool (decide (o = 1 ∨ V % 2 ^ i ≠ 0)) ∧ iv = .int .i64 (i : Int) ∧ w = wr) (fun _ iv _ => ((d : Int) - intOf iv).toNat)
                case atStart => exact ⟨0, by omega, by rw [more_zero], rfl, rfl⟩
                case round =>
                  obtain ⟨i, hi, rfl, rfl, rfl⟩ := hrel
                  have HS := Lib.hid (more_step V o i)
                  have hi0 : (0 : Int) ≤ (i : Int) := Int.natCast_nonneg _
                  by_cases hid : i = d
                  · subst hid
                    clear HS
                    by_cases hmore : o = 1 ∨ V % 2 ^ i ≠ 0
                    · rw [decide_eq_true hmore]
                      have hRm : R = m + 1 := by rw [HR.out, if_pos ⟨trivial, hmore⟩]
                      have eR : (m : Int) + 1 = (R : Int) := by omega
                      have wR : IntKind.u64.wrap (R : Int) = (R : Int) := by rw [IntKind.wrap_u64]; omega
                      have hR0 : (0 : Int) ≤ (R : Int) := Int.natCast_nonneg _
                      have HM := Lib.hid (And.intro hmore hRm)
                      clear HR ho' ho2 hmore hRm
                      have HT2 := HT.out
                      clear HT
                      rcases HT2 with ⟨t1, t2, t3⟩ | ⟨t1, t2, t3⟩ | ⟨t1, t2, t3⟩ | ⟨⟨t0, t1⟩, t2, t3⟩ | ⟨⟨t0, t1⟩, t2, t3⟩
                      · have t2' : (2046 : Int) < (fr : Int) + 2 := by omega
                        subst t1
                        have HRes := Lib.hid t3
                        have HT1 := Lib.hid (And.intro hml t2)
                        clear t3 t2 hml
                        repeat (first | (go_at_call 31; refine (inf_up _ (by omega) _).mono ?_; rintro e w' ⟨rfl, rfl⟩; simp only []) | go_values | go_skip | go_guarded | go_step | go_upon | go_back | (go_values <;> (try go_simp)))
                        go_ret
                        refine ⟨?_, Below.refl _ _⟩
                        rw [HRes.out]
                        refine ret_congr ?_
                        have h1' := HT1.out
                        omega
                      · have t1e : (R : Int) = 9007199254740992 := by omega
                        obtain ⟨f, hf⟩ : ∃ f : Nat, f = fr + 2 := ⟨_, rfl⟩
                        obtain ⟨g, hg⟩ : ∃ g : Nat, g = f * 4503599627370496 := ⟨_, rfl⟩
                        obtain ⟨hh, hhd⟩ : ∃ hh : Nat, hh = g + 4503599627370496 := ⟨_, rfl⟩
                        have e1 : (fr : Int) + 1 + 1 = (f : Int) := by omega
                        have e1b : (fr : Int) + 2 = (f : Int) := by omega
                        have e2 : (f : Int) * 4503599627370496 = (g : Int) := by omega
                        have e3 : (g : Int) + 4503599627370496 = (hh : Int) := by omega
                        have e4 : (hh : Int) - 4503599627370496 = (g : Int) := by omega
                        have hf1 : (f : Int) ≤ 2046 := by omega
                        have hf0 : (0 : Int) ≤ (f : Int) := Int.natCast_nonneg _
                        have hg1 : (g : Int) ≤ 9214364837600034816 := by omega
                        have hg0 : (0 : Int) ≤ (g : Int) := Int.natCast_nonneg _
                        have hh1 : (hh : Int) ≤ 9223372036854775808 := by omega
                        have hh0 : (4503599627370496 : Int) ≤ (hh : Int) := by omega
                        have w1 : IntKind.u64.wrap (g : Int) = (g : Int) := by rw [IntKind.wrap_u64]; omega
                        have w2 : IntKind.u64.wrap (hh : Int) = (hh : Int) := by rw [IntKind.wrap_u64]; omega
                        have HRes : Hid (FP.rd V 0 = g) := t3.trans (by omega)
                        subst t1
                        have HT1 := Lib.hid (And.intro hml t2)
                        clear t3 t2 hml hf hg hhd t1e hg1 hh1 hh0
                        repeat (first | (go_at_call 31; refine (inf_up _ (by omega) _).mono ?_; rintro e w' ⟨rfl, rfl⟩; simp only []) | go_values | go_skip | go_guarded | go_step | go_upon | go_back | (go_values <;> (try go_simp)))
                        go_ret
                        refine ⟨?_, Below.refl _ _⟩
                        rw [HRes.out]
                        refine ret_congr ?_
                        have h1' := HT1.out
                        omega
                      · exfalso; omega
                      · obtain ⟨f, hf⟩ : ∃ f : Nat, f = fr + 1 := ⟨_, rfl⟩
                        have e1 : (fr : Int) + 1 = (f : Int) := by omega
                        have t2' : (2046 : Int) < (f : Int) := by omega
                        have hq : ((R : Int) == 9007199254740992) = false := by rw [beq_eq_false_iff_ne]; omega
                        have hq2 : ((R : Int) < 4503599627370496) = False := eq_false (by omega)
                        have hf1 : (f : Int) ≤ 2200 := by omega
                        have HRes := Lib.hid t3
                        have HT1 := Lib.hid (And.intro hml (And.intro t0 t2))
                        clear t3 t0 t1 t2 hml hf
                        repeat (first | (go_at_call 31; refine (inf_up _ (by omega) _).mono ?_; rintro e w' ⟨rfl, rfl⟩; simp only []) | go_values | go_skip | go_guarded | go_step | go_upon | go_back | (go_values <;> (try go_simp)))
                        go_ret
                        refine ⟨?_, Below.refl _ _⟩
                        rw [HRes.out]
                        refine ret_congr ?_
                        have h1' := HT1.out
                        omega
                      · have hq : ((R : Int) == 9007199254740992) = false := by rw [beq_eq_false_iff_ne]; omega
                        have hq2 : ((R : Int) < 4503599627370496) = False := eq_false (by omega)
                        have hR0 : (0 : Int) ≤ (R : Int) := Int.natCast_nonneg _
                        obtain ⟨f, hf⟩ : ∃ f : Nat, f = fr + 1 := ⟨_, rfl⟩
                        obtain ⟨g, hg⟩ : ∃ g : Nat, g = f * 4503599627370496 := ⟨_, rfl⟩
                        obtain ⟨hh, hhd⟩ : ∃ hh : Nat, hh = g + R := ⟨_, rfl⟩
                        obtain ⟨z, hz⟩ : ∃ z : Nat, z = hh - 4503599627370496 := ⟨_, rfl⟩
                        have e1 : (fr : Int) + 1 = (f : Int) := by omega
                        have e2 : (f : Int) * 4503599627370496 = (g : Int) := by omega
                        have e3 : (g : Int) + (R : Int) = (hh : Int) := by omega
                        have e4 : (hh : Int) - 4503599627370496 = (z : Int) := by omega
                        have hf1 : (f : Int) ≤ 2046 := by omega
                        have hf0 : (0 : Int) ≤ (f : Int) := Int.natCast_nonneg _
                        have hg1 : (g : Int) ≤ 9214364837600034816 := by omega
                        have hg0 : (0 : Int) ≤ (g : Int) := Int.natCast_nonneg _
                        have hh1 : (hh : Int) ≤ 9223372036854775808 := by omega
                        have hh0 : (4503599627370496 : Int) ≤ (hh : Int) := by omega
                        have hz0 : (0 : Int) ≤ (z : Int) := Int.natCast_nonneg _
                        have hz1 : (z : Int) < 9223372036854775808 := by omega
                        have w1 : IntKind.u64.wrap (g : Int) = (g : Int) := by rw [IntKind.wrap_u64]; omega
                        have w2 : IntKind.u64.wrap (hh : Int) = (hh : Int) := by rw [IntKind.wrap_u64]; omega
                        have w3 : IntKind.u64.wrap (z : Int) = (z : Int) := by rw [IntKind.wrap_u64]; omega
                        have HRes : Hid (FP.rd V 0 = z) := t3.trans (by omega)
                        have HT1 := Lib.hid (And.intro hml (And.intro t0 t2))
                        clear t3 t0 t1 t2 hml hf hg hhd hz hg1 hh1 hh0 hz1
                        repeat (first | (go_at_call 31; refine (inf_up _ (by omega) _).mono ?_; rintro e w' ⟨rfl, rfl⟩; simp only []) | go_values | go_skip | go_guarded | go_step | go_upon | go_back | (go_values <;> (try go_simp)))
                        go_ret
                        refine ⟨?_, Below.refl _ _⟩
                        rw [HRes.out]
                        refine ret_congr ?_
                        have h1' := HT1.out
                        omega
                    · rw [decide_eq_false hmore]
                      have hRm : R = m := by rw [HR.out, if_neg (fun h => hmore h.2), Nat.add_zero]
                      subst hRm
                      have HM := Lib.hid hmore
                      clear HR ho' ho2 hmore
                      have HT2 := HT.out
                      clear HT
                      rcases HT2 with ⟨t1, t2, t3⟩ | ⟨t1, t2, t3⟩ | ⟨t1, t2, t3⟩ | ⟨⟨t0, t1⟩, t2, t3⟩ | ⟨⟨t0, t1⟩, t2, t3⟩
                      · exfalso; omega
                      · exfalso; omega
                      · exfalso; omega
                      · obtain ⟨f, hf⟩ : ∃ f : Nat, f = fr + 1 := ⟨_, rfl⟩
                        have e1 : (fr : Int) + 1 = (f : Int) := by omega
                        have t2' : (2046 : Int) < (f : Int) := by omega
                        have hq : ((R : Int) == 9007199254740992) = false := by rw [beq_eq_false_iff_ne]; omega
                        have hq2 : ((R : Int) < 4503599627370496) = False := eq_false (by omega)
                        have hf1 : (f : Int) ≤ 2200 := by omega
                        have HRes := Lib.hid t3
                        have HT1 := Lib.hid (And.intro hml (And.intro t0 t2))
                        clear t3 t0 t1 t2 hml hf
                        repeat (first | (go_at_call 31; refine (inf_up _ (by omega) _).mono ?_; rintro e w' ⟨rfl, rfl⟩; simp only []) | go_values | go_skip | go_guarded | go_step | go_upon | go_back | (go_values <;> (try go_simp)))
                        go_ret
                        refine ⟨?_, Below.refl _ _⟩
                        rw [HRes.out]
                        refine ret_congr ?_
                        have h1' := HT1.out
                        omega
                      · have hq : ((R : Int) == 9007199254740992) = false := by rw [beq_eq_false_iff_ne]; omega
                        have hq2 : ((R : Int) < 4503599627370496) = False := eq_false (by omega)
                        have hR0 : (0 : Int) ≤ (R : Int) := Int.natCast_nonneg _
                        obtain ⟨f, hf⟩ : ∃ f : Nat, f = fr + 1 := ⟨_, rfl⟩
                        obtain ⟨g, hg⟩ : ∃ g : Nat, g = f * 4503599627370496 := ⟨_, rfl⟩
                        obtain ⟨hh, hhd⟩ : ∃ hh : Nat, hh = g + R := ⟨_, rfl⟩
                        obtain ⟨z, hz⟩ : ∃ z : Nat, z = hh - 4503599627370496 := ⟨_, rfl⟩
                        have e1 : (fr : Int) + 1 = (f : Int) := by omega
                        have e2 : (f : Int) * 4503599627370496 = (g : Int) := by omega
                        have e3 : (g : Int) + (R : Int) = (hh : Int) := by omega
                        have e4 : (hh : Int) - 4503599627370496 = (z : Int) := by omega
                        have hf1 : (f : Int) ≤ 2046 := by omega
                        have hf0 : (0 : Int) ≤ (f : Int) := Int.natCast_nonneg _
                        have hg1 : (g : Int) ≤ 9214364837600034816 := by omega
                        have hg0 : (0 : Int) ≤ (g : Int) := Int.natCast_nonneg _
                        have hh1 : (hh : Int) ≤ 9223372036854775808 := by omega
                        have hh0 : (4503599627370496 : Int) ≤ (hh : Int) := by omega
                        have hz0 : (0 : Int) ≤ (z : Int) := Int.natCast_nonneg _
                        have hz1 : (z : Int) < 9223372036854775808 := by omega
                        have w1 : IntKind.u64.wrap (g : Int) = (g : Int) := by rw [IntKind.wrap_u64]; omega
                        have w2 : IntKind.u64.wrap (hh : Int) = (hh : Int) := by rw [IntKind.wrap_u64]; omega
                        have w3 : IntKind.u64.wrap (z : Int) = (z : Int) := by rw [IntKind.wrap_u64]; omega
                        have HRes : Hid (FP.rd V 0 = z) := t3.trans (by omega)
                        have HT1 := Lib.hid (And.intro hml (And.intro t0 t2))
                        clear t3 t0 t1 t2 hml hf hg hhd hz hg1 hh1 hh0 hz1
                        repeat (first | (go_at_call 31; refine (inf_up _ (by omega) _).mono ?_; rintro e w' ⟨rfl, rfl⟩; simp only []) | go_values | go_skip | go_guarded | go_step | go_upon | go_back | (go_values <;> (try go_simp)))
                        go_ret
                        refine ⟨?_, Below.refl _ _⟩
                        rw [HRes.out]
                        refine ret_congr ?_
                        have h1' := HT1.out
                        omega
                  · have hlt : (i : Int) < (d : Int) := by omega
                    have hil : (i : Int) < 2200 := by omega
                    have hci : w.cell? ⟨p, i, none⟩ = some (.int .u8 (V / 2 ^ i % 2 : Nat)) := H.out.cell (i := i) (by omega)
                    have hx2 := Nat.mod_lt (V / 2 ^ i) (show 0 < 2 by omega)
                    generalize V / 2 ^ i % 2 = x at hci hx2 HS
                    generalize decide (o = 1 ∨ V % 2 ^ i ≠ 0) = bb at HS ⊢
                    have HI := Lib.hid hid
                    clear hid HR
                    cases bb with
                    | true =>
                      go_wp2
                      go_roundw
                      case rel => exact ⟨i + 1, by have := HI.out; omega, by rw [HS.out]; rfl, by first | rfl | go_num, by first | rfl | trivial⟩
                      case measure => simp [intOf]; omega
                    | false =>
                      obtain rfl | rfl : x = 0 ∨ x = 1 := by omega
                      · go_wp2
                        go_roundw
                        case rel => exact ⟨i + 1, by have := HI.out; omega, by rw [HS.out]; rfl, by first | rfl | go_num, by first | rfl | trivial⟩
                        case measure => simp [intOf]; omega
                      · go_wp2
                        go_roundw
                        case rel => exact ⟨i + 1, by have := HI.out; omega, by rw [HS.out]; rfl, by first | rfl | go_num, by first | rfl | trivial⟩
                        case measure => simp [intOf]; omega
end Go.Proofs.Ytdjilhahafkpfaa
