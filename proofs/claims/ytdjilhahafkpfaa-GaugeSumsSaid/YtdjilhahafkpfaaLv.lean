/- A gauge: the first and the last; the reference's Ends. -/
import Derived.Test.YtdjilhahafkpfaaLu
namespace Go.Proofs.Ytdjilhahafkpfaa
open Go.RowKit Go.Deep
set_option maxRecDepth 100000
/-- While nothing was added first and last are no numbers, then they are. -/
structure Ended (G : Gs) : Prop where
  z : G.c + G.h + G.l = 0 → G.mn = 9221120237041090561 ∧ G.mx = 9221120237041090561
  p : 0 < G.c + G.h + G.l → FP.isNaN G.mn = false ∧ FP.isNaN G.mx = false
theorem ended0 : Ended gs0 := ⟨fun _ => ⟨rfl, rfl⟩, fun h => by simp [gs0] at h⟩
theorem nanc : FP.isNaN 9221120237041090561 = true := by decide +kernel
theorem Ended.mn {G : Gs} (h : Ended G) (x : Nat) : mnOf G x = FP.stepMin G.mn x := by
  show FP.stepMin (FP.stepMin 9221120237041090561 G.mn) x = _
  have e : FP.stepMin 9221120237041090561 G.mn = G.mn := by
    unfold FP.stepMin
    by_cases hz : G.c + G.h + G.l = 0
    · rw [(h.z hz).1, FP.ltB_irrefl]; rfl
    · have hn := (h.p (by omega)).1
      have := FP.rank_num_le hn
      rw [if_pos]
      unfold FP.ltB; rw [FP.rank_dnan]; simp; omega
  rw [e]
theorem stepMin_num {m x : Nat} (hx : FP.isNaN x = false) : FP.isNaN (FP.stepMin m x) = false := by
  unfold FP.stepMin
  split
  · exact hx
  · rename_i h
    cases hm : FP.isNaN m with
    | false => rfl
    | true =>
      exfalso; apply h
      have := FP.rank_num_le hx
      unfold FP.ltB; rw [FP.rank_nan hm]; simp; omega
/-- What a number does to the first and the last. -/
theorem addG_ends {G : Gs} (h : Ended G) {x : Nat} (hx : x < 18446744073709551616) (hn : FP.isNaN x = false) :
    (addG G x).mn = (if FP.ltB x G.mn then x else G.mn) ∧ (addG G x).mx = (if (FP.isNaN G.mx || FP.ltB G.mx x) = true then x else G.mx) ∧ Ended (addG G x) ∧ (addG G x).c + (addG G x).h + (addG G x).l = G.c + G.h + G.l + 1 := by
  have hm := h.mn x
  have hcond : (G.c + G.h + G.l = 0) ↔ FP.isNaN G.mx = true := by
    constructor
    · intro e; rw [(h.z e).2]; exact nanc
    · intro e
      by_cases hz : G.c + G.h + G.l = 0
      · exact hz
      · rw [(h.p (by omega)).2] at e; cases e
  have key : ∀ G' : Gs, G'.mn = mnOf G x → G'.mx = (if G.c + G.h + G.l + 1 = 1 ∨ FP.ltB G.mx x = true then x else G.mx) → G'.c + G'.h + G'.l = G.c + G.h + G.l + 1 →
      G'.mn = (if FP.ltB x G.mn then x else G.mn) ∧ G'.mx = (if (FP.isNaN G.mx || FP.ltB G.mx x) = true then x else G.mx) ∧ Ended G' ∧ G'.c + G'.h + G'.l = G.c + G.h + G.l + 1 := by
    intro G' e1 e2 e3
    have e4 : G'.mx = (if (FP.isNaN G.mx || FP.ltB G.mx x) = true then x else G.mx) := by
      rw [e2]
      congr 1
      rw [Bool.or_eq_true, ← hcond]
      apply propext
      constructor
      · rintro (h | h)
        · left; omega
        · right; exact h
      · rintro (h | h)
        · left; omega
        · right; exact h
    refine ⟨by rw [e1, hm]; rfl, e4, ⟨fun e => by omega, fun _ => ⟨by rw [e1, hm]; exact stepMin_num hn, ?_⟩⟩, e3⟩
    rw [e4]
    cases hM : FP.isNaN G.mx with
    | true => simpa using hn
    | false =>
      simp only [Bool.false_or]
      split
      · exact hn
      · exact hM
  rcases kinds x with k | k | k | k
  · rw [hn] at k; cases k
  · have w := lo_word hx k
    rw [addG_lo k]
    exact key _ (by rw [w]; rfl) (by rw [w]; show (if G.c + G.h + (G.l + 1) = 1 ∨ _ then _ else _) = _; rw [show G.c + G.h + (G.l + 1) = G.c + G.h + G.l + 1 by omega]) (by show G.c + G.h + (G.l + 1) = _; omega)
  · have w := hi_word hx k
    rw [addG_hi k]
    exact key _ (by rw [w]; rfl) (by rw [w]; show (if G.c + (G.h + 1) + G.l = 1 ∨ _ then _ else _) = _; rw [show G.c + (G.h + 1) + G.l = G.c + G.h + G.l + 1 by omega]) (by show G.c + (G.h + 1) + G.l = _; omega)
  · rw [addG_fin k]
    exact key _ rfl (by show (if G.c + 1 + G.h + G.l = 1 ∨ _ then _ else _) = _; rw [show G.c + 1 + G.h + G.l = G.c + G.h + G.l + 1 by omega]) (by show G.c + 1 + G.h + G.l = _; omega)
theorem Ended.nan {G : Gs} (h : Ended G) : Ended (addN G) := ⟨h.z, h.p⟩
theorem endedOf : ∀ (zs : List Nat) (G : Gs), Ended G → (∀ x ∈ zs, x < 18446744073709551616) → Ended (zs.foldl addG G)
  | [], G, h, _ => h
  | x :: zs, G, h, hw => by
    rw [List.foldl_cons]
    refine endedOf zs _ ?_ fun y hy => hw y (List.mem_cons_of_mem _ hy)
    cases hn : FP.isNaN x with
    | true => rw [addG_nan hn]; exact h.nan
    | false => exact (addG_ends h (hw x List.mem_cons_self) hn).2.2.1
theorem endedG {zs : List Nat} (hw : ∀ x ∈ zs, x < 18446744073709551616) : Ended (gsOf zs) := endedOf zs gs0 ended0 hw
set_option maxHeartbeats 1000000 in
theorem ends_any (w : World) (a : Option Addr) (len cap : Nat) (zs : List Nat) (hI : IsF w a len cap zs) :
    Calls Try.prog 22 #[.slice a len cap] w fun e w' => e = .returned (.tuple #[.float .f64 (gsOf zs).mn, .float .f64 (gsOf zs).mx]) ∧ ∃ n, w' = w.drewN n := by
  obtain rfl := hI.hlen
  have hcap := hI.hcap
  have hmax := hI.hmax
  have HI := Lib.hid hI
  have HW := Lib.hid hI.wf
  clear hI
  unfold maxLen at hmax
  go_enter Try.func22, Try.ntmps22
  go_wp2_with (go_at_call 25; refine (nan_any _).mono ?_; rintro e w' ⟨rfl, rfl⟩)
  go_loopw [4, 5, 6] (fun fv lv iv wr => ∃ i : Nat, ∃ fx lx : Nat, iv = .int .i64 i ∧ i ≤ zs.length ∧ fv = .float .f64 fx ∧ lv = .float .f64 lx ∧ Hid (fx = (gsOf (zs.take i)).mn ∧ lx = (gsOf (zs.take i)).mx) ∧ ∃ n, wr = w.drewN n) (fun _ _ iv _ => zs.length - (intOf iv).toNat)
  case atStart => exact ⟨0, _, _, rfl, by omega, rfl, rfl, ⟨rfl, rfl⟩, 0, rfl⟩
  case round =>
    obtain ⟨i, fx, lx, rfl, i1, rfl, rfl, HE, nd, rfl⟩ := hrel
    have hi0 : (0 : Int) ≤ (i : Int) := Int.natCast_nonneg _
    by_cases hlt : i < zs.length
    · have hlt' : (i : Int) < (zs.length : Int) := by omega
      obtain ⟨b, off, rfl, hc⟩ := HI.out.one (Below.refl _ _) hlt
      have hwt : ∀ x ∈ zs.take i, x < 18446744073709551616 := fun x hx => HW.out x (List.mem_of_mem_take hx)
      have hEd := endedG hwt
      have hHd := heldOf hwt
      have hx : zs.getD i 0 < 18446744073709551616 := FP.getD_lt HW.out i
      have HS : Hid (gsOf (zs.take (i + 1)) = addG (gsOf (zs.take i)) (zs.getD i 0)) := by unfold Hid; rw [take_snocN hlt, gsOf_snoc]
      have hf : fx < 18446744073709551616 := by rw [HE.out.1]; exact hHd.mn
      have hl : lx < 18446744073709551616 := by rw [HE.out.2]; exact hHd.mx
      have HAd := Lib.hid fun hn => addG_ends hEd hx hn
      rw [← HE.out.1, ← HE.out.2] at HAd
      generalize zs.getD i 0 = x at hc hx HS HAd
      have HL1 := Lib.hid fun w => refLess_any x fx w hx hf
      have HL2 := Lib.hid fun w => refLess_any lx x w hl hx
      cases hn : FP.isNaN x with
      | true =>
        have hne := nan_ne hn
        have HE2 : Hid (fx = (gsOf (zs.take (i + 1))).mn ∧ lx = (gsOf (zs.take (i + 1))).mx) := by unfold Hid; rw [HS.out, addG_nan hn]; exact HE.out
        clear HL1 HL2 HAd hn hEd hHd hwt hx hf hl
        go_wp2
        go_quiet (fail)
        go_wp2
        go_roundw
        case rel => exact ⟨i + 1, fx, lx, by go_num, by omega, rfl, rfl, HE2, nd + nq, by simp [World.drewN]⟩
        case measure => simp only [intOf]; omega
      | false =>
        have hne := nan_ne hn
        obtain ⟨e1, e2, -, -⟩ := HAd.out hn
        rw [← HS.out] at e1 e2
        have hln := nan_ne (b := lx) rfl
        clear hn hEd hHd hwt hx hf hl HAd
        have E1 := Lib.hid e1
        have E2 := Lib.hid e2
        clear e1 e2
        generalize FP.ltB x fx = b1 at HL1 E1
        generalize FP.ltB lx x = b2 at HL2 E2
        generalize FP.isNaN lx = b3 at hln E2
        cases b1 <;> cases b3 <;> cases b2
        all_goals
          go_wp2
          go_quiet (fail)
          go_wp2_with (go_at_call 39; first | (with_reducible refine (HL1.out _).mono ?_; rintro e w' ⟨rfl, rfl⟩) | (with_reducible refine (HL2.out _).mono ?_; rintro e w' ⟨rfl, rfl⟩))
          go_roundw
          case rel => exact ⟨i + 1, _, _, by go_num, by omega, rfl, rfl, ⟨E1.out.symm, E2.out.symm⟩, nd + nq, by simp [World.drewN]⟩
          case measure => simp only [intOf]; omega
    · obtain rfl : i = zs.length := by omega
      rw [List.take_length] at HE
      go_wp2
      go_ret2
      exact ⟨by rw [← HE.out.1, ← HE.out.2]; rfl, nd, rfl⟩
end Go.Proofs.Ytdjilhahafkpfaa
