/- HeatPlays: for every half and every list of acts the law returns true. -/
import Derived.Test.YtfkbdijgdhddaaaHo
import Derived.Test.YtfkbdijgdhddaaaHc
namespace Go.Proofs.Ytfkbdijgdhddaaa.heatPlays
open Go.ChangeShapes Go.WideShapes Go.ChangeAt Go.RowKit
set_option maxRecDepth 100000
theorem walk_bad (W : World) (hf : Int) (h : hf < 1 ∨ 1000 < hf) (a : Option Addr) (len cap : Nat) :
    Calls Try.prog 8 #[.int .i64 hf, .slice a len cap] W fun e w' => e = .returned (.bool true) ∧ Below W.heap.size W w' := by
  have HN := Lib.hid (new_bad hf h)
  rcases h with h | h
  all_goals
    go_enter Try.func8, Try.ntmps8
    go_wp2_with (first | (go_at_call 19; refine (HN.out _).mono ?_; rintro e w' ⟨rfl, rfl⟩) | (go_at_call 13; refine (awake_any _).mono ?_; rintro e w' ⟨rfl, hBz⟩))
    go_ret
    exact ⟨rfl, hBz⟩
set_option maxHeartbeats 4000000 in
theorem walk_good (W : World) (hf : Int) (b1 : 1 ≤ hf) (b2 : hf ≤ 1000) (a : Option Addr) (len cap : Nat) (zs : List (Int × Int × Nat)) (hI : IsA W a len cap zs) :
    Calls Try.prog 8 #[.int .i64 hf, .slice a len cap] W fun e w' => e = .returned (.bool true) ∧ Below W.heap.size W w' := by
  have HI := Lib.hid hI
  have hmax := hI.hmax
  have hcap := hI.hcap
  have Hlen := Lib.hid hI.hlen
  clear hI
  unfold maxLen at hmax
  go_enter Try.func8, Try.ntmps8
  go_wp2_with fail
  refine (new_good hf b1 b2 _).mono ?_
  rintro e w1 ⟨p, q, rfl, h1, hp, hq, hB⟩
  have H1 := Lib.hid h1; clear h1
  have HB0 : Hid (Both2 (w1.alloc (.cells #[.int .i64 hf, .int .i64 0, .slice none 0 0] 51)) W.heap.size p q w1.heap.size hf 0) := both2_start H1.out hp hq hB.size
  have hB0 : Below W.heap.size W (w1.alloc (.cells #[.int .i64 hf, .int .i64 0, .slice none 0 0] 51)) := hB.alloc hB.size _
  have hrn : W.heap.size ≤ w1.heap.size := hB.size
  clear hB H1
  go_wp2_with fail
  generalize w1.alloc (.cells #[.int .i64 hf, .int .i64 0, .slice none 0 0] 51) = w0 at HB0 hB0
  generalize w1.heap.size = r at HB0 hrn
  go_loopw [8] (fun iv wr => ∃ i : Nat, ∃ now : Int, iv = .int .i64 i ∧ i ≤ len ∧ i ≤ 200 ∧ 0 ≤ now ∧ now ≤ i ∧ Hid (Both2 wr W.heap.size p q r hf now) ∧ Below W.heap.size W wr) (fun iv _ => len - (intOf iv).toNat)
  case atStart => exact ⟨0, 0, rfl, by omega, by omega, by omega, by omega, HB0.out, hB0⟩
  case round =>
    obtain ⟨i, now, rfl, i1, i2, n0, n1, HB, hB⟩ := hrel
    clear HB0 hB0
    by_cases hlt : i < len
    · by_cases h200 : (i : Int) < 200
      · obtain ⟨b, off, ha, hb, hc⟩ : ∃ b off, a = some ⟨b, off, none⟩ ∧ b < W.heap.size ∧ ∀ i, i < zs.length → W.cell? ⟨b, off + i * 3, none⟩ = some (.int .i64 (zs.getD i (0, 0, 0)).1) ∧ W.cell? ⟨b, off + i * 3 + 1, none⟩ = some (.int .i64 (zs.getD i (0, 0, 0)).2.1) ∧ W.cell? ⟨b, off + i * 3 + 2, none⟩ = some (.float .f64 (zs.getD i (0, 0, 0)).2.2) := by
          rcases HI.out.at_ with e | h
          · have := Hlen.out; rw [e] at this; simp at this; omega
          · exact h
        subst ha
        obtain ⟨k0, k1, k2⟩ := hc i (by have := Hlen.out; omega)
        have HC := Lib.hid hc; clear hc
        have c0 := (hB.cell (p := ⟨b, off + i * 3, none⟩) hb).trans k0
        have c1 := (hB.cell (p := ⟨b, off + i * 3 + 1, none⟩) hb).trans k1
        have c2 := (hB.cell (p := ⟨b, off + i * 3 + 2, none⟩) hb).trans k2
        clear k0 k1 k2
        generalize (zs.getD i (0, 0, 0)).1 = kd at c0
        generalize (zs.getD i (0, 0, 0)).2.1 = ky at c1
        generalize (zs.getD i (0, 0, 0)).2.2 = x at c2
        obtain ⟨⟨L, v, R, hH, hR, hA, hl, hv, hd⟩, -, -, -, hpr, hqr, hsz⟩ := HB.out
        have HH := Lib.hid hH
        have HR := Lib.hid hR
        have HA := Lib.hid hA
        have Hv := Lib.hid hv
        have HD := Lib.hid hd
        have lp : p < wr.heap.size := World.block_lt_of_cell? wr _ hH.c0
        have lr : r < wr.heap.size := World.block_lt_of_cell? wr _ hR.c0
        have lq := hH.m.lt
        clear hH hR hA hv hd
        have hi0 : (0 : Int) ≤ (i : Int) := Int.natCast_nonneg _
        have hi1 : (i : Int) < (len : Int) := by omega
        have hbw : b < wr.heap.size := by omega
        have hBa := (Below.refl wr.heap.size wr).alloc (Nat.le_refl _) (.cells #[.int .i64 kd, .int .i64 ky, .float .f64 x] 39)
        have HHa := Lib.hid (HH.out.later hBa)
        have HFa := Lib.hid (show Fr (fun _ => False) wr (wr.alloc (.cells #[.int .i64 kd, .int .i64 ky, .float .f64 x] 39)) from Fr.of_below hBa)
        have hsa : (wr.alloc (.cells #[.int .i64 kd, .int .i64 ky, .float .f64 x] 39)).heap.size = wr.heap.size + 1 := by simp
        have HN1 := HA.out.val hf (now + 1) ky
        have HVal := Lib.hid HN1; clear HN1
        have hRl : (R.length : Int) + 1 ≤ now + 1 := by omega
        go_wp2_with (first
          | (go_at_call 10; refine (drop_at _ p q hf now L HHa.out HD.out ky).mono ?_; rintro e w2 ⟨rfl, h2, f2⟩; have H2 := Lib.hid h2; clear h2; have FF := Lib.hid ((HFa.out.mono (T := fun y => y = p ∨ y = q) (fun _ h => h.elim)).trans (f2.mono (T := fun y => y = p ∨ y = q) (fun y h => Or.inr h))); have m1 := (f2.cell (p := ⟨wr.heap.size, 1, none⟩) (by simp) (by show ¬ wr.heap.size = q; omega)).trans (World.cell?_alloc_new wr #[.int .i64 kd, .int .i64 ky, .float .f64 x] 39 1); have s2 := FF.out.size; clear f2)
          | (go_at_call 9; refine (touch_at _ p q hf now L HHa.out (by omega) ky x).mono ?_; rintro e w2 ⟨rfl, h2, f2⟩; have H2 := Lib.hid h2; clear h2; have FF := Lib.hid ((HFa.out.mono (T := fun y => y = p ∨ y = q) (fun _ h => h.elim)).trans f2); have m1 := (f2.cell (p := ⟨wr.heap.size, 1, none⟩) (by simp) (by show ¬ (wr.heap.size = p ∨ wr.heap.size = q); omega)).trans (World.cell?_alloc_new wr #[.int .i64 kd, .int .i64 ky, .float .f64 x] 39 1); have m2 := (f2.cell (p := ⟨wr.heap.size, 2, none⟩) (by simp) (by show ¬ (wr.heap.size = p ∨ wr.heap.size = q); omega)).trans (World.cell?_alloc_new wr #[.int .i64 kd, .int .i64 ky, .float .f64 x] 39 2); have s2 := FF.out.size; clear f2)
          | (go_at_call 23; refine (refDrop_at _ r W.heap.size hf now v R (HR.out.fr FF.out (by omega) (fun y hy => by have := Hv.out y hy; omega)) (by omega) ky).mono ?_; rintro e w3 ⟨rfl, ⟨v3, h3, q3⟩, f3⟩; have BB : Hid (Both2 w3 W.heap.size p q r hf now) := both2_drop HA.out hl HD.out n0 HH.out.sp H2.out h3 q3 f3 hp hq hrn hpr hqr (by omega); have F3 := Lib.hid (FF.out.mono (T := fun y => y = p ∨ y = q ∨ y = r) (by rintro y (h | h); exact Or.inl h; exact Or.inr (Or.inl h)) |>.trans (f3.mono (fun y h => Or.inr (Or.inr h)))); clear h3 q3 f3)
          | (go_at_call 24; refine (refTouch_at _ r W.heap.size hf now v R (HR.out.fr FF.out (by omega) (fun y hy => by have := Hv.out y hy; omega)) (by omega) (by omega) (by omega) ky x).mono ?_; rintro e w3 ⟨rfl, ⟨v3, h3, q3⟩, f3⟩; have BB : Hid (Both2 w3 W.heap.size p q r hf (now + 1)) := both2_touch HA.out hl HD.out H2.out (by rw [← HVal.out]; exact h3) q3 f3 hp hq hrn hpr hqr (by omega); have F3 := Lib.hid (FF.out.mono (T := fun y => y = p ∨ y = q ∨ y = r) (by rintro y (h | h); exact Or.inl h; exact Or.inr (Or.inl h)) |>.trans (f3.mono (fun y h => Or.inr (Or.inr h)))); clear h3 q3 f3))
        all_goals
          obtain ⟨f, hf1, hf2⟩ := both_of BB.out.both
          have G1 := Lib.hid hf1; clear hf1
          have G2 := Lib.hid hf2; clear hf2
          have hBW3 : Below W.heap.size W w3 := hB.trans (F3.out.below hsz (by rintro y (h | h | h) <;> omega))
          clear HHa HFa HVal H2 FF HH HR HA Hv HD
          go_loopw [10] (fun t wq => ∃ k : Nat, t = .int .i64 k ∧ k ≤ i + 1 ∧ Below w3.heap.size w3 wq) (fun t _ => i + 1 - (intOf t).toNat)
          case atStart => exact ⟨0, rfl, by omega, Below.refl _ _⟩
          case round =>
            obtain ⟨k, rfl, j1, hBq⟩ := hrel
            have hk0 : (0 : Int) ≤ (k : Int) := Int.natCast_nonneg _
            by_cases hki : k ≤ i
            · have hk1 : (k : Int) < (len : Int) := by omega
              have hk2 : (k : Int) ≤ (i : Int) := by omega
              obtain ⟨-, kc, -⟩ := HC.out k (by have := Hlen.out; omega)
              have hcq := ((below_chain hBW3 hBq).cell (p := ⟨b, off + k * 3 + 1, none⟩) hb).trans kc
              clear kc
              have hlk := (G1.out (zs.getD k (0, 0, 0)).2.1).2
              have G3 := Lib.hid fun (w' : World) (hw' : Below wr.heap.size wr w') => G2.out w' (below_chain hBq hw') (zs.getD k (0, 0, 0)).2.1
              have hbq : b < wr.heap.size := Nat.lt_of_lt_of_le hb (Nat.le_trans hBW3.size hBq.size)
              generalize (zs.getD k (0, 0, 0)).2.1 = kq at hcq hlk G3
              generalize f kq = y at hlk G3
              have SS := Lib.hid fun (w' : World) => show Calls Try.prog 22 #[.float .f64 y, .float .f64 y] w' fun e w'' => e = .returned (.bool true) ∧ w' = w'' from by
                have h := same_any y y w' hlk hlk
                rwa [FP.sameB_refl] at h
              go_wp2_with fail
              refine region_class (C := fun w' => Below wr.heap.size wr w') (by kernel_rfl) (by kernel_rfl) (Below.refl _ wr).drew ?_
              quiet_step (first | (intro _; rfl))
              quiet_step (first | (intro _; rfl))
              quiet_step (first | (intro _; rfl))
              quiet_step (first | (intro _; rfl))
              quiet_step (first | (intro _; rfl))
              refine q_cell _ _ rfl ⟨b, off + k * 3 + 1, none⟩ (.int .i64 kq) _ rfl rfl rfl rfl (fun w' hw' => (hw'.cell (p := ⟨b, off + k * 3 + 1, none⟩) hbq).trans hcq) ?_
              refine wpQuiet_step (fun K hK => ?_)
              go_simp
              apply Exists.intro
              refine ⟨fun w' hw' => ?_, hK _ ?_⟩
              · exact (G3.out w' hw').1.mono fun e w'' h => ⟨h.1, below_chain hw' h.2⟩
              clear hK K
              quiet_step (first | (intro _; rfl))
              quiet_step (first | (intro _; rfl))
              quiet_step (first | (intro _; rfl))
              quiet_step (first | (intro _; rfl))
              quiet_step (first | (intro _; rfl))
              refine q_cell _ _ rfl ⟨b, off + k * 3 + 1, none⟩ (.int .i64 kq) _ rfl rfl rfl rfl (fun w' hw' => (hw'.cell (p := ⟨b, off + k * 3 + 1, none⟩) hbq).trans hcq) ?_
              refine wpQuiet_step (fun K hK => ?_)
              go_simp
              apply Exists.intro
              refine ⟨fun w' hw' => ?_, hK _ ?_⟩
              · exact (G3.out w' hw').2.mono fun e w'' h => ⟨h.1, below_chain hw' h.2⟩
              clear hK K
              refine wpQuiet_step (fun K hK => ?_)
              go_simp
              apply Exists.intro
              refine ⟨fun w' hw' => ?_, hK _ ?_⟩
              · exact (SS.out w').mono fun e w'' h => ⟨h.1, h.2 ▸ hw'⟩
              clear hK K
              quiet_step (first | (intro _; rfl))
              refine wpQuiet_nil ?_
              intro w5 hw5
              go_wp2
              go_roundw
              case rel => exact ⟨k + 1, by go_num, by omega, below_chain hBq hw5⟩
              case measure => simp only [intOf]; omega
            · have hk2 : ¬ (k : Int) ≤ (i : Int) := by omega
              go_wp2
              go_roundw
              case rel => exact ⟨i + 1, _, by go_num, by omega, by omega, by omega, by omega, BB.out.later hBq, below_chain hBW3 hBq⟩
              case measure => simp only [intOf]; omega
      · go_wp2_with (go_at_call 13; refine (awake_any _).mono ?_; rintro e w' ⟨rfl, hBz⟩)
        go_ret
        exact ⟨rfl, below_chain hB hBz⟩
    · go_wp2_with (go_at_call 13; refine (awake_any _).mono ?_; rintro e w' ⟨rfl, hBz⟩)
      all_goals
        go_ret
        exact ⟨rfl, below_chain hB hBz⟩
theorem walk (W : World) (hf : Int) (_wh : (Lit.int .i64 hf).wf = true) (a : Option Addr) (len cap : Nat) (zs : List (Int × Int × Nat)) (hI : IsA W a len cap zs) (_r : len * 24 ≤ 140737488351232) :
    Calls Try.prog 8 #[.int .i64 hf, .slice a len cap] W fun e w' => e = .returned (.bool true) ∧ Below W.heap.size W w' := by
  by_cases h1 : hf < 1
  · exact walk_bad W hf (Or.inl h1) a len cap
  · by_cases h2 : 1000 < hf
    · exact walk_bad W hf (Or.inr h2) a len cap
    · exact walk_good W hf (by omega) (by omega) a len cap zs hI

/-! The row's step. -/
theorem own : ownKnob Try.prog.godebug = none := by kernel_rfl
theorem laidOut : laidOutB Try.prog = true := by kernel_rfl
set_option linter.unusedVariables false
set_option maxRecDepth 100000 in
theorem lifted (os : Os) (started : os.Started) (H : Type) (enc : TypeId × Value → H) :
    ReturnsInHanded {} Try.checked os 8 .any (Rows.heatPlaysSpec.pre6 enc Try.prog Try.f8 Rows.heatPlaysRow.domain false) (Rows.heatPlaysSpec.post enc Try.prog Try.f8 false true false false) := by
  refine returnsInHanded_of_change_sized (C := Try.checked) own started (by kernel_rfl) Try.func8
    (ChangeSpec.witness6 (enc := enc) (C := Try.checked) false ⟨#[], #[.int .i64 0, .slice none 0 0], []⟩ 8 (by kernel_rfl) (by kernel_rfl) (by kernel_rfl) (by kernel_rfl)) ?_
  intro W base args ds gs before hval0 hW _ hsz0 _
  have hsz : (DataW.weightsEach Try.prog (Try.f8.params.toList ++ Rows.heatPlaysSpec.plain.varTypes Try.prog) (ds ++ gs)).all (· ≤ reachBytes) = true := hsz0
  clear hsz0
  have hval : ∀ (j : Nat) t v, Try.f8.params[j]? = some t → args[j]? = some v → Value.okWide Try.prog W .any base t v := hval0
  have hW' := hW
  obtain ⟨p, q, hA0, hV, rfl, hfz, hnd⟩ := hW
  have hA : DataW.TrodAll enc Try.prog W 0 (fun _ => true) true Try.f8.params.toList args.toList ds p := hA0
  rw [Try.params8] at hA hval hsz
  obtain ⟨v0, vs0, d0, ds0, p0, q0, hargs, rfl, rfl, h0, r0⟩ := trodAll_cons hA
  obtain ⟨v1, vs1, d1, ds1, p1, q1, rfl, rfl, rfl, h1, r1⟩ := trodAll_cons r0
  obtain ⟨rfl, rfl, rfl⟩ := trodAll_nil r1
  obtain rfl : args = #[v0, v1] := by cases args; simp_all
  obtain ⟨rfl, rfl⟩ := trodVars_none hV
  obtain ⟨a0, rfl, rfl, rfl, w0⟩ := open_int Try.underlying3 (hval 0 3 v0 rfl rfl) h0
  obtain ⟨a1, len1, cap1, rfl⟩ := okWide_slice Try.underlying32 (hval 1 32 v1 rfl rfl)
  have lt1 : ∀ x ∈ p1, x.block < W.heap.size := by obtain ⟨m, hm⟩ := h1; exact DataW.trod_lt m _ _ _ hm
  obtain ⟨⟨z1, w1⟩, hf1⟩ := open_a Try.underlying32 Try.underlying39 rfl rfl rfl rfl rfl rfl Try.underlying3 Try.underlying3 Try.underlying23 (by kernel_rfl) (by kernel_rfl) (by kernel_rfl) (by kernel_rfl) h1
  have rc1 := reach_slice hsz (j := 1) (e := 39) rfl rfl Try.underlying32 (k := 24) (by kernel_rfl) hf1
  clear hf1
  clear hA0 hval0
  refine (walk W a0 w0 a1 len1 cap1 z1 w1 rc1).mono fun e W' ⟨he, bel⟩ => ?_
  subst he
  exact ⟨_, rfl, _, _, _, [], _, [], hW', trodAll_mk1 (shut_bool Try.underlying4 _), (trodAll_cons_mk (shut_int Try.underlying3 w0) (trodAll_cons_mk (Below.trod laidOut (by kernel_rfl) (of_decide_eq_true (by kernel_rfl)) h1 bel lt1) trodAll_mk0)), rfl, bel.frame _, fun h => by cases h⟩

theorem over : Rows.heatPlaysRow.holds Try.pinned (OpenSpec.ofChange Rows.heatPlaysSpec) :=
  OpenClaim.holds_of_wide 8 Try.f8 rfl rfl rfl rfl rfl rfl rfl ⟨rfl, rfl, rfl, rfl, rfl⟩ rfl rfl rfl rfl rfl (by kernel_rfl) Try.func8 (by kernel_rfl)
    (of_decide_eq_true (by kernel_rfl)) (by unfold Func.isWrapper; first | (rw [if_pos (by decide +kernel)]; kernel_rfl) | (rw [if_neg (by decide +kernel)]; exact ⟨rfl, rfl⟩))
    (fun os started H enc _ => lifted os started H enc)

/-- THE STATEMENT. -/
theorem proved : Rows.HeatPlaysSaid := over

#print axioms proved
end Go.Proofs.Ytfkbdijgdhddaaa.heatPlays
