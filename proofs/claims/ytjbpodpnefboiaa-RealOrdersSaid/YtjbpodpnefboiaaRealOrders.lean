/- RealOrders: for every three numbers the law returns true. -/
import Derived.Test.YtjbpodpnefboiaaRc
namespace Go.Proofs.Ytjbpodpnefboiaa.realOrders
open Go.ChangeShapes Go.WideShapes Go.ChangeAt Go.RowKit
set_option maxRecDepth 100000
theorem nan_nan (a b c : Nat) (Ha : Hid (a < 18446744073709551616)) (Hb : Hid (b < 18446744073709551616)) (Hc : Hid (c < 18446744073709551616)) (w : World)
    (hx : FP.ltB a b = false)
    (hy : FP.ltB b a = false)
    (na : (FloatKind.f64.format.order a a == some Ordering.eq) = false)
    (nb : (FloatKind.f64.format.order b b == some Ordering.eq) = false) :
    Calls Try.prog 4 #[.float .f64 a, .float .f64 b, .float .f64 c] w fun e w' => e = .returned (.bool true) ∧ Grown w w' := by
  have hn0 := FP.negzero_lt
  have haa := FP.ltB_irrefl a
  go_enter Try.func4, Try.ntmps4
  go_wp2_with (first | (go_at_call 12; refine (less_any _ _ _ (by first | exact Hid.out (by assumption) | omega) (by first | exact Hid.out (by assumption) | omega)).mono ?_; rintro e w' ⟨rfl, rfl⟩) | (go_at_call 16; refine (negzero _).mono ?_; rintro e w' ⟨rfl, rfl⟩))
  all_goals go_ret
  all_goals exact ⟨rfl, Grown.refl _⟩
theorem nan_num (a b c : Nat) (Ha : Hid (a < 18446744073709551616)) (Hb : Hid (b < 18446744073709551616)) (Hc : Hid (c < 18446744073709551616)) (w : World)
    (hx : FP.ltB a b = false)
    (hy : FP.ltB b a = true)
    (na : (FloatKind.f64.format.order a a == some Ordering.eq) = false) :
    Calls Try.prog 4 #[.float .f64 a, .float .f64 b, .float .f64 c] w fun e w' => e = .returned (.bool true) ∧ Grown w w' := by
  have hn0 := FP.negzero_lt
  have haa := FP.ltB_irrefl a
  go_enter Try.func4, Try.ntmps4
  go_wp2_with (first | (go_at_call 12; refine (less_any _ _ _ (by first | exact Hid.out (by assumption) | omega) (by first | exact Hid.out (by assumption) | omega)).mono ?_; rintro e w' ⟨rfl, rfl⟩) | (go_at_call 16; refine (negzero _).mono ?_; rintro e w' ⟨rfl, rfl⟩))
  all_goals go_ret
  all_goals exact ⟨rfl, Grown.refl _⟩
theorem num_nan (a b c : Nat) (Ha : Hid (a < 18446744073709551616)) (Hb : Hid (b < 18446744073709551616)) (Hc : Hid (c < 18446744073709551616)) (w : World)
    (hx : FP.ltB a b = true)
    (hy : FP.ltB b a = false)
    (hz : FP.ltB b c = false)
    (na : (FloatKind.f64.format.order a a == some Ordering.eq) = true)
    (nb : (FloatKind.f64.format.order b b == some Ordering.eq) = false) :
    Calls Try.prog 4 #[.float .f64 a, .float .f64 b, .float .f64 c] w fun e w' => e = .returned (.bool true) ∧ Grown w w' := by
  have hn0 := FP.negzero_lt
  have haa := FP.ltB_irrefl a
  go_enter Try.func4, Try.ntmps4
  go_wp2_with (first | (go_at_call 12; refine (less_any _ _ _ (by first | exact Hid.out (by assumption) | omega) (by first | exact Hid.out (by assumption) | omega)).mono ?_; rintro e w' ⟨rfl, rfl⟩) | (go_at_call 16; refine (negzero _).mono ?_; rintro e w' ⟨rfl, rfl⟩))
  all_goals go_ret
  all_goals exact ⟨rfl, Grown.refl _⟩
theorem up_true_eq (a b c : Nat) (Ha : Hid (a < 18446744073709551616)) (Hb : Hid (b < 18446744073709551616)) (Hc : Hid (c < 18446744073709551616)) (w : World)
    (hx : FP.ltB a b = true)
    (hy : FP.ltB b a = false)
    (hz : FP.ltB b c = true)
    (na : (FloatKind.f64.format.order a a == some Ordering.eq) = true)
    (nb : (FloatKind.f64.format.order b b == some Ordering.eq) = true)
    (hne : (FloatKind.f64.format.order a b != some Ordering.eq) = false)
    (hac : FP.ltB a c = true) :
    Calls Try.prog 4 #[.float .f64 a, .float .f64 b, .float .f64 c] w fun e w' => e = .returned (.bool true) ∧ Grown w w' := by
  have hn0 := FP.negzero_lt
  have haa := FP.ltB_irrefl a
  go_enter Try.func4, Try.ntmps4
  go_wp2_with (first | (go_at_call 12; refine (less_any _ _ _ (by first | exact Hid.out (by assumption) | omega) (by first | exact Hid.out (by assumption) | omega)).mono ?_; rintro e w' ⟨rfl, rfl⟩) | (go_at_call 16; refine (negzero _).mono ?_; rintro e w' ⟨rfl, rfl⟩))
  all_goals go_ret
  all_goals exact ⟨rfl, Grown.refl _⟩
theorem up_true_ne (a b c : Nat) (Ha : Hid (a < 18446744073709551616)) (Hb : Hid (b < 18446744073709551616)) (Hc : Hid (c < 18446744073709551616)) (w : World)
    (hx : FP.ltB a b = true)
    (hy : FP.ltB b a = false)
    (hz : FP.ltB b c = true)
    (na : (FloatKind.f64.format.order a a == some Ordering.eq) = true)
    (nb : (FloatKind.f64.format.order b b == some Ordering.eq) = true)
    (hne : (FloatKind.f64.format.order a b != some Ordering.eq) = true)
    (hac : FP.ltB a c = true)
    (hlt : (FloatKind.f64.format.order a b == some Ordering.lt) = true) :
    Calls Try.prog 4 #[.float .f64 a, .float .f64 b, .float .f64 c] w fun e w' => e = .returned (.bool true) ∧ Grown w w' := by
  have hn0 := FP.negzero_lt
  have haa := FP.ltB_irrefl a
  go_enter Try.func4, Try.ntmps4
  go_wp2_with (first | (go_at_call 12; refine (less_any _ _ _ (by first | exact Hid.out (by assumption) | omega) (by first | exact Hid.out (by assumption) | omega)).mono ?_; rintro e w' ⟨rfl, rfl⟩) | (go_at_call 16; refine (negzero _).mono ?_; rintro e w' ⟨rfl, rfl⟩))
  all_goals go_ret
  all_goals exact ⟨rfl, Grown.refl _⟩
theorem up_false_eq (a b c : Nat) (Ha : Hid (a < 18446744073709551616)) (Hb : Hid (b < 18446744073709551616)) (Hc : Hid (c < 18446744073709551616)) (w : World)
    (hx : FP.ltB a b = true)
    (hy : FP.ltB b a = false)
    (hz : FP.ltB b c = false)
    (na : (FloatKind.f64.format.order a a == some Ordering.eq) = true)
    (nb : (FloatKind.f64.format.order b b == some Ordering.eq) = true)
    (hne : (FloatKind.f64.format.order a b != some Ordering.eq) = false) :
    Calls Try.prog 4 #[.float .f64 a, .float .f64 b, .float .f64 c] w fun e w' => e = .returned (.bool true) ∧ Grown w w' := by
  have hn0 := FP.negzero_lt
  have haa := FP.ltB_irrefl a
  go_enter Try.func4, Try.ntmps4
  go_wp2_with (first | (go_at_call 12; refine (less_any _ _ _ (by first | exact Hid.out (by assumption) | omega) (by first | exact Hid.out (by assumption) | omega)).mono ?_; rintro e w' ⟨rfl, rfl⟩) | (go_at_call 16; refine (negzero _).mono ?_; rintro e w' ⟨rfl, rfl⟩))
  all_goals go_ret
  all_goals exact ⟨rfl, Grown.refl _⟩
theorem up_false_ne (a b c : Nat) (Ha : Hid (a < 18446744073709551616)) (Hb : Hid (b < 18446744073709551616)) (Hc : Hid (c < 18446744073709551616)) (w : World)
    (hx : FP.ltB a b = true)
    (hy : FP.ltB b a = false)
    (hz : FP.ltB b c = false)
    (na : (FloatKind.f64.format.order a a == some Ordering.eq) = true)
    (nb : (FloatKind.f64.format.order b b == some Ordering.eq) = true)
    (hne : (FloatKind.f64.format.order a b != some Ordering.eq) = true)
    (hlt : (FloatKind.f64.format.order a b == some Ordering.lt) = true) :
    Calls Try.prog 4 #[.float .f64 a, .float .f64 b, .float .f64 c] w fun e w' => e = .returned (.bool true) ∧ Grown w w' := by
  have hn0 := FP.negzero_lt
  have haa := FP.ltB_irrefl a
  go_enter Try.func4, Try.ntmps4
  go_wp2_with (first | (go_at_call 12; refine (less_any _ _ _ (by first | exact Hid.out (by assumption) | omega) (by first | exact Hid.out (by assumption) | omega)).mono ?_; rintro e w' ⟨rfl, rfl⟩) | (go_at_call 16; refine (negzero _).mono ?_; rintro e w' ⟨rfl, rfl⟩))
  all_goals go_ret
  all_goals exact ⟨rfl, Grown.refl _⟩
theorem down_eq (a b c : Nat) (Ha : Hid (a < 18446744073709551616)) (Hb : Hid (b < 18446744073709551616)) (Hc : Hid (c < 18446744073709551616)) (w : World)
    (hx : FP.ltB a b = false)
    (hy : FP.ltB b a = true)
    (na : (FloatKind.f64.format.order a a == some Ordering.eq) = true)
    (nb : (FloatKind.f64.format.order b b == some Ordering.eq) = true)
    (hne : (FloatKind.f64.format.order a b != some Ordering.eq) = false) :
    Calls Try.prog 4 #[.float .f64 a, .float .f64 b, .float .f64 c] w fun e w' => e = .returned (.bool true) ∧ Grown w w' := by
  have hn0 := FP.negzero_lt
  have haa := FP.ltB_irrefl a
  go_enter Try.func4, Try.ntmps4
  go_wp2_with (first | (go_at_call 12; refine (less_any _ _ _ (by first | exact Hid.out (by assumption) | omega) (by first | exact Hid.out (by assumption) | omega)).mono ?_; rintro e w' ⟨rfl, rfl⟩) | (go_at_call 16; refine (negzero _).mono ?_; rintro e w' ⟨rfl, rfl⟩))
  all_goals go_ret
  all_goals exact ⟨rfl, Grown.refl _⟩
theorem down_ne (a b c : Nat) (Ha : Hid (a < 18446744073709551616)) (Hb : Hid (b < 18446744073709551616)) (Hc : Hid (c < 18446744073709551616)) (w : World)
    (hx : FP.ltB a b = false)
    (hy : FP.ltB b a = true)
    (na : (FloatKind.f64.format.order a a == some Ordering.eq) = true)
    (nb : (FloatKind.f64.format.order b b == some Ordering.eq) = true)
    (hne : (FloatKind.f64.format.order a b != some Ordering.eq) = true)
    (hlt : (FloatKind.f64.format.order a b == some Ordering.lt) = false) :
    Calls Try.prog 4 #[.float .f64 a, .float .f64 b, .float .f64 c] w fun e w' => e = .returned (.bool true) ∧ Grown w w' := by
  have hn0 := FP.negzero_lt
  have haa := FP.ltB_irrefl a
  go_enter Try.func4, Try.ntmps4
  go_wp2_with (first | (go_at_call 12; refine (less_any _ _ _ (by first | exact Hid.out (by assumption) | omega) (by first | exact Hid.out (by assumption) | omega)).mono ?_; rintro e w' ⟨rfl, rfl⟩) | (go_at_call 16; refine (negzero _).mono ?_; rintro e w' ⟨rfl, rfl⟩))
  all_goals go_ret
  all_goals exact ⟨rfl, Grown.refl _⟩
theorem one (a c : Nat) (n : Int) (hbits : ∀ w, (callFunc 15 #[.float .f64 a]).run Try.prog w = .ok (.value (.int .u64 n)) w) (Ha : Hid (a < 18446744073709551616)) (Hc : Hid (c < 18446744073709551616)) (w : World)
    (na : (FloatKind.f64.format.order a a == some Ordering.eq) = true)
    (hne : (FloatKind.f64.format.order a a != some Ordering.eq) = false) :
    Calls Try.prog 4 #[.float .f64 a, .float .f64 a, .float .f64 c] w fun e w' => e = .returned (.bool true) ∧ Grown w w' := by
  have hn0 := FP.negzero_lt
  have haa := FP.ltB_irrefl a
  go_enter Try.func4, Try.ntmps4
  go_wp2_with (first | (go_at_call 12; refine (less_any _ _ _ (by first | exact Hid.out (by assumption) | omega) (by first | exact Hid.out (by assumption) | omega)).mono ?_; rintro e w' ⟨rfl, rfl⟩) | (go_at_call 16; refine (negzero _).mono ?_; rintro e w' ⟨rfl, rfl⟩))
  all_goals go_ret
  all_goals exact ⟨rfl, Grown.refl _⟩
theorem walk (a b c : Nat) (w0 : a < 18446744073709551616) (w1 : b < 18446744073709551616) (w2 : c < 18446744073709551616) (w : World) :
    Calls Try.prog 4 #[.float .f64 a, .float .f64 b, .float .f64 c] w fun e w' => e = .returned (.bool true) ∧ Grown w w' := by
  have Ha := Lib.hid w0
  have Hb := Lib.hid w1
  have Hc := Lib.hid w2
  have ba := FP.rank_bounds a
  have bb := FP.rank_bounds b
  have bc := FP.rank_bounds c
  cases hA : FP.isNaN a
  · have na := nan_eq (b := a) (v := true) (by simp [hA])
    have la := FP.rank_num_le hA
    cases hB : FP.isNaN b
    · have nb := nan_eq (b := b) (v := true) (by simp [hB])
      rcases Int.lt_trichotomy (FP.rank a) (FP.rank b) with h | h | h
      · have hx := FP.ltB_true h
        have hy := FP.ltB_false (a := b) (b := a) (by omega)
        cases hz : FP.ltB b c
        · by_cases hk : FP.key a = FP.key b
          · exact up_false_eq a b c Ha Hb Hc w hx hy hz na nb (FP.ne_key hA hB (by simp [hk]))
          · exact up_false_ne a b c Ha Hb Hc w hx hy hz na nb (FP.ne_key hA hB (by simp [hk])) (FP.lt_key hA hB (by simpa using FP.rank_lt_key hA hB h hk))
        · have h2 := FP.ltB_iff.1 hz
          have hac := FP.ltB_true (a := a) (b := c) (by omega)
          by_cases hk : FP.key a = FP.key b
          · exact up_true_eq a b c Ha Hb Hc w hx hy hz na nb (FP.ne_key hA hB (by simp [hk])) hac
          · exact up_true_ne a b c Ha Hb Hc w hx hy hz na nb (FP.ne_key hA hB (by simp [hk])) hac (FP.lt_key hA hB (by simpa using FP.rank_lt_key hA hB h hk))
      · obtain rfl := FP.rank_inj w0 w1 hA h
        exact one a c _ (run_bits a) Ha Hc w na (nan_ne hA)
      · have hx := FP.ltB_false (a := a) (b := b) (by omega)
        have hy := FP.ltB_true h
        by_cases hk : FP.key a = FP.key b
        · exact down_eq a b c Ha Hb Hc w hx hy na nb (FP.ne_key hA hB (by simp [hk]))
        · have h3 := FP.rank_lt_key hB hA h (Ne.symm hk)
          exact down_ne a b c Ha Hb Hc w hx hy na nb (FP.ne_key hA hB (by simp [hk])) (FP.lt_key hA hB (by simp; omega))
    · have rb := FP.rank_nan hB
      exact num_nan a b c Ha Hb Hc w (FP.ltB_true (by omega)) (FP.ltB_false (by omega)) (FP.ltB_false (by omega)) na (nan_eq (v := false) (by simp [hB]))
  · have ra := FP.rank_nan hA
    have na := nan_eq (b := a) (v := false) (by simp [hA])
    cases hB : FP.isNaN b
    · have lb := FP.rank_num_le hB
      exact nan_num a b c Ha Hb Hc w (FP.ltB_false (by omega)) (FP.ltB_true (by omega)) na
    · have rb := FP.rank_nan hB
      exact nan_nan a b c Ha Hb Hc w (FP.ltB_false (by omega)) (FP.ltB_false (by omega)) na (nan_eq (v := false) (by simp [hB]))

/-! The row's step. -/
theorem own : ownKnob Try.prog.godebug = none := by kernel_rfl
set_option linter.unusedVariables false
set_option maxRecDepth 100000 in
theorem lifted (os : Os) (started : os.Started) (H : Type) (enc : TypeId × Value → H) :
    ReturnsInHanded {} Try.checked os 4 .any (Rows.realOrdersSpec.pre6 enc Try.prog Try.f4 Rows.realOrdersRow.domain false) (Rows.realOrdersSpec.post enc Try.prog Try.f4 false true false false) := by
  refine returnsInHanded_of_change (C := Try.checked) own started (by kernel_rfl) Try.func4
    (ChangeSpec.witness6 (enc := enc) (C := Try.checked) false ⟨#[], #[.float .f64 0, .float .f64 0, .float .f64 0], []⟩ 8 (by kernel_rfl) (by kernel_rfl) (by kernel_rfl) (by kernel_rfl)) ?_
  intro W base args ds gs before hval0 hW hcnd _
  have hval : ∀ (j : Nat) t v, Try.f4.params[j]? = some t → args[j]? = some v → Value.okWide Try.prog W .any base t v := hval0
  have hW' := hW
  obtain ⟨p, q, hA0, hV, rfl, hfz, hnd⟩ := hW
  have hA : DataW.TrodAll enc Try.prog W 0 (fun _ => true) true Try.f4.params.toList args.toList ds p := hA0
  rw [Try.params4] at hA hval
  obtain ⟨v0, vs0, d0, ds0, p0, q0, hargs, rfl, rfl, h0, r0⟩ := trodAll_cons hA
  obtain ⟨v1, vs1, d1, ds1, p1, q1, rfl, rfl, rfl, h1, r1⟩ := trodAll_cons r0
  obtain ⟨v2, vs2, d2, ds2, p2, q2, rfl, rfl, rfl, h2, r2⟩ := trodAll_cons r1
  obtain ⟨rfl, rfl, rfl⟩ := trodAll_nil r2
  obtain rfl : args = #[v0, v1, v2] := by cases args; simp_all
  obtain ⟨rfl, rfl⟩ := trodVars_none hV
  obtain ⟨a0, rfl, rfl, rfl, w0⟩ := open_float Try.underlying22 (hval 0 22 v0 rfl rfl) h0
  obtain ⟨a1, rfl, rfl, rfl, w1⟩ := open_float Try.underlying22 (hval 1 22 v1 rfl rfl) h1
  obtain ⟨a2, rfl, rfl, rfl, w2⟩ := open_float Try.underlying22 (hval 2 22 v2 rfl rfl) h2
  clear hA0 hval0
  simp only [List.append_nil] at hW'
  refine (walk a0 a1 a2 (float_lt w0) (float_lt w1) (float_lt w2) W).mono fun e W' ⟨he, hg⟩ => ?_
  subst he
  exact ⟨_, rfl, post_of_same (pa := []) (pv := []) hW' (fun _ _ _ => (trodAll_cons_mk (shut_bool Try.underlying4 _) trodAll_mk0)) (fun sp _ => (trodAll_cons_mk (shut_float Try.underlying22 w0) (trodAll_cons_mk (shut_float Try.underlying22 w1) (trodAll_cons_mk (shut_float Try.underlying22 w2) trodAll_mk0)))) (fun _ _ => rfl) rfl
    (hg.frame _) hg.2.1 (ok_one (by kernel_rfl) rfl (okWide_bool_mk Try.underlying4 _))⟩

theorem over : Rows.realOrdersRow.holds Try.pinned (OpenSpec.ofChange Rows.realOrdersSpec) :=
  OpenClaim.holds_of_wide 4 Try.f4 rfl rfl rfl rfl rfl rfl rfl ⟨rfl, rfl, rfl, rfl, rfl⟩ rfl rfl rfl rfl rfl (by kernel_rfl) Try.func4 (by kernel_rfl)
    (of_decide_eq_true (by kernel_rfl)) (by unfold Func.isWrapper; first | (rw [if_pos (by decide +kernel)]; kernel_rfl) | (rw [if_neg (by decide +kernel)]; exact ⟨rfl, rfl⟩))
    (fun os started H enc _ => lifted os started H enc)

/-- THE STATEMENT. -/
theorem proved : Rows.RealOrdersSaid := over

#print axioms proved
end Go.Proofs.Ytjbpodpnefboiaa.realOrders
