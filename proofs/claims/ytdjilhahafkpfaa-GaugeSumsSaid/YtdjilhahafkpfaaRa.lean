import Derived.Test.YtdjilhahafkpfaaRows
import Derived.WalkKit
import Derived.WalkLawsBesides
import Derived.ProofKit
import Derived.OpenShut
import Derived.Lib.Hide
import Derived.Test.YtdjilhahafkpfaaFpd
namespace Go.Proofs.Ytdjilhahafkpfaa
open Go.RowKit

theorem ord_f64 (a b : Nat) : FloatKind.f64.format.order a b = Ieee.double.order a b := rfl
theorem ret_i64 {a b : Int} (h : a = b) : Ending.returned (.int .i64 a) = .returned (.int .i64 b) := by rw [h]
theorem ret_u64 {a b : Int} (h : a = b) : Ending.returned (.int .u64 a) = .returned (.int .u64 b) := by rw [h]
theorem ret_bool {a b : Bool} (h : a = b) : Ending.returned (.bool a) = .returned (.bool b) := by rw [h]
theorem ret_f64 {a b : Nat} (h : a = b) : Ending.returned (.float .f64 a) = .returned (.float .f64 b) := by rw [h]

theorem float_lt {b : Nat} (h : (Lit.float .f64 b).wf = true) : b < 18446744073709551616 := by simpa [Lit.wf] using h
theorem run_bits (b : Nat) (w : World) : (callFunc 38 #[.float .f64 b]).run Try.prog w = .ok (.value (.int .u64 b)) w := by
  rw [run_callFunc_extern (P := Try.prog) (f := 38) (fn := Try.f38) (e := Extern.MathFloatBits.float64bits) (by kernel_rfl) (by kernel_rfl) (by kernel_rfl) (by kernel_rfl) (by kernel_rfl)]
  rfl
theorem run_bits_at {b : Nat} {n : Int} (hn : n = b) (w : World) : (callFunc 38 #[.float .f64 b]).run Try.prog w = .ok (.value (.int .u64 n)) w := by
  rw [hn]; exact run_bits b w
theorem run_frombits (n : Int) (w : World) : (callFunc 40 #[.int .u64 n]).run Try.prog w = .ok (.value (.float .f64 n.toNat)) w := by
  rw [run_callFunc_extern (P := Try.prog) (f := 40) (fn := Try.f40) (e := Extern.MathFloatBits.float64frombits) (by kernel_rfl) (by kernel_rfl) (by kernel_rfl) (by kernel_rfl) (by kernel_rfl)]
  rfl
theorem rank_neg_wrap (b : Nat) (n : Int) (hn : n = b) (hb : b < 18446744073709551616) (hN : FP.isNaN b = false) (h : 9223372036854775808 ≤ n) :
    wrap64 (wrap64 (-wrap64 (IntKind.u64.wrap (n - 9223372036854775808))) - 1) = FP.rank b := by
  rw [FP.rank_num hN, FP.sgn_true (by omega) hb, FP.rung_neg (by omega) hb]
  simp only [IntKind.wrap_u64, wrap64, if_true]
  omega
theorem rank_pos_wrap (b : Nat) (n : Int) (hn : n = b) (hN : FP.isNaN b = false) (h : n < 9223372036854775808) : wrap64 n = FP.rank b := by
  rw [FP.rank_num hN, FP.sgn_false (by omega), FP.rung_pos (by omega)]
  simp only [wrap64]
  simp
  omega
/-- 'x != x', as the walk spells it. -/
theorem nan_ne {b : Nat} {v : Bool} (h : FP.isNaN b = v) : (FloatKind.f64.format.order b b != some Ordering.eq) = v := by
  rw [← h]; exact FP.ordne_self b

theorem rank_any (b : Nat) (w : World) (hb : b < 18446744073709551616) :
    Calls Try.prog 41 #[.float .f64 b] w fun e w' => e = .returned (.int .i64 (FP.rank b)) ∧ w = w' := by
  obtain ⟨n, hn⟩ : ∃ n : Int, n = b := ⟨_, rfl⟩
  have hbits := run_bits_at hn
  have Hb := Lib.hid hb; clear hb
  have Hn := Lib.hid hn; clear hn
  cases hN : FP.isNaN b
  · have hnan := nan_ne hN
    have HN := Lib.hid hN; clear hN
    by_cases hs : (9223372036854775808 : Int) ≤ n
    · go_enter Try.func41, Try.ntmps41
      go_wp2
      go_ret
      exact ⟨ret_i64 (rank_neg_wrap b n Hn.out Hb.out HN.out hs), rfl⟩
    · go_enter Try.func41, Try.ntmps41
      go_wp2
      go_ret
      exact ⟨ret_i64 (rank_pos_wrap b n Hn.out HN.out (by omega)), rfl⟩
  · have hnan := nan_ne hN
    have HN := Lib.hid hN; clear hN
    go_enter Try.func41, Try.ntmps41
    go_wp2
    go_ret
    exact ⟨ret_i64 (FP.rank_nan HN.out).symm, rfl⟩
theorem less_any (a b : Nat) (w : World) (ha : a < 18446744073709551616) (hb : b < 18446744073709551616) :
    Calls Try.prog 29 #[.float .f64 a, .float .f64 b] w fun e w' => e = .returned (.bool (FP.ltB a b)) ∧ w = w' := by
  have Ha := Lib.hid ha; clear ha
  have Hb := Lib.hid hb; clear hb
  go_enter Try.func29, Try.ntmps29
  go_wp2_with fail
  refine (rank_any a _ Ha.out).mono ?_
  rintro e w' ⟨rfl, rfl⟩
  go_wp2_with fail
  refine (rank_any b _ Hb.out).mono ?_
  rintro e w' ⟨rfl, rfl⟩
  go_wp2
  go_ret
  exact ⟨rfl, rfl⟩
theorem wraps_u64 (n : Int) (h₀ : 0 ≤ n) (h₁ : n < 2 ^ 64) : IntKind.u64.wrap n = n := by rw [IntKind.wrap_u64]; omega
theorem and63 (n : Int) (h₀ : 0 ≤ n) (h₁ : n < 18446744073709551616) : bits .and .u64 n 9223372036854775807 = n % 9223372036854775808 :=
  bits_mask .u64 64 (by decide) wraps_u64 63 (by decide) n h₀ (by omega)
theorem and11 (n : Int) (h₀ : 0 ≤ n) (h₁ : n < 18446744073709551616) : bits .and .u64 n 2047 = n % 2048 :=
  bits_mask .u64 64 (by decide) wraps_u64 11 (by decide) n h₀ (by omega)
theorem and1 (n : Int) (h₀ : 0 ≤ n) (h₁ : n < 18446744073709551616) : bits .and .u64 n 1 = n % 2 :=
  bits_mask .u64 64 (by decide) wraps_u64 1 (by decide) n h₀ (by omega)
theorem and52 (n : Int) (h₀ : 0 ≤ n) (h₁ : n < 18446744073709551616) : bits .and .u64 n 4503599627370495 = n % 4503599627370496 :=
  bits_mask .u64 64 (by decide) wraps_u64 52 (by decide) n h₀ (by omega)
theorem nat_and_top (a : Nat) (h : a < 18446744073709551616) : a &&& 9223372036854775808 = a / 9223372036854775808 * 9223372036854775808 := by
  have h1 : a &&& 9223372036854775808 = (a >>> 63 &&& 1) <<< 63 := by
    apply Nat.eq_of_testBit_eq
    intro i
    have e : (9223372036854775808 : Nat) = 1 <<< 63 := by decide
    rw [e]
    simp only [Nat.testBit_and, Nat.testBit_shiftLeft, Nat.testBit_shiftRight]
    by_cases hi : 63 ≤ i
    · simp [hi, show 63 + (i - 63) = i by omega]
    · simp [hi]
  rw [h1, Nat.and_one_is_mod, Nat.shiftRight_eq_div_pow, Nat.shiftLeft_eq]
  have : a / 2 ^ 63 < 2 := by omega
  omega
theorem and_top (n : Int) (h₀ : 0 ≤ n) (h₁ : n < 18446744073709551616) : bits .and .u64 n 9223372036854775808 = n / 9223372036854775808 * 9223372036854775808 := by
  obtain ⟨a, rfl⟩ := Int.eq_ofNat_of_zero_le h₀
  have := bits_and_u64_nat a 9223372036854775808 (by omega) (by omega)
  rw [nat_and_top a (by omega)] at this
  exact this

theorem refRank_neg (b : Nat) (n : Int) (hn : n = b) (hb : b < 18446744073709551616) (hN : FP.isNaN b = false) (h : (n / 9223372036854775808 == 1) = true) :
    wrap64 (wrap64 (-wrap64 (bits BinOp.and IntKind.u64 n 9223372036854775807)) - 1) = FP.rank b := by
  have h' : n / 9223372036854775808 = 1 := by simpa using h
  rw [FP.rank_num hN, FP.sgn_true (by omega) hb, FP.rung_neg (by omega) hb, and63 n (by omega) (by omega)]
  simp only [wrap64, if_true]
  omega
theorem refRank_pos (b : Nat) (n : Int) (hn : n = b) (hb : b < 18446744073709551616) (hN : FP.isNaN b = false) (h : (n / 9223372036854775808 == 1) = false) :
    wrap64 (bits BinOp.and IntKind.u64 n 9223372036854775807) = FP.rank b := by
  have h' : n / 9223372036854775808 ≠ 1 := by simpa using h
  rw [FP.rank_num hN, FP.sgn_false (by omega), FP.rung_pos (by omega), and63 n (by omega) (by omega)]
  simp only [wrap64]
  simp
  omega
theorem refRank_any (b : Nat) (w : World) (hb : b < 18446744073709551616) :
    Calls Try.prog 30 #[.float .f64 b] w fun e w' => e = .returned (.int .i64 (FP.rank b)) ∧ w = w' := by
  obtain ⟨n, hn⟩ : ∃ n : Int, n = b := ⟨_, rfl⟩
  have hbits := run_bits_at hn
  have Hb := Lib.hid hb; clear hb
  have Hn := Lib.hid hn; clear hn
  cases hN : FP.isNaN b
  · have hnan := nan_ne hN
    have HN := Lib.hid hN; clear hN
    go_enter Try.func30, Try.ntmps30
    go_wp2
    · go_ret
      exact ⟨ret_i64 (refRank_neg b n Hn.out Hb.out HN.out (by assumption)), rfl⟩
    · go_ret
      exact ⟨ret_i64 (refRank_pos b n Hn.out Hb.out HN.out (by assumption)), rfl⟩
  · have hnan := nan_ne hN
    have HN := Lib.hid hN; clear hN
    go_enter Try.func30, Try.ntmps30
    go_wp2
    go_ret
    exact ⟨ret_i64 (FP.rank_nan HN.out).symm, rfl⟩
theorem same_any (a b : Nat) (w : World) (ha : a < 18446744073709551616) (hb : b < 18446744073709551616) :
    Calls Try.prog 14 #[.float .f64 a, .float .f64 b] w fun e w' => e = .returned (.bool (FP.sameB a b)) ∧ w = w' := by
  have Ha := Lib.hid ha; clear ha
  have Hb := Lib.hid hb; clear hb
  go_enter Try.func14, Try.ntmps14
  go_wp2_with fail
  refine (refRank_any a _ Ha.out).mono ?_
  rintro e w' ⟨rfl, rfl⟩
  go_wp2_with fail
  refine (refRank_any b _ Hb.out).mono ?_
  rintro e w' ⟨rfl, rfl⟩
  go_wp2
  go_ret
  exact ⟨ret_bool (by simp [FP.sameB]; rfl), rfl⟩
theorem signbit_val (b : Nat) (n : Int) (hn : n = b) (hb : b < 18446744073709551616) : decide (wrap64 n < 0) = FP.sgn b := by
  by_cases h : 9223372036854775808 ≤ b
  · rw [FP.sgn_true h hb]; simp [wrap64]; omega
  · rw [FP.sgn_false (by omega)]; simp [wrap64]; omega
theorem signbit_any (b : Nat) (w : World) (hb : b < 18446744073709551616) :
    Calls Try.prog 20 #[.float .f64 b] w fun e w' => e = .returned (.bool (FP.sgn b)) ∧ w = w' := by
  obtain ⟨n, hn⟩ : ∃ n : Int, n = b := ⟨_, rfl⟩
  have hbits := run_bits_at hn
  have Hb := Lib.hid hb; clear hb
  have Hn := Lib.hid hn; clear hn
  go_enter Try.func20, Try.ntmps20
  go_wp2
  go_ret
  exact ⟨ret_bool (signbit_val b n Hn.out Hb.out), rfl⟩
theorem refLess_any (a b : Nat) (w : World) (ha : a < 18446744073709551616) (hb : b < 18446744073709551616) :
    Calls Try.prog 39 #[.float .f64 a, .float .f64 b] w fun e w' => e = .returned (.bool (FP.ltB a b)) ∧ w = w' := by
  have Ha := Lib.hid ha; clear ha
  have Hb := Lib.hid hb; clear hb
  go_enter Try.func39, Try.ntmps39
  go_wp2_with (go_at_call 20; refine (signbit_any _ _ (by first | exact Ha.out | exact Hb.out)).mono ?_; rintro e w' ⟨rfl, rfl⟩)
  all_goals go_ret
  all_goals refine ⟨ret_bool ?_, rfl⟩
  · exact FP.lr1 (by assumption)
  · exact FP.lr2 (by assumption) (by assumption)
  · exact FP.sgn_and (by assumption) (FP.lr3 (by assumption) (by assumption) (by assumption) (by assumption))
  · exact FP.sgn_and' (by simpa using ‹¬FP.sgn a = true›) (FP.lr3 (by assumption) (by assumption) (by assumption) (by assumption))
  · exact FP.lr4 (by assumption) (by assumption) (by assumption)
  · exact FP.lr5 (by assumption) (by assumption) (by assumption)
end Go.Proofs.Ytdjilhahafkpfaa
