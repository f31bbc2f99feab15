/- Contracts: bringing between, steps, halving and fading. -/
import Derived.Test.YtdjilhahafkpfaaRb
import Derived.Handy
namespace Go.Proofs.Ytdjilhahafkpfaa
open Go.RowKit
set_option maxRecDepth 100000
theorem negzero (w : World) : Calls Try.prog 50 #[.float .f64 0, .float .f64 13830554455654793216] w fun e w' => e = .returned (.float .f64 9223372036854775808) ∧ w = w' :=
  (copysign_any 0 13830554455654793216 (by omega) (by omega) w).mono fun _ _ ⟨h, h'⟩ => ⟨h.trans (ret_f64 (by decide +kernel)), h'⟩
theorem quo_two {c : Nat} (hc : c < 18446744073709551616) (hN : FP.isNaN c = false) (t : TypeId) (w : World) : (binOp .quo t (.float .f64 c) (.float .f64 4611686018427387904)).run Try.prog w = .ok (.float .f64 (FP.halfB c)) w := by
  refine run_float_arith w .quo t .f64 c _ _ ?_
  show Ieee.double.div c 4611686018427387904 = _
  by_cases h : FP.rung c < 9218868437227405312
  · rw [FP.div_two_fin h]; unfold FP.halfB; rw [if_pos h]
  · have hr := FP.rung_num hN
    have he : FP.rung c = 9218868437227405312 := by omega
    rw [FP.div_two_inf he]; unfold FP.halfB; rw [if_neg h, ← he, FP.word_parts hc]
theorem cut_nan (x y q : Nat) : (Question.nanBits .f64 x y).cut q < 18446744073709551616 ∧ FP.isNaN ((Question.nanBits .f64 x y).cut q) = true := by
  have e : (Question.nanBits .f64 x y).cut q = (q % 2) * 9223372036854775808 + 9218868437227405312 + 1 + (q / 2) % 4503599627370495 := rfl
  rw [e]
  have h1 : q % 2 = 0 ∨ q % 2 = 1 := by omega
  have h2 : (q / 2) % 4503599627370495 < 4503599627370495 := Nat.mod_lt _ (by omega)
  generalize (q / 2) % 4503599627370495 = t at h2
  unfold FP.isNaN FP.rung
  rcases h1 with h | h <;> rw [h] <;> simp <;> omega
theorem floatArith_none {P : Program} {op : BinOp} {x y : Nat} (hop : op = .add ∨ op = .sub ∨ op = .mul ∨ op = .quo) (h : floatBits op .f64 x y = none) (w : World) :
    (Op.floatArith op .f64 x y).run P w = .ok (.float .f64 ((Question.nanBits .f64 x y).cut (w.tape w.drawn (.nanBits .f64 x y)))) w.drew := by
  unfold floatBits at h
  rcases hop with rfl | rfl | rfl | rfl <;> simp only at h <;> unfold Op.floatArith <;> simp only [h, pure_bind, Sem.run_bind, run_choose, Question.forced] <;> rfl
theorem binOp_float {op : BinOp} {x y : Nat} (hop : op = .add ∨ op = .sub ∨ op = .mul ∨ op = .quo) (t : TypeId) : binOp op t (.float .f64 x) (.float .f64 y) = Op.floatArith op .f64 x y := by
  rcases hop with rfl | rfl | rfl | rfl <;> simp only [binOp] <;> rw [if_neg (by simp)]
/-- An operation that has no answer gives some no number; an answer is drawn. -/
theorem run_float_none {op : BinOp} {x y : Nat} (hop : op = .add ∨ op = .sub ∨ op = .mul ∨ op = .quo) (h : floatBits op .f64 x y = none) (t : TypeId) (w : World) :
    ∃ r, r < 18446744073709551616 ∧ FP.isNaN r = true ∧ (binOp op t (.float .f64 x) (.float .f64 y)).run Try.prog w = .ok (.float .f64 r) w.drew := by
  refine ⟨(Question.nanBits .f64 x y).cut (w.tape w.drawn (.nanBits .f64 x y)), (cut_nan _ _ _).1, (cut_nan _ _ _).2, ?_⟩
  rw [binOp_float hop, floatArith_none hop h]
theorem quo_two_nan {c : Nat} (hN : FP.isNaN c = true) (t : TypeId) (w : World) : ∃ r, FP.isNaN r = true ∧ (binOp .quo t (.float .f64 c) (.float .f64 4611686018427387904)).run Try.prog w = .ok (.float .f64 r) w.drew := by
  obtain ⟨r, -, h1, h2⟩ := run_float_none (op := .quo) (x := c) (y := 4611686018427387904) (by simp) (by show Ieee.double.div _ _ = none; exact FP.div_two_nan (by simpa [FP.isNaN] using hN)) t w
  exact ⟨r, h1, h2⟩
theorem nan_eq {b : Nat} {v : Bool} (h : FP.isNaN b = !v) : (FloatKind.f64.format.order b b == some Ordering.eq) = v := by
  have := FP.eq_eq b b
  rw [show FloatKind.f64.format = Ieee.double from rfl, this, h]; simp
theorem nan_ne_any {r b : Nat} (h : FP.isNaN r = true) : (FloatKind.f64.format.order r b != some Ordering.eq) = true := by
  rw [show FloatKind.f64.format = Ieee.double from rfl, FP.order_nan_l h]; rfl
end Go.Proofs.Ytdjilhahafkpfaa
