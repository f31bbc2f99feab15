/- A gauge: the sum of two numbers. -/
import Derived.Test.YtdjilhahafkpfaaLt
import Derived.Test.YtdjilhahafkpfaaFpk
namespace Go.Proofs.Ytdjilhahafkpfaa
open Go.RowKit Go.Deep
set_option maxRecDepth 100000
/-- What a sum without an answer draws. -/
def nanOf (x y : Nat) (w : World) : Nat := (Question.nanBits .f64 x y).cut (w.tape w.drawn (.nanBits .f64 x y))
theorem nanOf_spec (x y : Nat) (w : World) : nanOf x y w < 18446744073709551616 ∧ FP.isNaN (nanOf x y w) = true := by
  unfold nanOf; exact cut_nan _ _ _
theorem run_add_none {x y : Nat} (h : Ieee.double.add x y = none) (t : TypeId) (w : World) : (binOp .add t (.float .f64 x) (.float .f64 y)).run Try.prog w = .ok (.float .f64 (nanOf x y w)) w.drew := by
  have h' : floatBits .add .f64 x y = none := h
  rw [binOp_float (by simp), floatArith_none (by simp) h']; rfl
theorem run_add_some {x y r : Nat} (h : Ieee.double.add x y = some r) (t : TypeId) (w : World) : (binOp .add t (.float .f64 x) (.float .f64 y)).run Try.prog w = .ok (.float .f64 r) w :=
  run_float_arith w .add t .f64 x y r h
theorem kinds (x : Nat) : FP.isNaN x = true ∨ (FP.isNaN x = false ∧ FP.isInf x = true ∧ FP.sgn x = true) ∨ (FP.isNaN x = false ∧ FP.isInf x = true ∧ FP.sgn x = false) ∨ (FP.isNaN x = false ∧ FP.isInf x = false) := by
  cases FP.isNaN x <;> cases FP.isInf x <;> cases FP.sgn x <;> simp
theorem fin_of_kind {x : Nat} (h : FP.isNaN x = false ∧ FP.isInf x = false) : FP.rung x < 9218868437227405312 := by
  have h1 := h.1; have h2 := h.2
  unfold FP.isNaN at h1; unfold FP.isInf at h2; simp at h1 h2; omega
theorem inf_of_kind {x : Nat} (h : FP.isInf x = true) : FP.rung x = 9218868437227405312 := by unfold FP.isInf at h; simpa using h
theorem addG_nan {G : Gs} {x : Nat} (h : FP.isNaN x = true) : addG G x = addN G := by unfold addG; rw [if_pos h]
theorem addG_lo {G : Gs} {x : Nat} (h : FP.isNaN x = false ∧ FP.isInf x = true ∧ FP.sgn x = true) : addG G x = addL' G := by
  unfold addG; rw [if_neg (by rw [h.1]; simp), if_pos h.2.1, if_pos h.2.2]
theorem addG_hi {G : Gs} {x : Nat} (h : FP.isNaN x = false ∧ FP.isInf x = true ∧ FP.sgn x = false) : addG G x = addH G := by
  unfold addG; rw [if_neg (by rw [h.1]; simp), if_pos h.2.1, if_neg (by rw [h.2.2]; simp)]
theorem addG_fin {G : Gs} {x : Nat} (h : FP.isNaN x = false ∧ FP.isInf x = false) : addG G x = addF G x := by
  unfold addG; rw [if_neg (by rw [h.1]; simp), if_neg (by rw [h.2]; simp)]
theorem lo_word {x : Nat} (hx : x < 18446744073709551616) (h : FP.isNaN x = false ∧ FP.isInf x = true ∧ FP.sgn x = true) : x = 18442240474082181120 := by
  have := inf_word hx h.2.1
  rw [h.2.2, if_pos rfl] at this; exact this
theorem hi_word {x : Nat} (hx : x < 18446744073709551616) (h : FP.isNaN x = false ∧ FP.isInf x = true ∧ FP.sgn x = false) : x = 9218868437227405312 := by
  have := inf_word hx h.2.1
  rw [h.2.2, if_neg (by simp)] at this; exact this
theorem key_inf {x : Nat} (h : FP.isInf x = true) : FP.key x ≠ 0 := by
  have := inf_of_kind h
  unfold FP.key; rw [this]; cases FP.sgn x <;> simp
/-- What Sum answers, plainly. -/
def sumV (V : Int) : Nat := if 0 ≤ V then FP.rd V.toNat 0 else negB (FP.rd (-V).toNat 0)
theorem sumOf_fin {G : Gs} (ho : G.o = 0) (hh : G.h = 0) (hl : G.l = 0) : sumOf G = sumV G.V := by
  unfold sumOf; rw [ho, hh, hl, if_neg (by omega), if_neg (by omega), if_neg (by omega)]; rfl
theorem negB_rd (m : Nat) : negB (FP.rd m 0) = Ieee.double.word true (FP.rd m 0) := by
  have := FP.rd_le_inf m 0
  unfold negB
  rw [FP.sgn_false (by omega), FP.rung_pos (by omega)]; rfl
/-- THE SUM of two, against float64's own. -/
theorem two_S (a b : Nat) (ha : a < 18446744073709551616) (hb : b < 18446744073709551616) :
    (∃ r, Ieee.double.add a b = some r ∧ r < 18446744073709551616 ∧ FP.isNaN r = false ∧ (FP.key r = 0 → sumOf (gsOf [a, b]) = 0) ∧ (FP.key r ≠ 0 → sumOf (gsOf [a, b]) = r)) ∨ (Ieee.double.add a b = none ∧ sumOf (gsOf [a, b]) = 9221120237041090561) := by
  have hg : gsOf [a, b] = addG (addG gs0 a) b := rfl
  rw [hg]
  rcases kinds a with ka | ka | ka | ka
  · right
    refine ⟨FP.add_nan_l ka, ?_⟩
    rw [addG_nan ka]
    rcases kinds b with kb | kb | kb | kb
    · rw [addG_nan kb]; rfl
    · rw [addG_lo kb]; rfl
    · rw [addG_hi kb]; rfl
    · rw [addG_fin kb]; unfold sumOf; rw [if_pos (Or.inl (by show 0 < 0 + 1; omega))]
  · rw [addG_lo ka]
    have wa := lo_word ha ka
    rcases kinds b with kb | kb | kb | kb
    · right; rw [addG_nan kb]; exact ⟨FP.add_nan_r kb, rfl⟩
    · left
      rw [addG_lo kb]
      have h := FP.add_inf_inf ha (inf_of_kind ka.2.1) (inf_of_kind kb.2.1)
      rw [ka.2.2, kb.2.2, if_pos rfl] at h
      exact ⟨a, h, ha, ka.1, fun hk => absurd hk (key_inf ka.2.1), fun _ => by rw [wa]; rfl⟩
    · right
      rw [addG_hi kb]
      have h := FP.add_inf_inf ha (inf_of_kind ka.2.1) (inf_of_kind kb.2.1)
      rw [ka.2.2, kb.2.2, if_neg (by simp)] at h
      exact ⟨h, rfl⟩
    · left
      rw [addG_fin kb]
      exact ⟨a, FP.add_inf_fin ha (inf_of_kind ka.2.1) (fin_of_kind kb), ha, ka.1, fun hk => absurd hk (key_inf ka.2.1), fun _ => by rw [wa]; rfl⟩
  · rw [addG_hi ka]
    have wa := hi_word ha ka
    rcases kinds b with kb | kb | kb | kb
    · right; rw [addG_nan kb]; exact ⟨FP.add_nan_r kb, rfl⟩
    · right
      rw [addG_lo kb]
      have h := FP.add_inf_inf ha (inf_of_kind ka.2.1) (inf_of_kind kb.2.1)
      rw [ka.2.2, kb.2.2, if_neg (by simp)] at h
      exact ⟨h, rfl⟩
    · left
      rw [addG_hi kb]
      have h := FP.add_inf_inf ha (inf_of_kind ka.2.1) (inf_of_kind kb.2.1)
      rw [ka.2.2, kb.2.2, if_pos rfl] at h
      exact ⟨a, h, ha, ka.1, fun hk => absurd hk (key_inf ka.2.1), fun _ => by rw [wa]; rfl⟩
    · left
      rw [addG_fin kb]
      exact ⟨a, FP.add_inf_fin ha (inf_of_kind ka.2.1) (fin_of_kind kb), ha, ka.1, fun hk => absurd hk (key_inf ka.2.1), fun _ => by rw [wa]; rfl⟩
  · rw [addG_fin ka]
    rcases kinds b with kb | kb | kb | kb
    · right; rw [addG_nan kb]; exact ⟨FP.add_nan_r kb, rfl⟩
    · left
      rw [addG_lo kb]
      have wb := lo_word hb kb
      exact ⟨b, FP.add_fin_inf hb (inf_of_kind kb.2.1) (fin_of_kind ka), hb, kb.1, fun hk => absurd hk (key_inf kb.2.1), fun _ => by rw [wb]; rfl⟩
    · left
      rw [addG_hi kb]
      have wb := hi_word hb kb
      exact ⟨b, FP.add_fin_inf hb (inf_of_kind kb.2.1) (fin_of_kind ka), hb, kb.1, fun hk => absurd hk (key_inf kb.2.1), fun _ => by rw [wb]; rfl⟩
    · left
      rw [addG_fin kb]
      obtain ⟨r, h1, h2, h3, h4, h5, h6⟩ := FP.add_two (fin_of_kind ka) (fin_of_kind kb)
      have hV : (addF (addF gs0 a) b).V = FP.num a + FP.num b := by show 0 + FP.num a + FP.num b = _; omega
      have hS : sumOf (addF (addF gs0 a) b) = sumV (FP.num a + FP.num b) := by rw [sumOf_fin rfl rfl rfl, hV]
      rw [hS]
      refine ⟨r, h1, h2, h3, fun hk => ?_, fun hk => ?_⟩
      · rw [h4.1 hk]; unfold sumV; rw [if_pos (by omega)]; exact FP.rd_zero 0
      · have hne : FP.num a + FP.num b ≠ 0 := fun e => hk (h4.2 e)
        unfold sumV
        by_cases hp : 0 < FP.num a + FP.num b
        · rw [if_pos (by omega), h5 hp]
        · rw [if_neg (by omega), negB_rd, h6 (by omega)]
end Go.Proofs.Ytdjilhahafkpfaa
