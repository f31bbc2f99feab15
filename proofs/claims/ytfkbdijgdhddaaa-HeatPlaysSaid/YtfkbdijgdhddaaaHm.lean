/- Both heats behind a look at one of them. -/
import Derived.Test.YtfkbdijgdhddaaaHl
namespace Go.Proofs.Ytfkbdijgdhddaaa
open Go.RowKit Go.Deep
set_option maxRecDepth 100000
theorem Both.later {w w' : World} {B p q r : Nat} {half now : Int} (h : Both w B p q r half now) (hB : Below w.heap.size w w') : Both w' B p q r half now := by
  obtain ⟨⟨L, v, R, hH, hR, hA, hl, hv⟩, a, b, c, d, e, f⟩ := h
  refine ⟨⟨L, v, R, hH.later hB, hR.fr (S := fun _ => False) (Fr.of_below hB) (fun h => h) (fun _ _ h => h), hA, hl, hv⟩, a, b, c, d, e, Nat.le_trans f hB.size⟩
theorem Both.drewN {w : World} {B p q r : Nat} {half now : Int} (h : Both w B p q r half now) (n : Nat) : Both (w.drewN n) B p q r half now :=
  h.later ⟨rfl, rfl, rfl, Nat.le_refl _, fun _ _ => rfl⟩
/-- A heat's value, as a function of the key, while both stay. -/
theorem both_of {w : World} {B p q r : Nat} {half now : Int} (h : Both w B p q r half now) : ∃ f : Int → Nat, (∀ k, rightB (f k) = f k ∧ f k < 18446744073709551616) ∧ ∀ w1, Below w.heap.size w w1 → ∀ k,
    (Calls Try.prog 12 #[.pointer (some ⟨p, 0, none⟩), .int .i64 k] w1 fun e w' => e = .returned (.float .f64 (f k)) ∧ Below w1.heap.size w1 w') ∧
    (Calls Try.prog 25 #[.pointer (some ⟨r, 0, none⟩), .int .i64 k] w1 fun e w' => e = .returned (.float .f64 (f k)) ∧ Below w1.heap.size w1 w') := by
  obtain ⟨⟨L, v, R, hH, hR, hA, hl, hv⟩, a, b, c, d, e, f⟩ := h
  refine ⟨fun k => heatOf half now (spotOf L k), fun k => ⟨right_idem _, heatOf_lt half now (hH.sp k).1⟩, fun w1 hB k => ⟨of_at w1 p q half now L (hH.later hB) k, ?_⟩⟩
  refine (refOf_at w1 r B half now v R (hR.fr (S := fun _ => False) (Fr.of_below hB) (fun h => h) (fun _ _ h => h)) k).mono fun e w' ⟨h1, n, h2⟩ => ⟨?_, ?_⟩
  · rw [h1, hA.val]
  · subst h2; exact ⟨rfl, rfl, rfl, Nat.le_refl _, fun _ _ => rfl⟩
theorem right_fix_num {y : Nat} (h : rightB y = y) : FP.isNaN y = false := by rw [← h]; exact right_num y
theorem right_fix_zero {y : Nat} (h : rightB y = y) (h2 : (FloatKind.f64.format.order y 0 == some Ordering.eq) = true) : y = 0 := by
  have hn := right_fix_num h
  have h3 := FP.ord_zero y
  rw [show (Ieee.double.order y 0 == some Ordering.eq) = true from h2, hn] at h3
  simp at h3
  rw [← h]; unfold rightB; rw [if_neg (by simp [hn]), if_pos h3]
end Go.Proofs.Ytfkbdijgdhddaaa
