/- Contract of the laws' own 'laid': heats behind touches. -/
import Derived.Test.YtfkbdijgdhddaaaHu
namespace Go.Proofs.Ytfkbdijgdhddaaa
open Go.RowKit Go.Deep
set_option maxRecDepth 100000
/-- The code's heats and the reference's say the same. -/
def Agree (L : List (Int × Spot)) (R : List Ent) : Prop := ∀ k, entOf R k = some (spotOf L k) ∨ (entOf R k = none ∧ spotOf L k = (0, 0))
theorem heatOf_zero (half now : Int) : heatOf half now (0, 0) = 0 := by
  have h0 : ∀ n, FP.fadeB n 0 = 0 := fun n => FP.fadeB_fix (by decide +kernel) n
  unfold heatOf; rw [h0]; decide +kernel
theorem Agree.val {L : List (Int × Spot)} {R : List Ent} (h : Agree L R) (half now : Int) (k : Int) : refVal half now R k = heatOf half now (spotOf L k) := by
  unfold refVal
  rcases h k with e | ⟨e, e2⟩
  · rw [e]
  · rw [e, e2, heatOf_zero]
theorem ent_keep : ∀ (R : List Ent) (k j : Int), entOf (keepS k R) j = if k = j then none else entOf R j
  | [], k, j => by simp [keepS, entOf]
  | s :: R, k, j => by
    have ih := ent_keep R k j
    unfold keepS at ih ⊢
    by_cases h : s.1 = k
    · rw [List.filter_cons_of_neg (by simp [h]), ih]
      by_cases hj : k = j
      · simp [hj]
      · rw [if_neg hj, if_neg hj]; simp only [entOf]; rw [if_neg (by omega)]
    · rw [List.filter_cons_of_pos (by simp [h])]
      simp only [entOf, ih]
      by_cases hj : s.1 = j
      · have : ¬ k = j := by omega
        simp [hj, this]
      · simp [hj]
theorem ent_snoc : ∀ (A : List Ent) (s : Ent) (j : Int), entOf (A ++ [s]) j = match entOf A j with | some x => some x | none => if s.1 = j then some s.2 else none
  | [], s, j => by simp [entOf]
  | q :: A, s, j => by
    have ih := ent_snoc A s j
    simp only [List.cons_append, entOf, ih]
    by_cases h : q.1 = j <;> simp [h]
theorem ent_touch (R : List Ent) (k : Int) (x : Nat) (now : Int) (j : Int) : entOf (touchR R k x now) j = if k = j then some (x, now) else entOf R j := by
  unfold touchR
  rw [ent_snoc, ent_keep]
  by_cases h : k = j
  · simp [h]
  · simp only [if_neg h]; cases entOf R j <;> rfl
theorem Agree.touch {L : List (Int × Spot)} {R : List Ent} (h : Agree L R) (k : Int) (x : Nat) (now : Int) : Agree (updS L k (x, now)) (touchR R k x now) := by
  intro j
  rw [ent_touch, spot_upd]
  by_cases hj : k = j
  · left; simp [hj]
  · simp only [if_neg hj]; exact h j
theorem HeatAt.fr {w w' : World} {p b : Nat} {half now : Int} {L : List (Int × Spot)} {S : Nat → Prop} (h : HeatAt w p half now b L) (hF : Fr S w w') (hp : ¬ S p) (hb : ¬ S b) : HeatAt w' p half now b L := by
  have lp := World.block_lt_of_cell? w _ h.c0
  exact ⟨(hF.cell (p := ⟨p, 0, none⟩) lp hp).trans h.c0, (hF.cell (p := ⟨p, 1, none⟩) lp hp).trans h.c1, (hF.cell (p := ⟨p, 2, none⟩) lp hp).trans h.c2, (hF.frozen (p := ⟨p, 1, none⟩) lp hp).trans h.fz, h.m.of_block (hF.block b h.m.lt hb), h.h1, h.h2, h.n0, h.n1, h.sp⟩
theorem own_fr {S : Nat → Prop} {w w' : World} {base : Nat} {e : TypeId} {sz : Nat} {v : Value} {n : Nat} {xs : List Value} (h : w.ownsRow base e sz v n xs) (hF : Fr S w w') (hv : ∀ q, v.ownBlock = some q → ¬ S q) : w'.ownsRow base e sz v n xs := by
  obtain ⟨hl, h | ⟨g, cap, cur, rfl, hg, hh, r⟩⟩ := h
  · exact ⟨hl, Or.inl h⟩
  · exact ⟨hl, Or.inr ⟨g, cap, cur, rfl, hg, (hF.block g (Array.getElem?_eq_some_iff.1 hh).1 (hv g rfl)).trans hh, r⟩⟩
theorem RefAt.fr {w w' : World} {p base : Nat} {half now : Int} {v : Value} {R : List Ent} {S : Nat → Prop} (h : RefAt w p half now base v R) (hF : Fr S w w') (hp : ¬ S p) (hv : ∀ q, v.ownBlock = some q → ¬ S q) : RefAt w' p half now base v R := by
  have lp := World.block_lt_of_cell? w _ h.c0
  exact ⟨(hF.cell (p := ⟨p, 0, none⟩) lp hp).trans h.c0, (hF.cell (p := ⟨p, 1, none⟩) lp hp).trans h.c1, (hF.cell (p := ⟨p, 2, none⟩) lp hp).trans h.c2, (hF.frozen (p := ⟨p, 1, none⟩) lp hp).trans h.f1, (hF.frozen (p := ⟨p, 2, none⟩) lp hp).trans h.f2, own_fr h.own hF hv, h.ne, h.h1, h.h2, h.n0, h.n1, h.len, h.sp⟩
theorem Fr.undrew {S : Nat → Prop} {w w' : World} (h : Fr S w.drew w') : Fr S w w' := ⟨h.os, h.tape, h.output, h.size, h.block⟩
theorem RefAt.drew {w : World} {p base : Nat} {half now : Int} {v : Value} {R : List Ent} (h : RefAt w p half now base v R) : RefAt w.drew p half now base v R := h.drewN 1
/-- Both heats, side by side, in memory of the call's own (from B on). -/
structure Both (w : World) (B p q r : Nat) (half now : Int) : Prop where
  ex : ∃ L v R, HeatAt w p half now q L ∧ RefAt w r half now B v R ∧ Agree L R ∧ (R.length : Int) ≤ now ∧ (∀ x, v.ownBlock = some x → x ≠ p ∧ x ≠ q)
  hp : B ≤ p
  hq : B ≤ q
  hr : B ≤ r
  pr : p ≠ r
  qr : q ≠ r
  sz : B ≤ w.heap.size
theorem both_start {W w1 : World} {p q : Nat} {half : Int} (h : HeatAt w1 p half 0 q []) (hp : W.heap.size ≤ p) (hq : W.heap.size ≤ q) (hW : W.heap.size ≤ w1.heap.size) :
    Both (w1.alloc (.cells #[.int .i64 half, .int .i64 0, .slice none 0 0] 51)) W.heap.size p q w1.heap.size half 0 := by
  have lp := World.block_lt_of_cell? w1 _ h.c0
  have lp' : p < w1.heap.size := lp
  have lq := h.m.lt
  refine ⟨⟨[], .slice none 0 0, [], h.later ((Below.refl _ _).alloc (Nat.le_refl _) _), ⟨by go_cell, by go_cell, by go_cell, World.frozen?_alloc_at _ _ _ _ rfl, World.frozen?_alloc_at _ _ _ _ rfl, ⟨rfl, Or.inl ⟨rfl, rfl⟩⟩, by simp [Value.ownBlock], h.h1, h.h2, by omega, by omega, by simp, by simp⟩, fun k => Or.inr ⟨rfl, rfl⟩, by simp, fun x hx => by cases hx⟩, hp, hq, hW, by omega, by omega, by simp; omega⟩
def LaidPost (W : World) (e : Ending) (w' : World) : Prop := ∃ p q r half now, e = .returned (.tuple #[.pointer (some ⟨p, 0, none⟩), .pointer (some ⟨r, 0, none⟩)]) ∧ Both w' W.heap.size p q r half now ∧ now ≤ 200 ∧ Below W.heap.size W w'
theorem laid_any (W : World) (hf : Int) (bh : -9223372036854775808 ≤ hf ∧ hf ≤ 9223372036854775807) (a : Option Addr) (len cap : Nat) (zs : List (Int × Int × Nat)) (hI : IsA W a len cap zs) :
    Calls Try.prog 14 #[.int .i64 hf, .slice a len cap] W (LaidPost W) := by
  have m1 := Int.emod_nonneg hf (show (1000 : Int) ≠ 0 by omega)
  have m2 := Int.emod_lt_of_pos hf (show (0 : Int) < 1000 by omega)
  have Pk1 := Lib.hid (pick_any hf 1000 (by omega) (by omega) bh)
  clear bh
  generalize hf % 1000 = g at m1 m2 Pk1
  have HI := Lib.hid hI
  have hmax := hI.hmax
  have hcap := hI.hcap
  have Hlen := Lib.hid hI.hlen
  clear hI
  unfold maxLen at hmax
  go_enter Try.func14, Try.ntmps14
  go_wp2_with fail
  refine (Pk1.out _).mono ?_
  rintro e w' ⟨rfl, rfl⟩
  go_wp2_with fail
  refine (new_good (1 + g) (by omega) (by omega) _).mono ?_
  rintro e w1 ⟨p, q, rfl, h1, hp, hq, hB⟩
  have H1 := Lib.hid h1; clear h1
  have HB0 : Hid (Both (w1.alloc (.cells #[.int .i64 (1 + g), .int .i64 0, .slice none 0 0] 51)) W.heap.size p q w1.heap.size (1 + g) 0) := both_start H1.out hp hq hB.size
  have hB0 : Below W.heap.size W (w1.alloc (.cells #[.int .i64 (1 + g), .int .i64 0, .slice none 0 0] 51)) := hB.alloc hB.size _
  have hrn : W.heap.size ≤ w1.heap.size := hB.size
  clear hB H1
  go_wp2_with fail
  generalize w1.alloc (.cells #[.int .i64 (1 + g), .int .i64 0, .slice none 0 0] 51) = w0 at HB0 hB0
  generalize w1.heap.size = r at HB0 hrn
  go_loopw [9] (fun iv wr => ∃ i : Nat, iv = .int .i64 i ∧ i ≤ len ∧ i ≤ 200 ∧ Hid (Both wr W.heap.size p q r (1 + g) i) ∧ Below W.heap.size W wr) (fun iv _ => len - (intOf iv).toNat)
  case atStart => exact ⟨0, rfl, by omega, by omega, HB0.out, hB0⟩
  case round =>
    obtain ⟨i, rfl, i1, i2, HB, hB⟩ := hrel
    clear HB0 hB0
    by_cases hlt : i < len
    · by_cases h200 : (i : Int) < 200
      · obtain ⟨b, off, ha, hb, hc⟩ : ∃ b off, a = some ⟨b, off, none⟩ ∧ b < W.heap.size ∧ ∀ i, i < zs.length → W.cell? ⟨b, off + i * 3, none⟩ = some (.int .i64 (zs.getD i (0, 0, 0)).1) ∧ W.cell? ⟨b, off + i * 3 + 1, none⟩ = some (.int .i64 (zs.getD i (0, 0, 0)).2.1) ∧ W.cell? ⟨b, off + i * 3 + 2, none⟩ = some (.float .f64 (zs.getD i (0, 0, 0)).2.2) := by
          rcases HI.out.at_ with e | h
          · have := Hlen.out; rw [e] at this; simp at this; omega
          · exact h
        subst ha
        obtain ⟨-, k1, k2⟩ := hc i (by have := Hlen.out; omega)
        clear hc
        have k1' := (hB.cell (p := ⟨b, off + i * 3 + 1, none⟩) hb).trans k1
        have k2' := (hB.cell (p := ⟨b, off + i * 3 + 2, none⟩) hb).trans k2
        clear k1 k2
        generalize (zs.getD i (0, 0, 0)).2.1 = ky at k1'
        generalize (zs.getD i (0, 0, 0)).2.2 = x at k2'
        obtain ⟨⟨L, v, R, hH, hR, hA, hl, hv⟩, -, -, -, hpr, hqr, hsz⟩ := HB.out
        have HH := Lib.hid hH; clear hH
        have HR := Lib.hid hR; clear hR
        have HA := Lib.hid hA; clear hA
        have Hv := Lib.hid hv; clear hv
        have hi0 : (0 : Int) ≤ (i : Int) := Int.natCast_nonneg _
        have hi1 : (i : Int) < (len : Int) := by omega
        have hbw : b < wr.heap.size := by omega
        have nb1 : Hid (¬ (b = p ∨ b = q)) := by unfold Hid; omega
        have nb2 : Hid (¬ b = r) := by unfold Hid; omega
        go_wp2_with fail
        go_region_held3 (fun w' => w'.cell? ⟨b, off + i * 3 + 1, none⟩ = some (.int .i64 ky) ∧ w'.cell? ⟨b, off + i * 3 + 2, none⟩ = some (.float .f64 x))
          (first | go_keep | exact ⟨(f2.cell (p := ⟨b, off + i * 3 + 1, none⟩) hbw nb1.out).trans k1', (f2.cell (p := ⟨b, off + i * 3 + 2, none⟩) hbw nb1.out).trans k2'⟩)
          ((first | (go_at_call 9; refine (touch_at _ p q (1 + g) i L HH.out.drew (by omega) ky x).mono ?_; rintro e w2 ⟨rfl, h2, f2⟩)))
        have H2 := Lib.hid h2; clear h2
        have F2 := Lib.hid (Fr.undrew f2); clear f2
        have s2 := F2.out.size
        have R2 := Lib.hid (HR.out.fr F2.out (by omega) (fun y hy => by have := Hv.out y hy; omega))
        have m1' := (F2.out.cell (p := ⟨b, off + i * 3 + 1, none⟩) hbw nb1.out).trans k1'
        have m2' := (F2.out.cell (p := ⟨b, off + i * 3 + 2, none⟩) hbw nb1.out).trans k2'
        have hbw2 : b < w2.heap.size := by omega
        have HVal := Lib.hid (HA.out.val (1 + g) (i + 1) ky)
        clear k1' k2' HR HB
        go_wp2_with fail
        go_region_held3 (fun w' => w'.cell? ⟨b, off + i * 3 + 1, none⟩ = some (.int .i64 ky) ∧ w'.cell? ⟨b, off + i * 3 + 2, none⟩ = some (.float .f64 x))
          (first | go_keep | exact ⟨(f3.cell (p := ⟨b, off + i * 3 + 1, none⟩) hbw2 nb2.out).trans m1', (f3.cell (p := ⟨b, off + i * 3 + 2, none⟩) hbw2 nb2.out).trans m2'⟩)
          ((first | (go_at_call 24; refine (refTouch_at _ r W.heap.size (1 + g) i v R R2.out.drew (by show W.heap.size ≤ w2.heap.size; omega) (by omega) (by omega) ky x).mono ?_; rintro e w3 ⟨rfl, ⟨v3, h3, q3⟩, f3⟩)))
        have F3 := Lib.hid (Fr.undrew f3); clear f3
        have s3 := F3.out.size
        have BB : Hid (Both w3 W.heap.size p q r (1 + g) (i + 1)) := by
          rw [HVal.out] at h3
          refine ⟨⟨_, v3, _, H2.out.fr F3.out (by omega) (by omega), h3, HA.out.touch _ _ _, ?_, ?_⟩, hp, hq, hrn, hpr, hqr, by omega⟩
          · have := keep_le ky R
            simp [touchR]; omega
          · intro y hy
            have h1 : w2.heap.size ≤ y := q3 y hy
            have h2 := World.block_lt_of_cell? w2 _ H2.out.c0
            have h2' : p < w2.heap.size := h2
            have h4 := H2.out.m.lt
            omega
        have hB3 : Below W.heap.size W w3 := hB.trans (((F2.out.mono (T := fun y => y = p ∨ y = q ∨ y = r) (by rintro y (h | h); exact Or.inl h; exact Or.inr (Or.inl h))).trans (F3.out.mono (fun y h => Or.inr (Or.inr h)))).below hsz (by rintro y (h | h | h) <;> omega))
        clear h3 q3
        go_wp2
        go_roundw
        case rel => exact ⟨i + 1, by go_num, by omega, by omega, BB.out, hB3⟩
        case measure => simp [intOf]; omega
      · go_wp2
        go_ret2
        exact ⟨p, q, r, 1 + g, i, rfl, HB.out, by omega, hB⟩
    · go_wp2
      go_ret2
      exact ⟨p, q, r, 1 + g, i, rfl, HB.out, by omega, hB⟩
end Go.Proofs.Ytfkbdijgdhddaaa
