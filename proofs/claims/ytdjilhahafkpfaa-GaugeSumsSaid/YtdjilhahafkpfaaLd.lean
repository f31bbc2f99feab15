/- A gauge: lay, walked. -/
import Derived.Test.YtdjilhahafkpfaaLc
namespace Go.Proofs.Ytdjilhahafkpfaa
open Go.RowKit Go.Deep
set_option maxRecDepth 100000
def Lim (V : Int) : Prop := -4294967296 ^ 69 ≤ V ∧ V < 4294967296 ^ 69
theorem last_lim {V : Int} (h : Lim V) : -1 ≤ (FP.limbsN 70 V).getD 69 0 ∧ (FP.limbsN 70 V).getD 69 0 ≤ 0 := by
  rw [FP.limbs_last 69 V]
  unfold Lim at h
  have hp : (0 : Int) < 4294967296 ^ 69 := Int.pow_pos (by omega)
  generalize (4294967296 : Int) ^ 69 = B at h hp ⊢
  constructor
  · rw [Int.le_ediv_iff_mul_le hp]; omega
  · have := Int.ediv_lt_of_lt_mul hp (show V < 1 * B by omega); omega
theorem limb_bound {V : Int} (h : Lim V) (j : Nat) (hj : j < 70) : -1 ≤ (FP.limbsN 70 V).getD j 0 ∧ (FP.limbsN 70 V).getD j 0 < 4294967296 := by
  by_cases e : j = 69
  · subst e; have := last_lim h; omega
  · have := FP.limbs_in 70 V j (by omega); omega
theorem lay_sum {L : List Int} {V s m lo hi : Int} {a : Nat} (hL : L.length = 70) (hW : FP.worth L = V) (ha : a < 2046) (hp : lo + 18446744073709551616 * hi = m * 2 ^ (a % 32)) :
    FP.worth (addK L (a / 32) s [lo % 4294967296, lo / 4294967296, hi] 3) = V + s * (m * 2 ^ a) := by
  rw [addK_worth _ _ _ _ _ _ (by omega), hW]
  have e1 : lo % 4294967296 + 4294967296 * (lo / 4294967296 + 4294967296 * hi) = m * 2 ^ (a % 32) := by rw [← hp]; omega
  have e2 : (4294967296 : Int) ^ (a / 32) = 2 ^ (32 * (a / 32)) := by rw [Int.pow_mul]; rfl
  have e3 : (2 : Int) ^ a = 2 ^ (32 * (a / 32)) * 2 ^ (a % 32) := by rw [← Int.pow_add, show 32 * (a / 32) + a % 32 = a by omega]
  rw [e1, e2, e3, Int.mul_left_comm m]
theorem lay_bound {V s p0 p1 p2 : Int} (hV : Lim V) (hs : s = 1 ∨ s = -1) (h0 : 0 ≤ p0 ∧ p0 < 4294967296) (h1 : 0 ≤ p1 ∧ p1 < 4294967296) (h2 : 0 ≤ p2 ∧ p2 < 4294967296) (i0 k j : Nat) (hj : j < 70) :
    -8589934592 ≤ (addK (FP.limbsN 70 V) i0 s [p0, p1, p2] k).getD j 0 ∧ (addK (FP.limbsN 70 V) i0 s [p0, p1, p2] k).getD j 0 ≤ 8589934592 := by
  rw [addK_getD _ _ _ _ _ _ (by rw [FP.limbsN_length]; exact hj)]
  have hb := limb_bound hV j hj
  have hp : ∀ i, 0 ≤ [p0, p1, p2].getD i 0 ∧ [p0, p1, p2].getD i 0 < 4294967296 := by
    intro i
    match i with
    | 0 => exact h0
    | 1 => exact h1
    | 2 => exact h2
    | i + 3 => exact ⟨by simp, by simp⟩
  split
  · have := hp (j - i0)
    generalize [p0, p1, p2].getD (j - i0) 0 = q at this ⊢
    rcases hs with rfl | rfl <;> omega
  · omega
theorem jx0 (x y z : Int) (w : World) : (Instr.index 61 (.agg #[.int .u64 x, .int .u64 y, .int .u64 z]) (.int .i64 0)).run Try.prog w = .ok (.int .u64 x) w := rfl
theorem jx1 (x y z : Int) (w : World) : (Instr.index 61 (.agg #[.int .u64 x, .int .u64 y, .int .u64 z]) (.int .i64 1)).run Try.prog w = .ok (.int .u64 y) w := rfl
theorem jx2 (x y z : Int) (w : World) : (Instr.index 61 (.agg #[.int .u64 x, .int .u64 y, .int .u64 z]) (.int .i64 2)).run Try.prog w = .ok (.int .u64 z) w := rfl
set_option maxHeartbeats 2000000 in
theorem lay_a (w : World) (p : Nat) (V : Int) (t : List Value) (h : GB w p (FP.limbsN 70 V) t) (hV : Lim V) (x : Nat) (hx : x < 18446744073709551616) (n m0 : Int) (a : Nat) (ha : a < 2046) (hn : n = (x : Int)) (hm0 : n % 4503599627370496 = m0) (hat : n / 4503599627370496 % 2048 = (a : Int) + 1) (hs : n / 9223372036854775808 = 1) :
    Calls Try.prog 27 #[.pointer (some ⟨p, 0, none⟩), .float .f64 x] w fun e w' => e = .returned (.tuple #[]) ∧ GB w' p (FP.limbsN 70 (V + (-1) * ((m0 + 4503599627370496) * 2 ^ a))) t ∧ Fr (fun q => q = p) w w' := by
  have hbits := run_bits_at hn
  have a1 := and52 n (by omega) (by omega)
  have a2 := and11 (n / 4503599627370496) (by omega) (by omega)
  rw [hm0] at a1
  rw [hat] at a2
  have a3 := or52 m0 (by omega) (by omega)
  have b1 : 0 ≤ m0 ∧ m0 < 4503599627370496 := by omega
  have hP := lay_parts (m0 + 4503599627370496) a (by omega)
  have HN := Lib.hid hn
  have H := Lib.hid h
  have HV := Lib.hid hV
  clear hn hm0 hat h hV
  go_enter Try.func27, Try.ntmps27
  go_wp2
  go_quiet (fail)
  generalize IntKind.u64.wrap ((m0 + 4503599627370496) * 2 ^ (a % 32)) = lo at hP ⊢
  generalize (m0 + 4503599627370496) / 2 ^ (64 - a % 32) = hi at hP ⊢
  obtain ⟨⟨l0, l1⟩, ⟨g0, g1⟩, hsum⟩ := hP
  have HS := Lib.hid (lay_sum (V := V) (s := -1) (FP.limbsN_length 70 V) (FP.worth_limbs 69 V) ha hsum)
  clear hsum a1 a2 a3
  go_wp2
  generalize hA : (a : Int) / 32 = I
  obtain ⟨i0, hi0⟩ : ∃ i0 : Nat, i0 = a / 32 := ⟨_, rfl⟩
  obtain rfl : I = (i0 : Int) := by omega
  have hi64 : i0 ≤ 63 := by omega
  rw [← hi0] at HS
  clear hA hi0
  generalize hp0 : lo % 4294967296 = p0 at HS ⊢
  generalize hp1 : lo / 4294967296 = p1 at HS ⊢
  have q0 : 0 ≤ p0 ∧ p0 < 4294967296 := by omega
  have q1 : 0 ≤ p1 ∧ p1 < 4294967296 := by omega
  have q2 : 0 ≤ hi ∧ hi < 4294967296 := ⟨g0, g1⟩
  have HBd := Lib.hid fun k j hj => lay_bound HV.out (s := -1) (Or.inr rfl) q0 q1 q2 i0 k j hj
  clear hp0 hp1
  go_loopw [10, 50] (fun iv kv wr => ∃ k : Nat, k ≤ 3 ∧ kv = .int .i64 k ∧ iv = .int .i64 ((i0 + k : Nat) : Int) ∧ Hid (GB wr p (addK (FP.limbsN 70 V) i0 (-1) [p0, p1, hi] k) t) ∧ Fr (fun q => q = p) w wr) (fun _ kv _ => 3 - (intOf kv).toNat)
  case atStart => exact ⟨0, by omega, rfl, rfl, H.out.below ⟨rfl, rfl, rfl, Nat.le_refl _, fun _ _ => rfl⟩, (Fr.refl _ w).drewN nq⟩
  case round =>
    obtain ⟨k, k3, rfl, rfl, hG, hF⟩ := hrel
    rcases (show k = 0 ∨ k = 1 ∨ k = 2 ∨ k = 3 by omega) with rfl | rfl | rfl | rfl
    · have c1 := hG.out.limb (i := i0) (by omega)
      have hyb := HBd.out 0 (i0) (by omega)
      have f1 := hG.out.froz (i0)
      have HSet : Hid (GB (wr.setCell ⟨p, i0, none⟩ (.int .i64 ((addK (FP.limbsN 70 V) i0 (-1) [p0, p1, hi] 0).getD (i0) 0 + -1 * p0))) p (addK (FP.limbsN 70 V) i0 (-1) [p0, p1, hi] (0 + 1)) t) := hG.out.set (i := i0) (by omega) _
      generalize (addK (FP.limbsN 70 V) i0 (-1) [p0, p1, hi] 0).getD (i0) 0 = y at c1 hyb HSet
      have e1 : -1 * p0 = -p0 := by omega
      rw [e1] at HSet
      have w1 : wrap64 (-p0) = -p0 := IntWalk.wrap64_in _ (by omega)
      have w2 : IntKind.i64.wrap (-p0) = -p0 := IntWalk.i64_in _ (by omega)
      have w3 : wrap64 (y + -p0) = y + -p0 := IntWalk.wrap64_in _ (by omega)
      have w4 : IntKind.i64.wrap (y + -p0) = y + -p0 := IntWalk.i64_in _ (by omega)
      have hix : (i0 : Int) + 0 < 70 := by omega
      clear e1
      have hjx := jx0
      go_wp2
      go_region
      all_goals
        go_wp2
        go_roundw
        case rel => exact ⟨0 + 1, by omega, by first | rfl | trivial | go_num, by first | rfl | go_num | (congr 1; omega), ⟨HSet.out.b, HSet.out.l, HSet.out.n⟩, (hF.setCell (Or.inl rfl) _).drew⟩
        case measure => simp [intOf]
    · have c1 := hG.out.limb (i := i0 + 1) (by omega)
      have hyb := HBd.out 1 (i0 + 1) (by omega)
      have f1 := hG.out.froz (i0 + 1)
      have HSet : Hid (GB (wr.setCell ⟨p, i0 + 1, none⟩ (.int .i64 ((addK (FP.limbsN 70 V) i0 (-1) [p0, p1, hi] 1).getD (i0 + 1) 0 + -1 * p1))) p (addK (FP.limbsN 70 V) i0 (-1) [p0, p1, hi] (1 + 1)) t) := hG.out.set (i := i0 + 1) (by omega) _
      generalize (addK (FP.limbsN 70 V) i0 (-1) [p0, p1, hi] 1).getD (i0 + 1) 0 = y at c1 hyb HSet
      have e1 : -1 * p1 = -p1 := by omega
      rw [e1] at HSet
      have w1 : wrap64 (-p1) = -p1 := IntWalk.wrap64_in _ (by omega)
      have w2 : IntKind.i64.wrap (-p1) = -p1 := IntWalk.i64_in _ (by omega)
      have w3 : wrap64 (y + -p1) = y + -p1 := IntWalk.wrap64_in _ (by omega)
      have w4 : IntKind.i64.wrap (y + -p1) = y + -p1 := IntWalk.i64_in _ (by omega)
      have hix : (i0 : Int) + 1 < 70 := by omega
      clear e1
      have hjx := jx1
      go_wp2
      go_region
      all_goals
        go_wp2
        go_roundw
        case rel => exact ⟨1 + 1, by omega, by first | rfl | trivial | go_num, by first | rfl | go_num | (congr 1; omega), ⟨HSet.out.b, HSet.out.l, HSet.out.n⟩, (hF.setCell (Or.inl rfl) _).drew⟩
        case measure => simp [intOf]
    · have c1 := hG.out.limb (i := i0 + 2) (by omega)
      have hyb := HBd.out 2 (i0 + 2) (by omega)
      have f1 := hG.out.froz (i0 + 2)
      have HSet : Hid (GB (wr.setCell ⟨p, i0 + 2, none⟩ (.int .i64 ((addK (FP.limbsN 70 V) i0 (-1) [p0, p1, hi] 2).getD (i0 + 2) 0 + -1 * hi))) p (addK (FP.limbsN 70 V) i0 (-1) [p0, p1, hi] (2 + 1)) t) := hG.out.set (i := i0 + 2) (by omega) _
      generalize (addK (FP.limbsN 70 V) i0 (-1) [p0, p1, hi] 2).getD (i0 + 2) 0 = y at c1 hyb HSet
      have e1 : -1 * hi = -hi := by omega
      rw [e1] at HSet
      have w1 : wrap64 (-hi) = -hi := IntWalk.wrap64_in _ (by omega)
      have w2 : IntKind.i64.wrap (-hi) = -hi := IntWalk.i64_in _ (by omega)
      have w3 : wrap64 (y + -hi) = y + -hi := IntWalk.wrap64_in _ (by omega)
      have w4 : IntKind.i64.wrap (y + -hi) = y + -hi := IntWalk.i64_in _ (by omega)
      have hix : (i0 : Int) + 2 < 70 := by omega
      clear e1
      have hjx := jx2
      go_wp2
      go_region
      all_goals
        go_wp2
        go_roundw
        case rel => exact ⟨2 + 1, by omega, by first | rfl | trivial | go_num, by first | rfl | go_num | (congr 1; omega), ⟨HSet.out.b, HSet.out.l, HSet.out.n⟩, (hF.setCell (Or.inl rfl) _).drew⟩
        case measure => simp [intOf]
    · have HC := Lib.hid (carry_any wr p _ t hG.out fun j hj => by have := HBd.out 3 j hj; omega)
      rw [HS.out] at HC
      clear HS
      go_wp2_with (go_at_call 33; refine HC.out.mono ?_; rintro e w2 ⟨rfl, h2, f2⟩; replace h2 := Lib.hid h2)
      go_end0
      exact ⟨rfl, h2.out, hF.trans f2⟩
set_option maxHeartbeats 2000000 in
theorem lay_b (w : World) (p : Nat) (V : Int) (t : List Value) (h : GB w p (FP.limbsN 70 V) t) (hV : Lim V) (x : Nat) (hx : x < 18446744073709551616) (n m0 : Int) (a : Nat) (ha : a < 2046) (hn : n = (x : Int)) (hm0 : n % 4503599627370496 = m0) (hat : n / 4503599627370496 % 2048 = (a : Int) + 1) (hs : n / 9223372036854775808 = 0) :
    Calls Try.prog 27 #[.pointer (some ⟨p, 0, none⟩), .float .f64 x] w fun e w' => e = .returned (.tuple #[]) ∧ GB w' p (FP.limbsN 70 (V + (1) * ((m0 + 4503599627370496) * 2 ^ a))) t ∧ Fr (fun q => q = p) w w' := by
  have hbits := run_bits_at hn
  have a1 := and52 n (by omega) (by omega)
  have a2 := and11 (n / 4503599627370496) (by omega) (by omega)
  rw [hm0] at a1
  rw [hat] at a2
  have a3 := or52 m0 (by omega) (by omega)
  have b1 : 0 ≤ m0 ∧ m0 < 4503599627370496 := by omega
  have hP := lay_parts (m0 + 4503599627370496) a (by omega)
  have HN := Lib.hid hn
  have H := Lib.hid h
  have HV := Lib.hid hV
  clear hn hm0 hat h hV
  go_enter Try.func27, Try.ntmps27
  go_wp2
  go_quiet (fail)
  generalize IntKind.u64.wrap ((m0 + 4503599627370496) * 2 ^ (a % 32)) = lo at hP ⊢
  generalize (m0 + 4503599627370496) / 2 ^ (64 - a % 32) = hi at hP ⊢
  obtain ⟨⟨l0, l1⟩, ⟨g0, g1⟩, hsum⟩ := hP
  have HS := Lib.hid (lay_sum (V := V) (s := 1) (FP.limbsN_length 70 V) (FP.worth_limbs 69 V) ha hsum)
  clear hsum a1 a2 a3
  go_wp2
  generalize hA : (a : Int) / 32 = I
  obtain ⟨i0, hi0⟩ : ∃ i0 : Nat, i0 = a / 32 := ⟨_, rfl⟩
  obtain rfl : I = (i0 : Int) := by omega
  have hi64 : i0 ≤ 63 := by omega
  rw [← hi0] at HS
  clear hA hi0
  generalize hp0 : lo % 4294967296 = p0 at HS ⊢
  generalize hp1 : lo / 4294967296 = p1 at HS ⊢
  have q0 : 0 ≤ p0 ∧ p0 < 4294967296 := by omega
  have q1 : 0 ≤ p1 ∧ p1 < 4294967296 := by omega
  have q2 : 0 ≤ hi ∧ hi < 4294967296 := ⟨g0, g1⟩
  have HBd := Lib.hid fun k j hj => lay_bound HV.out (s := 1) (Or.inl rfl) q0 q1 q2 i0 k j hj
  clear hp0 hp1
  go_loopw [10, 50] (fun iv kv wr => ∃ k : Nat, k ≤ 3 ∧ kv = .int .i64 k ∧ iv = .int .i64 ((i0 + k : Nat) : Int) ∧ Hid (GB wr p (addK (FP.limbsN 70 V) i0 (1) [p0, p1, hi] k) t) ∧ Fr (fun q => q = p) w wr) (fun _ kv _ => 3 - (intOf kv).toNat)
  case atStart => exact ⟨0, by omega, rfl, rfl, H.out.below ⟨rfl, rfl, rfl, Nat.le_refl _, fun _ _ => rfl⟩, (Fr.refl _ w).drewN nq⟩
  case round =>
    obtain ⟨k, k3, rfl, rfl, hG, hF⟩ := hrel
    rcases (show k = 0 ∨ k = 1 ∨ k = 2 ∨ k = 3 by omega) with rfl | rfl | rfl | rfl
    · have c1 := hG.out.limb (i := i0) (by omega)
      have hyb := HBd.out 0 (i0) (by omega)
      have f1 := hG.out.froz (i0)
      have HSet : Hid (GB (wr.setCell ⟨p, i0, none⟩ (.int .i64 ((addK (FP.limbsN 70 V) i0 (1) [p0, p1, hi] 0).getD (i0) 0 + 1 * p0))) p (addK (FP.limbsN 70 V) i0 (1) [p0, p1, hi] (0 + 1)) t) := hG.out.set (i := i0) (by omega) _
      generalize (addK (FP.limbsN 70 V) i0 (1) [p0, p1, hi] 0).getD (i0) 0 = y at c1 hyb HSet
      have e1 : 1 * p0 = p0 := by omega
      rw [e1] at HSet
      have w1 : wrap64 (p0) = p0 := IntWalk.wrap64_in _ (by omega)
      have w2 : IntKind.i64.wrap (p0) = p0 := IntWalk.i64_in _ (by omega)
      have w3 : wrap64 (y + p0) = y + p0 := IntWalk.wrap64_in _ (by omega)
      have w4 : IntKind.i64.wrap (y + p0) = y + p0 := IntWalk.i64_in _ (by omega)
      have hix : (i0 : Int) + 0 < 70 := by omega
      clear e1
      have hjx := jx0
      go_wp2
      go_region
      all_goals
        go_wp2
        go_roundw
        case rel => exact ⟨0 + 1, by omega, by first | rfl | trivial | go_num, by first | rfl | go_num | (congr 1; omega), ⟨HSet.out.b, HSet.out.l, HSet.out.n⟩, (hF.setCell (Or.inl rfl) _).drew⟩
        case measure => simp [intOf]
    · have c1 := hG.out.limb (i := i0 + 1) (by omega)
      have hyb := HBd.out 1 (i0 + 1) (by omega)
      have f1 := hG.out.froz (i0 + 1)
      have HSet : Hid (GB (wr.setCell ⟨p, i0 + 1, none⟩ (.int .i64 ((addK (FP.limbsN 70 V) i0 (1) [p0, p1, hi] 1).getD (i0 + 1) 0 + 1 * p1))) p (addK (FP.limbsN 70 V) i0 (1) [p0, p1, hi] (1 + 1)) t) := hG.out.set (i := i0 + 1) (by omega) _
      generalize (addK (FP.limbsN 70 V) i0 (1) [p0, p1, hi] 1).getD (i0 + 1) 0 = y at c1 hyb HSet
      have e1 : 1 * p1 = p1 := by omega
      rw [e1] at HSet
      have w1 : wrap64 (p1) = p1 := IntWalk.wrap64_in _ (by omega)
      have w2 : IntKind.i64.wrap (p1) = p1 := IntWalk.i64_in _ (by omega)
      have w3 : wrap64 (y + p1) = y + p1 := IntWalk.wrap64_in _ (by omega)
      have w4 : IntKind.i64.wrap (y + p1) = y + p1 := IntWalk.i64_in _ (by omega)
      have hix : (i0 : Int) + 1 < 70 := by omega
      clear e1
      have hjx := jx1
      go_wp2
      go_region
      all_goals
        go_wp2
        go_roundw
        case rel => exact ⟨1 + 1, by omega, by first | rfl | trivial | go_num, by first | rfl | go_num | (congr 1; omega), ⟨HSet.out.b, HSet.out.l, HSet.out.n⟩, (hF.setCell (Or.inl rfl) _).drew⟩
        case measure => simp [intOf]
    · have c1 := hG.out.limb (i := i0 + 2) (by omega)
      have hyb := HBd.out 2 (i0 + 2) (by omega)
      have f1 := hG.out.froz (i0 + 2)
      have HSet : Hid (GB (wr.setCell ⟨p, i0 + 2, none⟩ (.int .i64 ((addK (FP.limbsN 70 V) i0 (1) [p0, p1, hi] 2).getD (i0 + 2) 0 + 1 * hi))) p (addK (FP.limbsN 70 V) i0 (1) [p0, p1, hi] (2 + 1)) t) := hG.out.set (i := i0 + 2) (by omega) _
      generalize (addK (FP.limbsN 70 V) i0 (1) [p0, p1, hi] 2).getD (i0 + 2) 0 = y at c1 hyb HSet
      have e1 : 1 * hi = hi := by omega
      rw [e1] at HSet
      have w1 : wrap64 (hi) = hi := IntWalk.wrap64_in _ (by omega)
      have w2 : IntKind.i64.wrap (hi) = hi := IntWalk.i64_in _ (by omega)
      have w3 : wrap64 (y + hi) = y + hi := IntWalk.wrap64_in _ (by omega)
      have w4 : IntKind.i64.wrap (y + hi) = y + hi := IntWalk.i64_in _ (by omega)
      have hix : (i0 : Int) + 2 < 70 := by omega
      clear e1
      have hjx := jx2
      go_wp2
      go_region
      all_goals
        go_wp2
        go_roundw
        case rel => exact ⟨2 + 1, by omega, by first | rfl | trivial | go_num, by first | rfl | go_num | (congr 1; omega), ⟨HSet.out.b, HSet.out.l, HSet.out.n⟩, (hF.setCell (Or.inl rfl) _).drew⟩
        case measure => simp [intOf]
    · have HC := Lib.hid (carry_any wr p _ t hG.out fun j hj => by have := HBd.out 3 j hj; omega)
      rw [HS.out] at HC
      clear HS
      go_wp2_with (go_at_call 33; refine HC.out.mono ?_; rintro e w2 ⟨rfl, h2, f2⟩; replace h2 := Lib.hid h2)
      go_end0
      exact ⟨rfl, h2.out, hF.trans f2⟩
set_option maxHeartbeats 2000000 in
theorem lay_c (w : World) (p : Nat) (V : Int) (t : List Value) (h : GB w p (FP.limbsN 70 V) t) (hV : Lim V) (x : Nat) (hx : x < 18446744073709551616) (n m0 : Int) (a : Nat) (ha : a = 0) (hn : n = (x : Int)) (hm0 : n % 4503599627370496 = m0) (hat : n / 4503599627370496 % 2048 = 0) (hs : n / 9223372036854775808 = 1) :
    Calls Try.prog 27 #[.pointer (some ⟨p, 0, none⟩), .float .f64 x] w fun e w' => e = .returned (.tuple #[]) ∧ GB w' p (FP.limbsN 70 (V + (-1) * ((m0) * 2 ^ a))) t ∧ Fr (fun q => q = p) w w' := by
  have hbits := run_bits_at hn
  have a1 := and52 n (by omega) (by omega)
  have a2 := and11 (n / 4503599627370496) (by omega) (by omega)
  rw [hm0] at a1
  rw [hat] at a2
  have b1 : 0 ≤ m0 ∧ m0 < 4503599627370496 := by omega
  have hP := lay_parts (m0) a (by omega)
  have HN := Lib.hid hn
  have H := Lib.hid h
  have HV := Lib.hid hV
  clear hn hm0 hat h hV
  subst ha
  clear hP
  have hP4 : m0 / 18446744073709551616 = 0 := by omega
  go_enter Try.func27, Try.ntmps27
  go_wp2
  go_quiet (fail)
  have HS := Lib.hid (lay_sum (V := V) (s := -1) (lo := m0) (hi := 0) (m := m0) (a := 0) (FP.limbsN_length 70 V) (FP.worth_limbs 69 V) (by omega) (by simp))
  rw [show (0 : Nat) / 32 = 0 from rfl] at HS
  clear a1 a2
  go_wp2
  generalize hp0 : m0 % 4294967296 = p0 at HS ⊢
  generalize hp1 : m0 / 4294967296 = p1 at HS ⊢
  have q0 : 0 ≤ p0 ∧ p0 < 4294967296 := by omega
  have q1 : 0 ≤ p1 ∧ p1 < 4294967296 := by omega
  have HBd := Lib.hid fun k j hj => lay_bound HV.out (s := -1) (Or.inr rfl) q0 q1 (show (0 : Int) ≤ 0 ∧ (0 : Int) < 4294967296 by omega) 0 k j hj
  clear hp0 hp1
  go_loopw [10, 50] (fun iv kv wr => ∃ k : Nat, k ≤ 3 ∧ kv = .int .i64 k ∧ iv = .int .i64 ((k : Nat) : Int) ∧ Hid (GB wr p (addK (FP.limbsN 70 V) 0 (-1) [p0, p1, 0] k) t) ∧ Fr (fun q => q = p) w wr) (fun _ kv _ => 3 - (intOf kv).toNat)
  case atStart => exact ⟨0, by omega, rfl, rfl, H.out.below ⟨rfl, rfl, rfl, Nat.le_refl _, fun _ _ => rfl⟩, (Fr.refl _ w).drewN nq⟩
  case round =>
    obtain ⟨k, k3, rfl, rfl, hG, hF⟩ := hrel
    rcases (show k = 0 ∨ k = 1 ∨ k = 2 ∨ k = 3 by omega) with rfl | rfl | rfl | rfl
    · have c1 := hG.out.limb (i := 0) (by omega)
      have hyb := HBd.out 0 (0) (by omega)
      have f1 := hG.out.froz (0)
      have HSet : Hid (GB (wr.setCell ⟨p, 0, none⟩ (.int .i64 ((addK (FP.limbsN 70 V) 0 (-1) [p0, p1, 0] 0).getD (0) 0 + -1 * p0))) p (addK (FP.limbsN 70 V) 0 (-1) [p0, p1, 0] (0 + 1)) t) := hG.out.set (i := 0) (by omega) _
      generalize (addK (FP.limbsN 70 V) 0 (-1) [p0, p1, 0] 0).getD (0) 0 = y at c1 hyb HSet
      have e1 : -1 * p0 = -p0 := by omega
      rw [e1] at HSet
      have w1 : wrap64 (-p0) = -p0 := IntWalk.wrap64_in _ (by omega)
      have w2 : IntKind.i64.wrap (-p0) = -p0 := IntWalk.i64_in _ (by omega)
      have w3 : wrap64 (y + -p0) = y + -p0 := IntWalk.wrap64_in _ (by omega)
      have w4 : IntKind.i64.wrap (y + -p0) = y + -p0 := IntWalk.i64_in _ (by omega)
      clear e1
      have hjx := jx0
      go_wp2
      go_region
      all_goals
        go_wp2
        go_roundw
        case rel => exact ⟨0 + 1, by omega, by first | rfl | trivial | go_num, by first | rfl | go_num | (congr 1; omega), ⟨HSet.out.b, HSet.out.l, HSet.out.n⟩, (hF.setCell (Or.inl rfl) _).drew⟩
        case measure => simp [intOf]
    · have c1 := hG.out.limb (i := 1) (by omega)
      have hyb := HBd.out 1 (1) (by omega)
      have f1 := hG.out.froz (1)
      have HSet : Hid (GB (wr.setCell ⟨p, 1, none⟩ (.int .i64 ((addK (FP.limbsN 70 V) 0 (-1) [p0, p1, 0] 1).getD (1) 0 + -1 * p1))) p (addK (FP.limbsN 70 V) 0 (-1) [p0, p1, 0] (1 + 1)) t) := hG.out.set (i := 1) (by omega) _
      generalize (addK (FP.limbsN 70 V) 0 (-1) [p0, p1, 0] 1).getD (1) 0 = y at c1 hyb HSet
      have e1 : -1 * p1 = -p1 := by omega
      rw [e1] at HSet
      have w1 : wrap64 (-p1) = -p1 := IntWalk.wrap64_in _ (by omega)
      have w2 : IntKind.i64.wrap (-p1) = -p1 := IntWalk.i64_in _ (by omega)
      have w3 : wrap64 (y + -p1) = y + -p1 := IntWalk.wrap64_in _ (by omega)
      have w4 : IntKind.i64.wrap (y + -p1) = y + -p1 := IntWalk.i64_in _ (by omega)
      clear e1
      have hjx := jx1
      go_wp2
      go_region
      all_goals
        go_wp2
        go_roundw
        case rel => exact ⟨1 + 1, by omega, by first | rfl | trivial | go_num, by first | rfl | go_num | (congr 1; omega), ⟨HSet.out.b, HSet.out.l, HSet.out.n⟩, (hF.setCell (Or.inl rfl) _).drew⟩
        case measure => simp [intOf]
    · have c1 := hG.out.limb (i := 2) (by omega)
      have hyb := HBd.out 2 (2) (by omega)
      have f1 := hG.out.froz (2)
      have HSet : Hid (GB (wr.setCell ⟨p, 2, none⟩ (.int .i64 ((addK (FP.limbsN 70 V) 0 (-1) [p0, p1, 0] 2).getD (2) 0 + -1 * 0))) p (addK (FP.limbsN 70 V) 0 (-1) [p0, p1, 0] (2 + 1)) t) := hG.out.set (i := 2) (by omega) _
      generalize (addK (FP.limbsN 70 V) 0 (-1) [p0, p1, 0] 2).getD (2) 0 = y at c1 hyb HSet
      have e1 : (-1 : Int) * 0 = 0 := by omega
      rw [e1, Int.add_zero] at HSet
      have w3 : wrap64 y = y := IntWalk.wrap64_in _ (by omega)
      have w4 : IntKind.i64.wrap y = y := IntWalk.i64_in _ (by omega)
      clear e1
      have hjx := jx2
      go_wp2
      go_region
      all_goals
        go_wp2
        go_roundw
        case rel => exact ⟨2 + 1, by omega, by first | rfl | trivial | go_num, by first | rfl | go_num | (congr 1; omega), ⟨HSet.out.b, HSet.out.l, HSet.out.n⟩, (hF.setCell (Or.inl rfl) _).drew⟩
        case measure => simp [intOf]
    · have HC := Lib.hid (carry_any wr p _ t hG.out fun j hj => by have := HBd.out 3 j hj; omega)
      rw [HS.out] at HC
      clear HS
      go_wp2_with (go_at_call 33; refine HC.out.mono ?_; rintro e w2 ⟨rfl, h2, f2⟩; replace h2 := Lib.hid h2)
      go_end0
      exact ⟨rfl, h2.out, hF.trans f2⟩
set_option maxHeartbeats 2000000 in
theorem lay_d (w : World) (p : Nat) (V : Int) (t : List Value) (h : GB w p (FP.limbsN 70 V) t) (hV : Lim V) (x : Nat) (hx : x < 18446744073709551616) (n m0 : Int) (a : Nat) (ha : a = 0) (hn : n = (x : Int)) (hm0 : n % 4503599627370496 = m0) (hat : n / 4503599627370496 % 2048 = 0) (hs : n / 9223372036854775808 = 0) :
    Calls Try.prog 27 #[.pointer (some ⟨p, 0, none⟩), .float .f64 x] w fun e w' => e = .returned (.tuple #[]) ∧ GB w' p (FP.limbsN 70 (V + (1) * ((m0) * 2 ^ a))) t ∧ Fr (fun q => q = p) w w' := by
  have hbits := run_bits_at hn
  have a1 := and52 n (by omega) (by omega)
  have a2 := and11 (n / 4503599627370496) (by omega) (by omega)
  rw [hm0] at a1
  rw [hat] at a2
  have b1 : 0 ≤ m0 ∧ m0 < 4503599627370496 := by omega
  have hP := lay_parts (m0) a (by omega)
  have HN := Lib.hid hn
  have H := Lib.hid h
  have HV := Lib.hid hV
  clear hn hm0 hat h hV
  subst ha
  clear hP
  have hP4 : m0 / 18446744073709551616 = 0 := by omega
  go_enter Try.func27, Try.ntmps27
  go_wp2
  go_quiet (fail)
  have HS := Lib.hid (lay_sum (V := V) (s := 1) (lo := m0) (hi := 0) (m := m0) (a := 0) (FP.limbsN_length 70 V) (FP.worth_limbs 69 V) (by omega) (by simp))
  rw [show (0 : Nat) / 32 = 0 from rfl] at HS
  clear a1 a2
  go_wp2
  generalize hp0 : m0 % 4294967296 = p0 at HS ⊢
  generalize hp1 : m0 / 4294967296 = p1 at HS ⊢
  have q0 : 0 ≤ p0 ∧ p0 < 4294967296 := by omega
  have q1 : 0 ≤ p1 ∧ p1 < 4294967296 := by omega
  have HBd := Lib.hid fun k j hj => lay_bound HV.out (s := 1) (Or.inl rfl) q0 q1 (show (0 : Int) ≤ 0 ∧ (0 : Int) < 4294967296 by omega) 0 k j hj
  clear hp0 hp1
  go_loopw [10, 50] (fun iv kv wr => ∃ k : Nat, k ≤ 3 ∧ kv = .int .i64 k ∧ iv = .int .i64 ((k : Nat) : Int) ∧ Hid (GB wr p (addK (FP.limbsN 70 V) 0 (1) [p0, p1, 0] k) t) ∧ Fr (fun q => q = p) w wr) (fun _ kv _ => 3 - (intOf kv).toNat)
  case atStart => exact ⟨0, by omega, rfl, rfl, H.out.below ⟨rfl, rfl, rfl, Nat.le_refl _, fun _ _ => rfl⟩, (Fr.refl _ w).drewN nq⟩
  case round =>
    obtain ⟨k, k3, rfl, rfl, hG, hF⟩ := hrel
    rcases (show k = 0 ∨ k = 1 ∨ k = 2 ∨ k = 3 by omega) with rfl | rfl | rfl | rfl
    · have c1 := hG.out.limb (i := 0) (by omega)
      have hyb := HBd.out 0 (0) (by omega)
      have f1 := hG.out.froz (0)
      have HSet : Hid (GB (wr.setCell ⟨p, 0, none⟩ (.int .i64 ((addK (FP.limbsN 70 V) 0 (1) [p0, p1, 0] 0).getD (0) 0 + 1 * p0))) p (addK (FP.limbsN 70 V) 0 (1) [p0, p1, 0] (0 + 1)) t) := hG.out.set (i := 0) (by omega) _
      generalize (addK (FP.limbsN 70 V) 0 (1) [p0, p1, 0] 0).getD (0) 0 = y at c1 hyb HSet
      have e1 : 1 * p0 = p0 := by omega
      rw [e1] at HSet
      have w1 : wrap64 (p0) = p0 := IntWalk.wrap64_in _ (by omega)
      have w2 : IntKind.i64.wrap (p0) = p0 := IntWalk.i64_in _ (by omega)
      have w3 : wrap64 (y + p0) = y + p0 := IntWalk.wrap64_in _ (by omega)
      have w4 : IntKind.i64.wrap (y + p0) = y + p0 := IntWalk.i64_in _ (by omega)
      clear e1
      have hjx := jx0
      go_wp2
      go_region
      all_goals
        go_wp2
        go_roundw
        case rel => exact ⟨0 + 1, by omega, by first | rfl | trivial | go_num, by first | rfl | go_num | (congr 1; omega), ⟨HSet.out.b, HSet.out.l, HSet.out.n⟩, (hF.setCell (Or.inl rfl) _).drew⟩
        case measure => simp [intOf]
    · have c1 := hG.out.limb (i := 1) (by omega)
      have hyb := HBd.out 1 (1) (by omega)
      have f1 := hG.out.froz (1)
      have HSet : Hid (GB (wr.setCell ⟨p, 1, none⟩ (.int .i64 ((addK (FP.limbsN 70 V) 0 (1) [p0, p1, 0] 1).getD (1) 0 + 1 * p1))) p (addK (FP.limbsN 70 V) 0 (1) [p0, p1, 0] (1 + 1)) t) := hG.out.set (i := 1) (by omega) _
      generalize (addK (FP.limbsN 70 V) 0 (1) [p0, p1, 0] 1).getD (1) 0 = y at c1 hyb HSet
      have e1 : 1 * p1 = p1 := by omega
      rw [e1] at HSet
      have w1 : wrap64 (p1) = p1 := IntWalk.wrap64_in _ (by omega)
      have w2 : IntKind.i64.wrap (p1) = p1 := IntWalk.i64_in _ (by omega)
      have w3 : wrap64 (y + p1) = y + p1 := IntWalk.wrap64_in _ (by omega)
      have w4 : IntKind.i64.wrap (y + p1) = y + p1 := IntWalk.i64_in _ (by omega)
      clear e1
      have hjx := jx1
      go_wp2
      go_region
      all_goals
        go_wp2
        go_roundw
        case rel => exact ⟨1 + 1, by omega, by first | rfl | trivial | go_num, by first | rfl | go_num | (congr 1; omega), ⟨HSet.out.b, HSet.out.l, HSet.out.n⟩, (hF.setCell (Or.inl rfl) _).drew⟩
        case measure => simp [intOf]
    · have c1 := hG.out.limb (i := 2) (by omega)
      have hyb := HBd.out 2 (2) (by omega)
      have f1 := hG.out.froz (2)
      have HSet : Hid (GB (wr.setCell ⟨p, 2, none⟩ (.int .i64 ((addK (FP.limbsN 70 V) 0 (1) [p0, p1, 0] 2).getD (2) 0 + 1 * 0))) p (addK (FP.limbsN 70 V) 0 (1) [p0, p1, 0] (2 + 1)) t) := hG.out.set (i := 2) (by omega) _
      generalize (addK (FP.limbsN 70 V) 0 (1) [p0, p1, 0] 2).getD (2) 0 = y at c1 hyb HSet
      have e1 : (1 : Int) * 0 = 0 := by omega
      rw [e1, Int.add_zero] at HSet
      have w3 : wrap64 y = y := IntWalk.wrap64_in _ (by omega)
      have w4 : IntKind.i64.wrap y = y := IntWalk.i64_in _ (by omega)
      clear e1
      have hjx := jx2
      go_wp2
      go_region
      all_goals
        go_wp2
        go_roundw
        case rel => exact ⟨2 + 1, by omega, by first | rfl | trivial | go_num, by first | rfl | go_num | (congr 1; omega), ⟨HSet.out.b, HSet.out.l, HSet.out.n⟩, (hF.setCell (Or.inl rfl) _).drew⟩
        case measure => simp [intOf]
    · have HC := Lib.hid (carry_any wr p _ t hG.out fun j hj => by have := HBd.out 3 j hj; omega)
      rw [HS.out] at HC
      clear HS
      go_wp2_with (go_at_call 33; refine HC.out.mono ?_; rintro e w2 ⟨rfl, h2, f2⟩; replace h2 := Lib.hid h2)
      go_end0
      exact ⟨rfl, h2.out, hF.trans f2⟩
end Go.Proofs.Ytdjilhahafkpfaa
