/- A gauge: lay, of any finite number; bits of a sum. -/
import Derived.Test.YtdjilhahafkpfaaLd
import Derived.Deep.MidRow
namespace Go.Proofs.Ytdjilhahafkpfaa
open Go.RowKit Go.Deep
set_option maxRecDepth 100000
theorem below_chain {W0 w w' : World} (h : Below W0.heap.size W0 w) (k : Below w.heap.size w w') : Below W0.heap.size W0 w' := h.trans (k.mono h.size)
theorem num_parts {x : Nat} {a : Nat} {m0 : Int} (hm0 : (x : Int) % 4503599627370496 = m0) (hat : (x : Int) / 4503599627370496 % 2048 = (a : Int) + 1) : (FP.val (FP.rung x) : Int) = (m0 + 4503599627370496) * 2 ^ a := by
  have hr : FP.rung x = x % 9223372036854775808 := rfl
  unfold FP.val
  rw [hr, if_neg (by omega)]
  have e1 : x % 9223372036854775808 / 4503599627370496 - 1 = a := by omega
  have e2 : ((4503599627370496 + x % 9223372036854775808 % 4503599627370496 : Nat) : Int) = m0 + 4503599627370496 := by omega
  rw [e1, Int.natCast_mul, e2, Int.natCast_pow]; rfl
theorem num_small {x : Nat} {m0 : Int} (hm0 : (x : Int) % 4503599627370496 = m0) (hat : (x : Int) / 4503599627370496 % 2048 = 0) : (FP.val (FP.rung x) : Int) = m0 * 2 ^ 0 := by
  have hr : FP.rung x = x % 9223372036854775808 := rfl
  rw [FP.val_small (by rw [hr]; omega), hr]; omega
theorem lay_any (w : World) (p : Nat) (V : Int) (t : List Value) (h : GB w p (FP.limbsN 70 V) t) (hV : Lim V) (x : Nat) (hx : x < 18446744073709551616) (hf : FP.rung x < 9218868437227405312) :
    Calls Try.prog 27 #[.pointer (some ⟨p, 0, none⟩), .float .f64 x] w fun e w' => e = .returned (.tuple #[]) ∧ GB w' p (FP.limbsN 70 (V + FP.num x)) t ∧ Fr (fun q => q = p) w w' := by
  have hr : FP.rung x = x % 9223372036854775808 := rfl
  by_cases hs : 9223372036854775808 ≤ x
  · have hsg := FP.sgn_true hs hx
    have hs1 : (x : Int) / 9223372036854775808 = 1 := by omega
    have hn : FP.num x = (-1) * (FP.val (FP.rung x) : Int) := by unfold FP.num; rw [hsg]; simp
    by_cases h0 : (x : Int) / 4503599627370496 % 2048 = 0
    · have := lay_c w p V t h hV x hx x _ 0 rfl rfl rfl h0 hs1
      rwa [← num_small rfl h0, ← hn] at this
    · obtain ⟨a, ha⟩ : ∃ a : Nat, (x : Int) / 4503599627370496 % 2048 = (a : Int) + 1 := ⟨((x : Int) / 4503599627370496 % 2048 - 1).toNat, by omega⟩
      have := lay_a w p V t h hV x hx x _ a (by omega) rfl rfl ha hs1
      rwa [← num_parts rfl ha, ← hn] at this
  · have hsg := FP.sgn_false (b := x) (by omega)
    have hs1 : (x : Int) / 9223372036854775808 = 0 := by omega
    have hn : FP.num x = 1 * (FP.val (FP.rung x) : Int) := by unfold FP.num; rw [hsg]; simp
    by_cases h0 : (x : Int) / 4503599627370496 % 2048 = 0
    · have := lay_d w p V t h hV x hx x _ 0 rfl rfl rfl h0 hs1
      rwa [← num_small rfl h0, ← hn] at this
    · obtain ⟨a, ha⟩ : ∃ a : Nat, (x : Int) / 4503599627370496 % 2048 = (a : Int) + 1 := ⟨((x : Int) / 4503599627370496 % 2048 - 1).toNat, by omega⟩
      have := lay_b w p V t h hV x hx x _ a (by omega) rfl rfl ha hs1
      rwa [← num_parts rfl ha, ← hn] at this
theorem limb_nat : ∀ (n V j : Nat), j ≤ n → V < 4294967296 ^ (n + 1) → (FP.limbsN (n + 1) (V : Int)).getD j 0 = ((V / 4294967296 ^ j % 4294967296 : Nat) : Int)
  | 0, V, j, hj, hV => by
    obtain rfl : j = 0 := by omega
    have h : V < 4294967296 := by simpa using hV
    show (V : Int) = _
    rw [Nat.pow_zero, Nat.div_one, Nat.mod_eq_of_lt h]
  | n + 1, V, 0, _, _ => by
    show (V : Int) % 4294967296 = _
    rw [Nat.pow_zero, Nat.div_one]; rfl
  | n + 1, V, j + 1, hj, hV => by
    have h : V / 4294967296 < 4294967296 ^ (n + 1) := Nat.div_lt_of_lt_mul (by rw [Nat.pow_succ, Nat.mul_comm] at hV; exact hV)
    have ih := limb_nat n (V / 4294967296) j (by omega) h
    rw [Nat.div_div_eq_div_mul, ← Nat.pow_succ'] at ih
    exact ih
theorem bit_mod (X r : Nat) (hr : r < 32) : X % 4294967296 / 2 ^ r % 2 = X / 2 ^ r % 2 := by
  have h := Nat.testBit_mod_two_pow X 32 r
  rw [Nat.testBit_eq_decide_div_mod_eq, Nat.testBit_eq_decide_div_mod_eq, decide_eq_true hr, Bool.true_and, decide_eq_decide] at h
  have e : (2 : Nat) ^ 32 = 4294967296 := by decide
  rw [e] at h
  omega
theorem bit_limb (V i : Nat) : V / 4294967296 ^ (i / 32) % 4294967296 / 2 ^ (i % 32) % 2 = V / 2 ^ i % 2 := by
  rw [bit_mod _ _ (by omega), Nat.div_div_eq_div_mul, show (4294967296 : Nat) = 2 ^ 32 by decide, ← Nat.pow_mul, ← Nat.pow_add, show 32 * (i / 32) + i % 32 = i by omega]
theorem arr_limb {V j : Nat} (hj : j < 70) (hV : Hid (V < 4294967296 ^ 70)) : (ints (FP.limbsN 70 V)).toArray[j]? = some (.int .i64 ((V / 4294967296 ^ j % 4294967296 : Nat) : Int)) := by
  have h := limb_nat 69 V j (by omega) hV.out
  have hl := FP.limbsN_length 70 V
  rw [← h, List.getElem?_toArray]
  unfold ints
  simp [List.getD, hl, hj]
theorem bit_any (w : World) (V : Nat) (hV : Hid (V < 4294967296 ^ 70)) (i : Nat) (hi : i < 2240) : Calls Try.prog 43 #[.agg (ints (FP.limbsN 70 V)).toArray, .int .i64 i] w fun e w' => e = .returned (.int .u64 ((V / 2 ^ i % 2 : Nat) : Int)) ∧ Below w.heap.size w w' := by
  have hc := arr_limb (j := i / 32) (by omega) hV
  have HB := Lib.hid (bit_limb V i)
  have hl := Nat.mod_lt (V / 4294967296 ^ (i / 32)) (show 0 < 4294967296 by omega)
  generalize (ints (FP.limbsN 70 V)).toArray = arr at hc ⊢
  generalize V / 4294967296 ^ (i / 32) % 4294967296 = l at hc HB hl
  clear hV
  have hl0 : (0 : Int) ≤ (l : Int) := Int.natCast_nonneg _
  have HR : Hid (bits .and .u64 ((l : Int) / 2 ^ (i % 32)) 1 = ((l / 2 ^ (i % 32) % 2 : Nat) : Int)) := by
    have hand := and1 ((l / 2 ^ (i % 32) : Nat) : Int) (Int.natCast_nonneg _) (by have := Nat.div_le_self l (2 ^ (i % 32)); omega)
    have hcast : (l : Int) / 2 ^ (i % 32) = ((l / 2 ^ (i % 32) : Nat) : Int) := by rw [Int.natCast_ediv, Int.natCast_pow]; rfl
    unfold Hid
    rw [hcast, hand]; rfl
  go_enter Try.func43, Try.ntmps43
  go_wp2
  go_ret
  refine ⟨?_, (Below.refl _ _).alloc (Nat.le_refl _) _⟩
  show Ending.returned (.int .u64 (bits .and .u64 ((l : Int) / 2 ^ (i % 32)) 1)) = _
  rw [HR.out, HB.out]
theorem wpl_arr {ops : Array Oper} {rest : List Oper} {op : Oper} {a : Go.Act} {w : World} {Q : Exit → Go.Act → World → Prop} (x : Operand) (ho : op.op = .load 44 x) (hw : Region.wanted op (yielded ops a.tmps) = true)
    (b o : Nat) (hx : a.eval x = .pointer (some ⟨b, o, none⟩)) (cs : List Value) (hc : w.rangeAt b o cs) (hl : cs.length = 70)
    (h : wpList Try.prog ops Q rest (a.put op.dst (.agg cs.toArray)) w) : wpList Try.prog ops Q (op :: rest) a w := by
  unfold wpList
  rw [if_pos hw]
  exact Or.inl (wp_load_mid (P := Try.prog) 44 x ho b o hx cs (.array 70 2) hc Try.underlying44 rfl (by rw [hl]; kernel_rfl) h)
theorem range_blk {w : World} {q : Nat} {t : TypeId} {cs : List Value} (h : Blk w q t cs.toArray) : w.rangeAt q 0 cs := fun j v hv => by
  rw [Nat.zero_add, h.cell]; simpa using hv
theorem arr_len (V : Int) : (ints (FP.limbsN 70 V)).length = 70 := by unfold ints; rw [List.length_map, FP.limbsN_length]
theorem some_any (w : World) (V : Nat) (hV : Hid (V < 4294967296 ^ 70)) (k : Nat) (hk : k < 2240) : Calls Try.prog 44 #[.agg (ints (FP.limbsN 70 V)).toArray, .int .i64 k] w fun e w' => e = .returned (.bool (decide (V % 2 ^ k ≠ 0))) ∧ Below w.heap.size w w' := by
  have HBit := Lib.hid fun w i hi => bit_any w V hV i hi
  have hlen := arr_len V
  generalize ints (FP.limbsN 70 V) = cs at HBit hlen ⊢
  clear hV
  go_enter Try.func44, Try.ntmps44
  go_wp2
  have hB0 : Hid (Blk (w.alloc (.cells cs.toArray 44)) w.heap.size 44 cs.toArray) := heap_alloc_new w _
  have hW0 : Below w.heap.size w (w.alloc (.cells cs.toArray 44)) := (Below.refl _ _).alloc (Nat.le_refl _) _
  generalize w.alloc (.cells cs.toArray 44) = w0 at hB0 hW0 ⊢
  go_loopw [7] (fun iv wr => ∃ i : Nat, iv = .int .i64 i ∧ i ≤ k ∧ Hid (V % 2 ^ i = 0) ∧ Below w0.heap.size w0 wr) (fun iv _ => k - (intOf iv).toNat)
  case atStart => exact ⟨0, rfl, by omega, by unfold Hid; rw [Nat.pow_zero, Nat.mod_one], Below.refl _ _⟩
  case round =>
    obtain ⟨i, rfl, i1, HZ, hBr⟩ := hrel
    have hi0 : (0 : Int) ≤ (i : Int) := Int.natCast_nonneg _
    by_cases hlt : i < k
    · have hlt' : (i : Int) < (k : Int) := by omega
      have hld := Lib.hid (range_blk (hB0.out.below hBr hB0.out.lt))
      have HB1 := Lib.hid (HBit.out wr i (by omega))
      have HM : Hid (V % 2 ^ (i + 1) = 2 ^ i * (V / 2 ^ i % 2)) := by unfold Hid; rw [Nat.mod_pow_succ, HZ.out, Nat.zero_add]
      have h2 := Nat.mod_lt (V / 2 ^ i) (show 0 < 2 by omega)
      generalize V / 2 ^ i % 2 = c at HB1 HM h2
      obtain rfl | rfl : c = 0 ∨ c = 1 := by omega
      · have HZ2 : Hid (V % 2 ^ (i + 1) = 0) := by unfold Hid; rw [HM.out, Nat.mul_zero]
        clear HM
        go_wp2_with (first | (go_at_call 43; refine HB1.out.mono ?_; rintro e w2 ⟨rfl, hb2⟩) | (refine wpl_arr _ rfl rfl w.heap.size 0 rfl cs hld.out hlen ?_))
        go_roundw
        case rel => exact ⟨i + 1, by go_num, by omega, HZ2, below_chain hBr hb2⟩
        case measure => simp only [intOf]; omega
      · have HNZ : Hid (V % 2 ^ k ≠ 0) := fun h => by
          have h3 := Nat.mod_mod_of_dvd V (Nat.pow_dvd_pow 2 (show i + 1 ≤ k by omega))
          rw [h, HM.out, Nat.zero_mod, Nat.mul_one] at h3
          have := Nat.two_pow_pos i
          omega
        clear HM
        go_wp2_with (first | (go_at_call 43; refine HB1.out.mono ?_; rintro e w2 ⟨rfl, hb2⟩) | (refine wpl_arr _ rfl rfl w.heap.size 0 rfl cs hld.out hlen ?_))
        go_ret
        exact ⟨by rw [decide_eq_true HNZ.out]; rfl, below_chain hW0 (below_chain hBr hb2)⟩
    · obtain rfl : i = k := by omega
      go_wp2
      go_ret
      exact ⟨by rw [decide_eq_false (fun h => h HZ.out)]; rfl, below_chain hW0 hBr⟩
end Go.Proofs.Ytdjilhahafkpfaa
