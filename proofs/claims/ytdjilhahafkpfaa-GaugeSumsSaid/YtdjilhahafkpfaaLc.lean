/- A gauge: lay. -/
import Derived.Test.YtdjilhahafkpfaaLb
import Derived.Test.YtdjilhahafkpfaaRa
namespace Go.Proofs.Ytdjilhahafkpfaa
open Go.RowKit Go.Deep
set_option maxRecDepth 100000
theorem or52 (n : Int) (h₀ : 0 ≤ n) (h₁ : n < 4503599627370496) : bits .or .i64 n 4503599627370496 = n + 4503599627370496 := by
  obtain ⟨a, rfl⟩ := Int.eq_ofNat_of_zero_le h₀
  have h1 : (BitVec.ofInt 64 (a : Int)).toNat = a := by
    rw [BitVec.ofInt_natCast, BitVec.toNat_ofNat]; exact Nat.mod_eq_of_lt (by omega)
  have h2 : (BitVec.ofInt 64 4503599627370496).toNat = 4503599627370496 := by decide
  show IntKind.i64.wrap ((BitVec.ofInt 64 (a : Int) ||| BitVec.ofInt 64 4503599627370496).toNat : Int) = _
  have e : (a ||| 4503599627370496 : Nat) = a + 4503599627370496 := by
    rw [Nat.or_comm]
    have := Nat.two_pow_add_eq_or_of_lt (i := 52) (b := a) (by omega) 1
    have h : 2 ^ 52 * 1 + a = 2 ^ 52 * 1 ||| a := this
    rw [show (4503599627370496 : Nat) = 2 ^ 52 * 1 by decide, ← h]; omega
  rw [BitVec.toNat_or, h1, h2, e]
  rw [IntWalk.i64_in _ (by omega)]; omega
/-- What a number's digits are, laid from a place on. -/
theorem lay_parts (m : Int) (a : Nat) (hm : 0 ≤ m ∧ m < 9007199254740992) :
    (0 ≤ IntKind.u64.wrap (m * 2 ^ (a % 32)) ∧ IntKind.u64.wrap (m * 2 ^ (a % 32)) < 18446744073709551616) ∧ (0 ≤ m / 2 ^ (64 - a % 32) ∧ m / 2 ^ (64 - a % 32) < 4294967296) ∧
    IntKind.u64.wrap (m * 2 ^ (a % 32)) + 18446744073709551616 * (m / 2 ^ (64 - a % 32)) = m * 2 ^ (a % 32) := by
  obtain ⟨r, hr⟩ : ∃ r, r = a % 32 := ⟨_, rfl⟩
  have hr32 : r < 32 := by omega
  rw [← hr, IntKind.wrap_u64]
  have hp : (0 : Int) < 2 ^ r := Int.pow_pos (by omega)
  have hp2 : (0 : Int) < 2 ^ (64 - r) := Int.pow_pos (by omega)
  have hpp : (2 : Int) ^ (64 - r) * 2 ^ r = 18446744073709551616 := by rw [← Int.pow_add, show 64 - r + r = 64 by omega]; decide
  have hq : m * 2 ^ r / 18446744073709551616 = m / 2 ^ (64 - r) := by
    rw [← hpp, Int.mul_ediv_mul_of_pos_left _ _ hp]
  have h0 : 0 ≤ m * 2 ^ r := Int.mul_nonneg hm.1 (by omega)
  have h33 : (8589934592 : Int) ≤ 2 ^ (64 - r) := by
    have h1 : (0 : Int) < 2 ^ (31 - r) := Int.pow_pos (by omega)
    have h2 : (2 : Int) ^ 33 = 8589934592 := by decide
    rw [show 64 - r = 33 + (31 - r) by omega, Int.pow_add, h2]; omega
  rw [← hq]
  generalize m * 2 ^ r = X at h0 hq ⊢
  have hlt : m / 2 ^ (64 - r) < 4294967296 := Int.ediv_lt_of_lt_mul hp2 (by omega)
  rw [← hq] at hlt
  have := Int.emod_add_mul_ediv X 18446744073709551616
  refine ⟨⟨by omega, by omega⟩, ⟨by omega, hlt⟩, by omega⟩
/-- Parts added to limbs. -/
def addK (L : List Int) (i0 : Nat) (s : Int) (ps : List Int) : Nat → List Int
  | 0 => L
  | k + 1 => (addK L i0 s ps k).set (i0 + k) ((addK L i0 s ps k).getD (i0 + k) 0 + s * ps.getD k 0)
theorem addK_length (L : List Int) (i0 : Nat) (s : Int) (ps : List Int) : ∀ k, (addK L i0 s ps k).length = L.length
  | 0 => rfl
  | k + 1 => by simp [addK, addK_length L i0 s ps k]
theorem addK_getD (L : List Int) (i0 : Nat) (s : Int) (ps : List Int) : ∀ (k j : Nat), j < L.length → (addK L i0 s ps k).getD j 0 = L.getD j 0 + if i0 ≤ j ∧ j < i0 + k then s * ps.getD (j - i0) 0 else 0
  | 0, j, _ => by rw [if_neg (by omega)]; simp [addK]
  | k + 1, j, hj => by
    show ((addK L i0 s ps k).set (i0 + k) _).getD j 0 = _
    rw [getD_setI _ (by rw [addK_length]; exact hj), addK_getD L i0 s ps k j hj]
    by_cases e : i0 + k = j
    · subst e
      rw [if_pos rfl, if_pos (by omega), show i0 + k - i0 = k by omega, addK_getD L i0 s ps k (i0 + k) hj, if_neg (by omega)]; omega
    · rw [if_neg e]
      by_cases h : i0 ≤ j ∧ j < i0 + k
      · rw [if_pos h, if_pos (by omega)]
      · rw [if_neg h, if_neg (by omega)]
theorem addK_worth (L : List Int) (i0 : Nat) (s : Int) (p0 p1 p2 : Int) (h : i0 + 2 < L.length) : FP.worth (addK L i0 s [p0, p1, p2] 3) = FP.worth L + s * (4294967296 ^ i0 * (p0 + 4294967296 * (p1 + 4294967296 * p2))) := by
  have hl := addK_length L i0 s [p0, p1, p2]
  have step : ∀ k, i0 + k < L.length → FP.worth (addK L i0 s [p0, p1, p2] (k + 1)) = FP.worth (addK L i0 s [p0, p1, p2] k) + 4294967296 ^ (i0 + k) * (s * [p0, p1, p2].getD k 0) := by
    intro k hk
    show FP.worth ((addK L i0 s [p0, p1, p2] k).set (i0 + k) _) = _
    rw [FP.worth_set _ _ _ (by rw [hl]; exact hk)]
    congr 2
    omega
  rw [step 2 (by omega), step 1 (by omega), step 0 (by omega)]
  have e0 : addK L i0 s [p0, p1, p2] 0 = L := rfl
  have e1 : [p0, p1, p2].getD 0 0 = p0 := rfl
  have e2 : [p0, p1, p2].getD 1 0 = p1 := rfl
  have e3 : [p0, p1, p2].getD 2 0 = p2 := rfl
  rw [e0, e1, e2, e3, Nat.add_zero, Int.pow_succ 4294967296 i0, show i0 + 2 = (i0 + 1) + 1 from rfl, Int.pow_succ, Int.pow_succ]
  generalize (4294967296 : Int) ^ i0 = B
  rw [Int.mul_add, Int.mul_add, Int.mul_add, Int.mul_add]
  have f1 : B * (s * p0) = s * (B * p0) := by rw [Int.mul_left_comm]
  have f2 : B * 4294967296 * (s * p1) = s * (B * (4294967296 * p1)) := by rw [Int.mul_left_comm (B * 4294967296) s p1, Int.mul_assoc]
  have f3 : B * 4294967296 * 4294967296 * (s * p2) = s * (B * (4294967296 * (4294967296 * p2))) := by rw [Int.mul_left_comm (B * 4294967296 * 4294967296) s p2, Int.mul_assoc, Int.mul_assoc]
  rw [f1, f2, f3, Int.mul_add s]
  omega
end Go.Proofs.Ytdjilhahafkpfaa
