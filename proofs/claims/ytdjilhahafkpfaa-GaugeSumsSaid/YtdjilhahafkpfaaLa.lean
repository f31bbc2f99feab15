/- Plain facts on limbs: a whole number as seventy parts. -/
import Derived.Test.YtdjilhahafkpfaaFpg
namespace FP

/-- The limbs of a number: n of them, the last one what is left. -/
def limbsN : Nat → Int → List Int
  | 0, _ => []
  | 1, V => [V]
  | n + 2, V => (V % 4294967296) :: limbsN (n + 1) (V / 4294967296)
theorem limbsN_length : ∀ n V, (limbsN n V).length = n
  | 0, _ => rfl
  | 1, _ => rfl
  | n + 2, V => by simp [limbsN, limbsN_length (n + 1)]
/-- What limbs are worth. -/
def worth : List Int → Int
  | [] => 0
  | x :: l => x + 4294967296 * worth l
theorem worth_limbs : ∀ n V, worth (limbsN (n + 1) V) = V
  | 0, V => by simp [limbsN, worth]
  | n + 1, V => by
    simp only [limbsN, worth, worth_limbs n]
    have := Int.emod_add_mul_ediv V 4294967296
    omega
/-- Each but the last lies in its bounds. -/
def Tidy : List Int → Prop
  | [] => True
  | [_] => True
  | x :: y :: l => (0 ≤ x ∧ x < 4294967296) ∧ Tidy (y :: l)
theorem tidy_limbs : ∀ n V, Tidy (limbsN n V)
  | 0, _ => trivial
  | 1, _ => trivial
  | 2, V => ⟨⟨Int.emod_nonneg _ (by omega), Int.emod_lt_of_pos _ (by omega)⟩, trivial⟩
  | n + 3, V => ⟨⟨Int.emod_nonneg _ (by omega), Int.emod_lt_of_pos _ (by omega)⟩, tidy_limbs (n + 2) (V / 4294967296)⟩
theorem tidy_eq : ∀ (l : List Int), Tidy l → l = limbsN l.length (worth l)
  | [], _ => rfl
  | [x], _ => by simp [limbsN, worth]
  | x :: y :: l, h => by
    have ih := tidy_eq (y :: l) h.2
    have h1 : worth (x :: y :: l) % 4294967296 = x := by
      show (x + 4294967296 * worth (y :: l)) % 4294967296 = x
      have := h.1; omega
    have h2 : worth (x :: y :: l) / 4294967296 = worth (y :: l) := by
      show (x + 4294967296 * worth (y :: l)) / 4294967296 = _
      have := h.1; omega
    show x :: y :: l = (worth (x :: y :: l) % 4294967296) :: limbsN (l.length + 1) (worth (x :: y :: l) / 4294967296)
    rw [h1, h2]
    exact congrArg _ ih
theorem worth_append : ∀ (A B : List Int), worth (A ++ B) = worth A + 4294967296 ^ A.length * worth B
  | [], B => by simp [worth]
  | x :: A, B => by
    simp only [List.cons_append, worth, worth_append A B, List.length_cons]
    rw [Int.pow_succ, Int.mul_add, ← Int.add_assoc]
    congr 1
    rw [← Int.mul_assoc, Int.mul_comm 4294967296]
/-- One limb changed. -/
theorem worth_set : ∀ (l : List Int) (i : Nat) (v : Int), i < l.length → worth (l.set i v) = worth l + 4294967296 ^ i * (v - l.getD i 0)
  | [], i, v, h => by simp at h
  | x :: l, 0, v, _ => by simp [worth]; omega
  | x :: l, i + 1, v, h => by
    have ih := worth_set l i v (by simpa using h)
    simp only [List.set_cons_succ, worth, List.getD_cons_succ]
    rw [ih, Int.mul_add, Int.pow_succ, ← Int.mul_assoc, Int.mul_comm 4294967296 (4294967296 ^ i)]
    omega
theorem tidy_of : ∀ (l : List Int), (∀ i, i + 1 < l.length → 0 ≤ l.getD i 0 ∧ l.getD i 0 < 4294967296) → Tidy l
  | [], _ => trivial
  | [_], _ => trivial
  | x :: y :: l, h => ⟨by simpa using h 0 (by simp), tidy_of (y :: l) fun i hi => by simpa using h (i + 1) (by simpa using hi)⟩
theorem limbs_in : ∀ (n : Nat) (V : Int) (i : Nat), i + 1 < n → 0 ≤ (limbsN n V).getD i 0 ∧ (limbsN n V).getD i 0 < 4294967296
  | 0, _, i, h => by omega
  | 1, _, i, h => by omega
  | n + 2, V, 0, _ => ⟨Int.emod_nonneg _ (by omega), Int.emod_lt_of_pos _ (by omega)⟩
  | n + 2, V, i + 1, h => by
    show 0 ≤ (limbsN (n + 1) (V / 4294967296)).getD i 0 ∧ _
    exact limbs_in (n + 1) _ i (by omega)
/-- The last limb. -/
theorem limbs_last : ∀ (n : Nat) (V : Int), (limbsN (n + 1) V).getD n 0 = V / 4294967296 ^ n
  | 0, V => by simp [limbsN]
  | n + 1, V => by
    show (limbsN (n + 1) (V / 4294967296)).getD n 0 = _
    rw [limbs_last n, Int.ediv_ediv_of_nonneg (by omega), Int.pow_succ, Int.mul_comm]
end FP
