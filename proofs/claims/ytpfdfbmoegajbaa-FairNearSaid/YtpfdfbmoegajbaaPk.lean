/- Contract of Pick. -/
import Derived.Test.YtpfdfbmoegajbaaRows
import Derived.WalkKit
import Derived.WalkLawsBesides
import Derived.Lib.Hide
namespace Go.Proofs.Ytpfdfbmoegajbaa
open Go.RowKit
set_option maxRecDepth 100000
theorem pk_ret {a b : Int} (h : a = b) : Ending.returned (.int .i64 a) = .returned (.int .i64 b) := by rw [h]
theorem tmod_two (x n : Int) (h1 : 1 ≤ n) : x.tmod n = x % n ∨ x.tmod n = x % n - n := by
  rw [Int.tmod_eq_emod]
  split
  · left; omega
  · right; omega
theorem pick_neg {x n : Int} (h1 : 1 ≤ n) (h2 : n ≤ 1000000) (h : x.tmod n < 0) : wrap64 (x.tmod n + n) = x % n := by
  have hm := Int.emod_nonneg x (show n ≠ 0 by omega)
  have hm2 := Int.emod_lt_of_pos x (show 0 < n by omega)
  rcases tmod_two x n h1 with e | e
  · omega
  · rw [e, show x % n - n + n = x % n by omega]; exact IntWalk.wrap64_in _ (by omega)
theorem pick_zero {x n : Int} (h1 : 1 ≤ n) (h : 0 ≤ x.tmod n) : x.tmod n = x % n := by
  have hm2 := Int.emod_lt_of_pos x (show 0 < n by omega)
  rcases tmod_two x n h1 with e | e <;> omega
theorem pick_any (x n : Int) (h1 : 1 ≤ n) (h2 : n ≤ 1000000) (hx : -9223372036854775808 ≤ x ∧ x ≤ 9223372036854775807) (w : World) : Calls Try.prog 9 #[.int .i64 x, .int .i64 n] w fun e w' => e = .returned (.int .i64 (x % n)) ∧ w = w' := by
  obtain ⟨x1, x2⟩ := hx
  have hm := Int.emod_nonneg x (show n ≠ 0 by omega)
  have hm2 := Int.emod_lt_of_pos x (show 0 < n by omega)
  have hn0 : (n == 0) = false := by rw [beq_eq_false_iff_ne]; omega
  have hn1 : ¬ n = 0 := by omega
  by_cases h0 : 0 ≤ x
  · have ht : x.tmod n = x % n := Int.tmod_eq_emod_of_nonneg h0
    have Ht := Lib.hid ht; clear ht
    go_enter Try.func9, Try.ntmps9
    go_wp2
    go_ret
    exact ⟨rfl, rfl⟩
  · go_enter Try.func9, Try.ntmps9
    go_wp2
    · go_ret
      exact ⟨pk_ret (pick_neg h1 h2 (by assumption)), rfl⟩
    · go_ret
      exact ⟨pk_ret (pick_zero h1 (by assumption)), rfl⟩
end Go.Proofs.Ytpfdfbmoegajbaa
