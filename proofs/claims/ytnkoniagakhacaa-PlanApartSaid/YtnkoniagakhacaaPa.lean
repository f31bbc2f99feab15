/- Contracts of parts and begun. -/
import Derived.Test.YtnkoniagakhacaaSl
import Derived.Test.YtnkoniagakhacaaPk
namespace Go.Proofs.Ytnkoniagakhacaa
open Go.RowKit Go.Deep
set_option maxRecDepth 100000
theorem parts_any (n s : Int) (hn : 0 ≤ n ∧ n ≤ 1000000) (hs : 1 ≤ s ∧ s ≤ 1000) (w : World) : Calls Try.prog 23 #[.int .i64 n, .int .i64 s] w fun e w' => e = .returned (.int .i64 ((n + s - 1) / s)) ∧ w = w' := by
  have hn0 : (s == 0) = false := by rw [beq_eq_false_iff_ne]; omega
  have hn1 : ¬ s = 0 := by omega
  have e1 : wrap64 (n + s) = n + s := IntWalk.wrap64_in _ (by omega)
  have e2 : wrap64 (n + s - 1) = n + s - 1 := IntWalk.wrap64_in _ (by omega)
  have e3 : (n + s - 1).tdiv s = (n + s - 1) / s := Int.tdiv_eq_ediv_of_nonneg (by omega)
  have d1 : 0 ≤ (n + s - 1) / s := Int.ediv_nonneg (by omega) (by omega)
  have d2 : (n + s - 1) / s ≤ n + s - 1 := Int.ediv_le_self _ (by omega)
  have e4 : wrap64 ((n + s - 1) / s) = (n + s - 1) / s := IntWalk.wrap64_in _ (by omega)
  go_enter Try.func23, Try.ntmps23
  go_wp2
  go_ret
  exact ⟨rfl, rfl⟩
theorem begun_16 (n : Int) (hn : 0 ≤ n ∧ n ≤ 1000000) (w : World) : Calls Try.prog 24 #[.int .i64 n, .int .i64 16] w fun e w' => e = .returned (.int .i64 ((n + 16 - 1) / 16)) ∧ w = w' := by
  go_enter Try.func24, Try.ntmps24
  go_wp2
  go_loop [5] (fun v => ∃ k : Int, v = .int .i64 k ∧ 0 ≤ k ∧ k ≤ (n + 16 - 1) / 16) (fun v => ((n + 16 - 1) / 16 - intOf v).toNat)
  case atStart => exact ⟨0, rfl, by omega, by omega⟩
  case round =>
    obtain ⟨k, rfl, k1, k2⟩ := hrel
    have e1 : wrap64 (k * 16) = k * 16 := IntWalk.wrap64_in _ (by omega)
    by_cases hlt : k * 16 < n
    · go_wp2
      go_round
      case rel => exact ⟨k + 1, by go_num, by omega, by omega⟩
      case measure => simp only [intOf]; omega
    · have hk : k = (n + 16 - 1) / 16 := by omega
      go_wp2
      go_ret
      exact ⟨rfl, rfl⟩
theorem begun_8 (n : Int) (hn : 0 ≤ n ∧ n ≤ 1000000) (w : World) : Calls Try.prog 24 #[.int .i64 n, .int .i64 8] w fun e w' => e = .returned (.int .i64 ((n + 8 - 1) / 8)) ∧ w = w' := by
  go_enter Try.func24, Try.ntmps24
  go_wp2
  go_loop [5] (fun v => ∃ k : Int, v = .int .i64 k ∧ 0 ≤ k ∧ k ≤ (n + 8 - 1) / 8) (fun v => ((n + 8 - 1) / 8 - intOf v).toNat)
  case atStart => exact ⟨0, rfl, by omega, by omega⟩
  case round =>
    obtain ⟨k, rfl, k1, k2⟩ := hrel
    have e1 : wrap64 (k * 8) = k * 8 := IntWalk.wrap64_in _ (by omega)
    by_cases hlt : k * 8 < n
    · go_wp2
      go_round
      case rel => exact ⟨k + 1, by go_num, by omega, by omega⟩
      case measure => simp only [intOf]; omega
    · have hk : k = (n + 8 - 1) / 8 := by omega
      go_wp2
      go_ret
      exact ⟨rfl, rfl⟩
theorem begun_256 (n : Int) (hn : 0 ≤ n ∧ n ≤ 1000000) (w : World) : Calls Try.prog 24 #[.int .i64 n, .int .i64 256] w fun e w' => e = .returned (.int .i64 ((n + 256 - 1) / 256)) ∧ w = w' := by
  go_enter Try.func24, Try.ntmps24
  go_wp2
  go_loop [5] (fun v => ∃ k : Int, v = .int .i64 k ∧ 0 ≤ k ∧ k ≤ (n + 256 - 1) / 256) (fun v => ((n + 256 - 1) / 256 - intOf v).toNat)
  case atStart => exact ⟨0, rfl, by omega, by omega⟩
  case round =>
    obtain ⟨k, rfl, k1, k2⟩ := hrel
    have e1 : wrap64 (k * 256) = k * 256 := IntWalk.wrap64_in _ (by omega)
    by_cases hlt : k * 256 < n
    · go_wp2
      go_round
      case rel => exact ⟨k + 1, by go_num, by omega, by omega⟩
      case measure => simp only [intOf]; omega
    · have hk : k = (n + 256 - 1) / 256 := by omega
      go_wp2
      go_ret
      exact ⟨rfl, rfl⟩
end Go.Proofs.Ytnkoniagakhacaa
