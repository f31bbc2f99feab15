/- Contracts: the first and the last one of a list of numbers. -/
import Derived.Test.YtdjilhahafkpfaaRc
import Derived.Test.YtdjilhahafkpfaaSl
import Derived.Test.YtdjilhahafkpfaaFpe
import Derived.Handy
namespace Go.Proofs.Ytdjilhahafkpfaa
open Go.RowKit
set_option maxRecDepth 100000
theorem own_cells {w : World} {base : Nat} {e : TypeId} {v : Value} {n : Nat} {xs : List Value} (h : w.ownsRow base e 1 v n xs) (hn : 0 < n) :
    ∃ g cap, v = .slice (some ⟨g, 0, none⟩) n cap ∧ base ≤ g ∧ n ≤ cap ∧ cap ≤ maxLen ∧ ∀ i u, xs[i]? = some u → w.cell? ⟨g, 0 + i, none⟩ = some u := by
  obtain ⟨hl, ⟨-, h0⟩ | ⟨g, cap, cur, rfl, hg, hh, hnc, hcm, hcs, ht⟩⟩ := h
  · omega
  · refine ⟨g, cap, rfl, hg, hnc, hcm, fun i u hi => ?_⟩
    have hlt := (List.getElem?_eq_some_iff.1 hi).1
    rw [← ht, List.getElem?_take_of_lt (by omega)] at hi
    simp only [World.cell?, hh, Nat.zero_add]
    simpa using hi
theorem own_base {w : World} {base : Nat} {e : TypeId} {sz : Nat} {v : Value} {n : Nat} {xs : List Value} (h : w.ownsRow base e sz v n xs) {q : Nat} (hq : v.ownBlock = some q) : base ≤ q := by
  obtain ⟨-, ⟨rfl, -⟩ | ⟨g, cap, cur, rfl, hg, -⟩⟩ := h
  · cases hq
  · cases hq; exact hg
theorem float_ne (zs : List Nat) {i : Nat} (h : i < zs.length) : (zs.map (Value.float .f64))[i]? = some (.float .f64 (zs.getD i 0)) := by
  simp [List.getD, h]
theorem min_row (w : World) (b off cap : Nat) (zs : List Nat) (hwf : ∀ n ∈ zs, n < 18446744073709551616) (hc : ∀ i, i < zs.length → w.cell? ⟨b, off + i, none⟩ = some (.float .f64 (zs.getD i 0))) (hmax : cap ≤ maxLen) (hcap : zs.length ≤ cap) : Calls Try.prog 28 #[.slice (some ⟨b, off, none⟩) zs.length cap] w fun e w' => e = .returned (.float .f64 (FP.minF zs)) ∧ w = w' := by
  unfold maxLen at hmax
  have HC := Lib.hid hc; clear hc
  have HW := Lib.hid hwf; clear hwf
  go_enter Try.func28, Try.ntmps28
  go_wp2_with (first | (go_at_call 25; refine (nan_any _).mono ?_; rintro e w' ⟨rfl, rfl⟩))
  go_loop [3, 9] (fun m i => ∃ k : Nat, k ≤ zs.length ∧ i = .int .i64 k ∧ m = .float .f64 ((zs.take k).foldl FP.stepMin 9221120237041090561)) (fun _ i => zs.length - (intOf i).toNat)
  case atStart => exact ⟨0, Nat.zero_le _, rfl, rfl⟩
  case round =>
    obtain ⟨k, hk, rfl, rfl⟩ := hrel
    by_cases hlt : k < zs.length
    · have hcell := HC.out k hlt
      have Hx := Lib.hid (FP.getD_lt HW.out k)
      have Hs := Lib.hid (FP.fold_snoc FP.stepMin 9221120237041090561 zs k 0 hlt)
      have Hm := Lib.hid (FP.fold_lt (fun _ _ => FP.stepMin_lt) (zs.take k) 9221120237041090561 (by omega) (FP.take_lt HW.out k))
      generalize zs.getD k 0 = x at hcell Hx Hs
      generalize (zs.take k).foldl FP.stepMin 9221120237041090561 = m at Hs Hm
      go_wp2_with (first | (go_at_call 29; refine (less_any _ _ _ (by first | exact Hid.out (by assumption) | omega) (by first | exact Hid.out (by assumption) | omega)).mono ?_; rintro e w' ⟨rfl, rfl⟩))
      · go_round
        case rel => exact ⟨k + 1, by omega, by go_num, by rw [Hs.out]; unfold FP.stepMin; rw [if_pos (by assumption)]⟩
        case measure => simp [intOf]; omega
      · go_round
        case rel => exact ⟨k + 1, by omega, by go_num, by rw [Hs.out]; unfold FP.stepMin; rw [if_neg (by simp; assumption)]⟩
        case measure => simp [intOf]; omega
    · go_wp2
      go_ret
      exact ⟨ret_f64 (by rw [List.take_of_length_le (by omega)]; rfl), rfl⟩
theorem min_nil (w : World) (a : Option Addr) (cap : Nat) : Calls Try.prog 28 #[.slice a 0 cap] w fun e w' => e = .returned (.float .f64 (FP.minF [])) ∧ w = w' := by
  go_enter Try.func28, Try.ntmps28
  go_wp2_with (first | (go_at_call 25; refine (nan_any _).mono ?_; rintro e w' ⟨rfl, rfl⟩))
  refine wp_loop_rounds 1 ?_
  rw [rounds_succ]
  go_wp2
  go_ret
  exact ⟨rfl, rfl⟩
end Go.Proofs.Ytdjilhahafkpfaa
