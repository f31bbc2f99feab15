/- A gauge that is none; Count, Min, Max. -/
import Derived.Test.YtdjilhahafkpfaaLs
namespace Go.Proofs.Ytdjilhahafkpfaa
open Go.RowKit Go.Deep
set_option maxRecDepth 100000
theorem results_tmp4 {fn : Func} {t u v x : Tmp} (h : fn.results = #[.tmp t, .tmp u, .tmp v, .tmp x]) (tmps : Array Value) (P : Program) (w : World) :
    (results fn tmps).run P w = .ok (.tuple #[tmps.getD t undef, tmps.getD u undef, tmps.getD v undef, tmps.getD x undef]) w := by
  simp [results, h]
theorem count_nil (w : World) : Calls Try.prog 21 #[.pointer none] w fun e w' => e = .returned (.tuple #[.int .i64 0, .int .i64 0, .int .i64 0, .int .i64 0]) ∧ w = w' := by
  go_enter Try.func21, Try.ntmps21
  go_wp2
  (try simp only [Exit.inBlock, Exit.then])
  refine bodyPost_ret (results_tmp4 rfl _ _ _) rfl ?_
  exact ⟨rfl, rfl⟩
theorem count_any (w : World) (p : Nat) (G : Gs) (hG : GA w p G) : Calls Try.prog 21 #[.pointer (some ⟨p, 0, none⟩)] w fun e w' => e = .returned (.tuple #[.int .i64 G.c, .int .i64 G.o, .int .i64 G.h, .int .i64 G.l]) ∧ ∃ n, w' = w.drewN n := by
  have c70 := GB.tail hG (i := 0) (by omega)
  have c71 := GB.tail hG (i := 1) (by omega)
  have c72 := GB.tail hG (i := 2) (by omega)
  have c73 := GB.tail hG (i := 3) (by omega)
  simp only [Gs.tl] at c70 c71 c72 c73
  clear hG
  go_enter Try.func21, Try.ntmps21
  go_wp2
  go_quiet (fail)
  go_wp2
  (try simp only [Exit.inBlock, Exit.then])
  refine bodyPost_ret (results_tmp4 rfl _ _ _) rfl ?_
  exact ⟨rfl, nq, rfl⟩
theorem gmin_nil (w : World) : Calls Try.prog 23 #[.pointer none] w fun e w' => e = .returned (.float .f64 9221120237041090561) ∧ w = w' := by
  go_enter Try.func23, Try.ntmps23
  go_wp2_with (go_at_call 25; refine (nan_any _).mono ?_; rintro e w' ⟨rfl, rfl⟩)
  go_ret
  exact ⟨rfl, rfl⟩
theorem gmin_any (w : World) (p : Nat) (G : Gs) (hG : GA w p G) : Calls Try.prog 23 #[.pointer (some ⟨p, 0, none⟩)] w fun e w' => e = .returned (.float .f64 G.mn) ∧ w = w' := by
  have c74 := GB.tail hG (i := 4) (by omega)
  simp only [Gs.tl] at c74
  clear hG
  go_enter Try.func23, Try.ntmps23
  go_wp2
  go_ret
  exact ⟨rfl, rfl⟩
theorem gmax_nil (w : World) : Calls Try.prog 24 #[.pointer none] w fun e w' => e = .returned (.float .f64 9221120237041090561) ∧ w = w' := by
  go_enter Try.func24, Try.ntmps24
  go_wp2_with (go_at_call 25; refine (nan_any _).mono ?_; rintro e w' ⟨rfl, rfl⟩)
  go_ret
  exact ⟨rfl, rfl⟩
theorem gmax_any (w : World) (p : Nat) (G : Gs) (hG : GA w p G) : Calls Try.prog 24 #[.pointer (some ⟨p, 0, none⟩)] w fun e w' => e = .returned (.float .f64 G.mx) ∧ w = w' := by
  have c75 := GB.tail hG (i := 5) (by omega)
  simp only [Gs.tl] at c75
  clear hG
  go_enter Try.func24, Try.ntmps24
  go_wp2
  go_ret
  exact ⟨rfl, rfl⟩
theorem gsum_nil (w : World) : Calls Try.prog 15 #[.pointer none] w fun e w' => e = .returned (.float .f64 9221120237041090561) ∧ w = w' := by
  go_enter Try.func15, Try.ntmps15
  go_wp2_with (go_at_call 25; refine (nan_any _).mono ?_; rintro e w' ⟨rfl, rfl⟩)
  go_ret
  exact ⟨rfl, rfl⟩
theorem gmean_nil (w : World) : Calls Try.prog 19 #[.pointer none] w fun e w' => e = .returned (.float .f64 9221120237041090561) ∧ w = w' := by
  go_enter Try.func19, Try.ntmps19
  go_wp2_with (first | (go_at_call 21; refine (count_nil _).mono ?_; rintro e w' ⟨rfl, rfl⟩) | (go_at_call 25; refine (nan_any _).mono ?_; rintro e w' ⟨rfl, rfl⟩))
  go_ret
  exact ⟨rfl, rfl⟩
theorem gadd_nil (x : Nat) (w : World) : Calls Try.prog 13 #[.pointer none, .float .f64 x] w fun e w' => e = .returned (.tuple #[]) ∧ w = w' := by
  go_enter Try.func13, Try.ntmps13
  go_wp2
  (try simp only [Exit.inBlock, Exit.then])
  refine bodyPost_ret (results_none rfl _ _ _) rfl ?_
  exact ⟨rfl, rfl⟩
end Go.Proofs.Ytdjilhahafkpfaa
