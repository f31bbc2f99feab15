/- Rows of tasks: the document's example. -/
import Derived.Test.YtpfdfbmoegajbaaGg
namespace Go.Proofs.Ytpfdfbmoegajbaa
open Go.RowKit Go.Deep
set_option maxRecDepth 100000
abbrev ex0 : List Tk := [(false, 4607182418800017408, 0), (false, 4607182418800017408, 0), (false, 4607182418800017408, 0)]
abbrev ex1 : List Tk := [(true, 4607182418800017408, 0), (false, 4607182418800017408, 0), (false, 4607182418800017408, 0)]
abbrev ex2 : List Tk := [(true, 4607182418800017408, 0), (true, 4607182418800017408, 0), (false, 4607182418800017408, 0)]
abbrev ex3 : List Tk := [(true, 4607182418800017408, 0), (true, 4611686018427387904, 0), (false, 4607182418800017408, 0)]
abbrev ex4 : List Tk := [(true, 4607182418800017408, 4607182418800017408), (true, 4611686018427387904, 0), (false, 4607182418800017408, 0)]
abbrev ex5 : List Tk := [(true, 4607182418800017408, 4607182418800017408), (true, 4611686018427387904, 4602678819172646912), (false, 4607182418800017408, 0)]
abbrev ex6 : List Tk := [(true, 4607182418800017408, 4607182418800017408), (true, 4611686018427387904, 4607182418800017408), (false, 4607182418800017408, 0)]
abbrev ex7 : List Tk := [(true, 4607182418800017408, 4611686018427387904), (true, 4611686018427387904, 4607182418800017408), (false, 4607182418800017408, 0)]
instance (T : List Tk) : Decidable (Fit T) := by unfold Fit; infer_instance
theorem fresh3 : fresh 3 = ex0 := rfl
theorem exw0 : wakeA ex0 0 = ex1 ∧ code ex0 0 = 0 := by decide +kernel
theorem exw1 : wakeA ex1 1 = ex2 ∧ code ex1 1 = 0 := by decide +kernel
theorem exw2 : weightA ex2 1 4611686018427387904 = ex3 ∧ code ex2 1 = 0 := by decide +kernel
theorem exn3 : nextT ex3 = ex4 ∧ nextK ex3 = 0 ∧ nextOk ex3 = true := by decide +kernel
theorem exn4 : nextT ex4 = ex5 ∧ nextK ex4 = 1 ∧ nextOk ex4 = true := by decide +kernel
theorem exn5 : nextT ex5 = ex6 ∧ nextK ex5 = 1 ∧ nextOk ex5 = true := by decide +kernel
theorem exn6 : nextT ex6 = ex7 ∧ nextK ex6 = 0 ∧ nextOk ex6 = true := by decide +kernel
theorem fit0 : Fit ex0 := by decide +kernel
theorem fit1 : Fit ex1 := by decide +kernel
theorem fit3 : Fit ex3 := by decide +kernel
theorem fit4 : Fit ex4 := by decide +kernel
theorem fit5 : Fit ex5 := by decide +kernel
theorem fit6 : Fit ex6 := by decide +kernel
structure Row2 (w0 w : World) (p g cap : Nat) (T : List Tk) : Prop where
  r : RowAt w p g cap T
  f : OnlyG g w0 w
theorem Row2.step {w0 w w' : World} {p g cap : Nat} {T T' : List Tk} (h : Row2 w0 w p g cap T) (r : RowAt w' p g cap T') (f : OnlyG g w w') : Row2 w0 w' p g cap T' := ⟨r, h.f.trans f⟩
theorem exc0 {w0 w : World} {p g cap : Nat} (h : Row2 w0 w p g cap ex0) : Calls Try.prog 12 #[.pointer (some ⟨p, 0, none⟩), .int .i64 0] w fun e w' => e = .returned (.int .i64 0) ∧ Row2 w0 w' p g cap ex1 := by
  refine (wake_any w p g cap ex0 h.r fit0 0).mono ?_
  rintro e w' ⟨rfl, hr, hg⟩
  rw [exw0.1] at hr; rw [exw0.2]; exact ⟨rfl, h.step hr hg⟩
theorem exc1 {w0 w : World} {p g cap : Nat} (h : Row2 w0 w p g cap ex1) : Calls Try.prog 12 #[.pointer (some ⟨p, 0, none⟩), .int .i64 1] w fun e w' => e = .returned (.int .i64 0) ∧ Row2 w0 w' p g cap ex2 := by
  refine (wake_any w p g cap ex1 h.r fit1 1).mono ?_
  rintro e w' ⟨rfl, hr, hg⟩
  rw [exw1.1] at hr; rw [exw1.2]; exact ⟨rfl, h.step hr hg⟩
theorem exc2 {w0 w : World} {p g cap : Nat} (h : Row2 w0 w p g cap ex2) : Calls Try.prog 11 #[.pointer (some ⟨p, 0, none⟩), .int .i64 1, .float .f64 4611686018427387904] w fun e w' => e = .returned (.int .i64 0) ∧ Row2 w0 w' p g cap ex3 := by
  refine (weight_any w p g cap ex2 h.r 1 4611686018427387904 (by decide)).mono ?_
  rintro e w' ⟨rfl, hr, hg⟩
  rw [exw2.1] at hr; rw [exw2.2]; exact ⟨rfl, h.step hr hg⟩
theorem exc3 {w0 w : World} {p g cap : Nat} (h : Row2 w0 w p g cap ex3) : Calls Try.prog 13 #[.pointer (some ⟨p, 0, none⟩)] w fun e w' => e = .returned (.tuple #[.int .i64 0, .bool true]) ∧ Row2 w0 w' p g cap ex4 := by
  refine (next_any w p g cap ex3 h.r fit3).mono ?_
  rintro e w' ⟨rfl, hr, hg⟩
  rw [exn3.1] at hr; rw [exn3.2.1, exn3.2.2]; exact ⟨rfl, h.step hr hg⟩
theorem exc4 {w0 w : World} {p g cap : Nat} (h : Row2 w0 w p g cap ex4) : Calls Try.prog 13 #[.pointer (some ⟨p, 0, none⟩)] w fun e w' => e = .returned (.tuple #[.int .i64 1, .bool true]) ∧ Row2 w0 w' p g cap ex5 := by
  refine (next_any w p g cap ex4 h.r fit4).mono ?_
  rintro e w' ⟨rfl, hr, hg⟩
  rw [exn4.1] at hr; rw [exn4.2.1, exn4.2.2]; exact ⟨rfl, h.step hr hg⟩
theorem exc5 {w0 w : World} {p g cap : Nat} (h : Row2 w0 w p g cap ex5) : Calls Try.prog 13 #[.pointer (some ⟨p, 0, none⟩)] w fun e w' => e = .returned (.tuple #[.int .i64 1, .bool true]) ∧ Row2 w0 w' p g cap ex6 := by
  refine (next_any w p g cap ex5 h.r fit5).mono ?_
  rintro e w' ⟨rfl, hr, hg⟩
  rw [exn5.1] at hr; rw [exn5.2.1, exn5.2.2]; exact ⟨rfl, h.step hr hg⟩
theorem exc6 {w0 w : World} {p g cap : Nat} (h : Row2 w0 w p g cap ex6) : Calls Try.prog 13 #[.pointer (some ⟨p, 0, none⟩)] w fun e w' => e = .returned (.tuple #[.int .i64 0, .bool true]) ∧ Row2 w0 w' p g cap ex7 := by
  refine (next_any w p g cap ex6 h.r fit6).mono ?_
  rintro e w' ⟨rfl, hr, hg⟩
  rw [exn6.1] at hr; rw [exn6.2.1, exn6.2.2]; exact ⟨rfl, h.step hr hg⟩
theorem fnew3 (w : World) : Calls Try.prog 10 #[.int .i64 3] w fun e w' => ∃ g cap, e = .returned (.tuple #[.pointer (some ⟨w.heap.size, 0, none⟩), .int .i64 0]) ∧ Hid (w.heap.size < g ∧ Below w.heap.size w w') ∧ Hid (Row2 w' w' w.heap.size g cap ex0) := by
  refine (fnew_at w 3 (by omega) (by omega)).mono ?_
  rintro e w' ⟨g, cap, rfl, hr, hg, hB⟩
  exact ⟨g, cap, rfl, ⟨hg, hB⟩, ⟨hr, Fr.refl _ _⟩⟩
/-- THE DOCUMENT's EXAMPLE is as it should be. -/
theorem awake_ok (w : World) : Calls Try.prog 14 #[] w fun e w' => e = .returned (.bool true) ∧ Below w.heap.size w w' := by
  go_enter Try.func14, Try.ntmps14
  go_wp2_with (first | (go_at_call 10; refine (fnew3 w).mono ?_; rintro e w1 ⟨g, cap, rfl, hB, h0⟩) | (go_at_call 12; first | (refine (exc0 h0.out).mono ?_; rintro e w2 ⟨rfl, h1⟩; replace h1 := Lib.hid h1; clear h0) | (refine (exc1 h1.out).mono ?_; rintro e w3 ⟨rfl, h2⟩; replace h2 := Lib.hid h2; clear h1)) | (go_at_call 11; refine (exc2 h2.out).mono ?_; rintro e w4 ⟨rfl, h3⟩; replace h3 := Lib.hid h3; clear h2) | (go_at_call 13; first | (refine (exc3 h3.out).mono ?_; rintro e w5 ⟨rfl, h4⟩; replace h4 := Lib.hid h4; clear h3) | (refine (exc4 h4.out).mono ?_; rintro e w6 ⟨rfl, h5⟩; replace h5 := Lib.hid h5; clear h4) | (refine (exc5 h5.out).mono ?_; rintro e w7 ⟨rfl, h6⟩; replace h6 := Lib.hid h6; clear h5) | (refine (exc6 h6.out).mono ?_; rintro e w8 ⟨rfl, h7⟩; replace h7 := Lib.hid h7; clear h6)))
  go_ret
  exact ⟨rfl, hB.out.2.trans ((h7.out.f.below hB.out.2.size fun q hq => by have := hB.out.1; omega))⟩
end Go.Proofs.Ytpfdfbmoegajbaa
