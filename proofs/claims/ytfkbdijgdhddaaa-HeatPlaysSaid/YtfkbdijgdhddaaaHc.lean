/- The document's example of the heats. -/
import Derived.Test.YtfkbdijgdhddaaaHb
namespace Go.Proofs.Ytfkbdijgdhddaaa
open Go.RowKit Go.Deep
set_option maxRecDepth 100000
theorem HeatAt.later {w w' : World} {p b : Nat} {half now : Int} {L : List (Int × Spot)} (h : HeatAt w p half now b L) (hB : Below w.heap.size w w') : HeatAt w' p half now b L := by
  have lp := World.block_lt_of_cell? w _ h.c0
  exact ⟨(hB.cell (p := ⟨p, 0, none⟩) lp).trans h.c0, (hB.cell (p := ⟨p, 1, none⟩) lp).trans h.c1, (hB.cell (p := ⟨p, 2, none⟩) lp).trans h.c2, (hB.frozen (p := ⟨p, 1, none⟩) lp).trans h.fz, h.m.below hB h.m.lt, h.h1, h.h2, h.n0, h.n1, h.sp⟩
theorem heatOf_lt (half now : Int) {s : Spot} (h : s.1 < 18446744073709551616) : heatOf half now s < 18446744073709551616 := rightB_lt (FP.fadeB_lt h _)
theorem coldest_at (w : World) (p hb : Nat) (half now : Int) (L : List (Int × Spot)) (h : HeatAt w p half now hb L) (b off cap : Nat) (ks : List Int) (hne : 0 < ks.length) (hlb : b < w.heap.size) (hcap : ks.length ≤ cap) (hmax : cap ≤ maxLen) (hc : ∀ i, i < ks.length → w.cell? ⟨b, off + i, none⟩ = some (.int .i64 (ks.getD i 0))) :
    Calls Try.prog 11 #[.pointer (some ⟨p, 0, none⟩), .slice (some ⟨b, off, none⟩) ks.length cap] w fun e w' => e = .returned (.tuple #[.int .i64 (coldF (fun k => heatOf half now (spotOf L k)) ks).1, .bool true]) ∧ Below w.heap.size w w' :=
  coldest_gen (fun k => heatOf half now (spotOf L k)) (fun k => heatOf_lt half now (h.sp k).1) _ w b off cap ks hne hlb hcap hmax hc fun k w1 hB => of_at w1 p hb half now L (h.later hB) k
def exL1 : List (Int × Spot) := updS [] 1 (addR (heatOf 2 1 (spotOf [] 1)) 4620693217682128896, 1)
def exL2 : List (Int × Spot) := updS exL1 2 (addR (heatOf 2 2 (spotOf exL1 2)) 4607182418800017408, 2)
def exL3 : List (Int × Spot) := updS exL2 2 (addR (heatOf 2 3 (spotOf exL2 2)) 4607182418800017408, 3)
theorem fr_below {w w0 w' : World} {p b : Nat} (h : Below w.heap.size w w0) (hp : w.heap.size ≤ p) (hb : w.heap.size ≤ b) (k : Fr (fun q => q = p ∨ q = b) w0 w') : Below w.heap.size w w' :=
  h.trans (k.below h.size (by rintro q (rfl | rfl) <;> assumption))
theorem ex_1 : heatOf 2 3 (spotOf exL3 1) = 4616189618054758400 := by decide +kernel
theorem ex_2 : heatOf 2 3 (spotOf exL3 2) = 4611686018427387904 := by decide +kernel
theorem ex_cold : (coldF (fun k => heatOf 2 3 (spotOf exL3 k)) [1, 2, 3]).1 = 3 := by decide +kernel
theorem coldest_123 (w : World) (p hb g : Nat) (half now : Int) (L : List (Int × Spot)) (h : HeatAt w p half now hb L) (hg : g < w.heap.size) (h0 : w.cell? ⟨g, 0, none⟩ = some (.int .i64 1)) (h1 : w.cell? ⟨g, 1, none⟩ = some (.int .i64 2)) (h2 : w.cell? ⟨g, 2, none⟩ = some (.int .i64 3)) :
    Calls Try.prog 11 #[.pointer (some ⟨p, 0, none⟩), .slice (some ⟨g, 0, none⟩) 3 3] w fun e w' => e = .returned (.tuple #[.int .i64 (coldF (fun k => heatOf half now (spotOf L k)) [1, 2, 3]).1, .bool true]) ∧ Below w.heap.size w w' :=
  coldest_at w p hb half now L h g 0 3 [1, 2, 3] (by simp) hg (by simp) (by unfold maxLen; omega) (fun i hi => by
    match i, hi with
    | 0, _ => exact h0
    | 1, _ => exact h1
    | 2, _ => exact h2)
theorem awake_any (w : World) : Calls Try.prog 13 #[] w fun e w' => e = .returned (.bool true) ∧ Below w.heap.size w w' := by
  go_enter Try.func13, Try.ntmps13
  go_wp2_with fail
  refine (new_good 2 (by omega) (by omega) _).mono ?_
  rintro e w1 ⟨p, b, rfl, h1, hp, hb, hB⟩
  have H1 := Lib.hid h1; clear h1
  go_wp2_with fail
  refine (touch_at w1 p b 2 0 [] H1.out (by omega) 1 4620693217682128896).mono ?_
  rintro e w2 ⟨rfl, h2, f2⟩
  have H2 : Hid (HeatAt w2 p 2 1 b exL1) := h2
  have hB2 := fr_below hB hp hb f2
  clear h2 f2
  go_wp2_with fail
  refine (touch_at w2 p b 2 1 exL1 H2.out (by omega) 2 4607182418800017408).mono ?_
  rintro e w3 ⟨rfl, h3, f3⟩
  have H3 : Hid (HeatAt w3 p 2 2 b exL2) := h3
  have hB3 := fr_below hB2 hp hb f3
  clear h3 f3
  go_wp2_with fail
  refine (touch_at w3 p b 2 2 exL2 H3.out (by omega) 2 4607182418800017408).mono ?_
  rintro e w4 ⟨rfl, h4, f4⟩
  have H4 : Hid (HeatAt w4 p 2 3 b exL3) := h4
  have hB4 := fr_below hB3 hp hb f4
  clear h4 f4
  go_wp2_with fail
  have hB5 : Below w.heap.size w (w4.alloc (.cells #[.int .i64 1, .int .i64 2, .int .i64 3] 3)) := hB4.alloc hB4.size _
  refine (coldest_123 _ p b w4.heap.size 2 3 exL3 (H4.out.later ((Below.refl _ _).alloc (Nat.le_refl _) _)) (by simp) (by go_cell) (by go_cell) (by go_cell)).mono ?_
  rw [ex_cold]
  rintro e w6 ⟨rfl, hB6⟩
  have H6 := Lib.hid (HeatAt.later (HeatAt.later H4.out ((Below.refl _ _).alloc (Nat.le_refl _) (.cells #[.int .i64 1, .int .i64 2, .int .i64 3] 3))) hB6)
  have hB7 := below_chain hB5 hB6
  clear hB hB2 hB3 hB4 hB5 hB6
  have o4 : (FloatKind.f64.format.order 4616189618054758400 4616189618054758400 == some Ordering.eq) = true := by decide +kernel
  have o2 : (FloatKind.f64.format.order 4611686018427387904 4611686018427387904 == some Ordering.eq) = true := by decide +kernel
  go_wp2_with fail
  refine (of_at w6 p b 2 3 exL3 H6.out 1).mono ?_
  rw [ex_1]
  rintro e w8 ⟨rfl, hB8⟩
  have H8 := Lib.hid (HeatAt.later H6.out hB8)
  have hB9 := below_chain hB7 hB8
  clear hB7 hB8
  go_wp2_with fail
  refine (of_at w8 p b 2 3 exL3 H8.out 2).mono ?_
  rw [ex_2]
  rintro e w10 ⟨rfl, hB10⟩
  have hB11 := below_chain hB9 hB10
  clear hB9 hB10
  go_wp2
  go_ret
  exact ⟨rfl, hB11⟩
end Go.Proofs.Ytfkbdijgdhddaaa
