/- A gauge in memory; carry. -/
import Derived.Test.YtdjilhahafkpfaaBk
import Derived.Test.YtdjilhahafkpfaaLa
import Derived.WalkKit
import Derived.WalkLawsBesides
import Derived.BigQuiet
namespace Go.Proofs.Ytdjilhahafkpfaa
open Go.RowKit Go.Deep
set_option maxRecDepth 100000
def ints (L : List Int) : List Value := L.map (.int .i64)
/-- A gauge's cells: its limbs, and what stands behind them. -/
def gcells (L : List Int) (t : List Value) : Array Value := (ints L ++ t).toArray
structure GB (w : World) (p : Nat) (L : List Int) (t : List Value) : Prop where
  b : Blk w p 46 (gcells L t)
  l : L.length = 70
  n : t.length = 6
theorem GB.limb {w : World} {p : Nat} {L : List Int} {t : List Value} (h : GB w p L t) {i : Nat} (hi : i < 70) : w.cell? ⟨p, i, none⟩ = some (.int .i64 (L.getD i 0)) := by
  have hl := h.l
  rw [h.b.cell]
  unfold gcells ints
  rw [List.getElem?_toArray, List.getElem?_append_left (by simp; omega)]
  simp [List.getD, hl, hi]
theorem GB.tail {w : World} {p : Nat} {L : List Int} {t : List Value} (h : GB w p L t) {i : Nat} (hi : i < 6) : w.cell? ⟨p, 70 + i, none⟩ = t[i]? := by
  have hl := h.l
  rw [h.b.cell]
  unfold gcells ints
  rw [List.getElem?_toArray, List.getElem?_append_right (by simp; omega)]
  simp [hl]
theorem GB.froz {w : World} {p : Nat} {L : List Int} {t : List Value} (h : GB w p L t) (i : Nat) : w.frozen? ⟨p, i, none⟩ = false := h.b.froz i
theorem GB.set {w : World} {p : Nat} {L : List Int} {t : List Value} (h : GB w p L t) {i : Nat} (hi : i < 70) (v : Int) : GB (w.setCell ⟨p, i, none⟩ (.int .i64 v)) p (L.set i v) t := by
  refine ⟨?_, by rw [List.length_set]; exact h.l, h.n⟩
  have hb := h.b.set i (.int .i64 v)
  have hl := h.l
  have e : (gcells L t).setIfInBounds i (.int .i64 v) = gcells (L.set i v) t := by
    unfold gcells ints
    rw [List.setIfInBounds_toArray, List.set_append_left _ _ (by simp; omega), List.map_set]
  rw [e] at hb; exact hb
theorem GB.below {w w' : World} {p : Nat} {L : List Int} {t : List Value} (h : GB w p L t) (hB : Below w.heap.size w w') : GB w' p L t := ⟨h.b.below hB h.b.lt, h.l, h.n⟩
theorem getD_setI {L : List Int} {i j : Nat} (v : Int) (hj : j < L.length) : (L.set i v).getD j 0 = if i = j then v else L.getD j 0 := by
  rw [List.getD_eq_getElem?_getD, List.getElem?_set]
  by_cases h : i = j
  · subst h; rw [if_pos rfl, if_pos hj, if_pos rfl]; rfl
  · rw [if_neg h, if_neg h, List.getD_eq_getElem?_getD]
theorem carry_worth {M : List Int} {i : Nat} (hi : i + 1 < M.length) (o : Int) : FP.worth ((M.set i (M.getD i 0 - o * 4294967296)).set (i + 1) (M.getD (i + 1) 0 + o)) = FP.worth M := by
  rw [FP.worth_set _ _ _ (by simpa using hi), FP.worth_set _ _ _ (by omega), getD_setI _ hi, if_neg (by omega), Int.pow_succ]
  have e1 : M.getD i 0 - o * 4294967296 - M.getD i 0 = -(o * 4294967296) := by omega
  have e2 : M.getD (i + 1) 0 + o - M.getD (i + 1) 0 = o := by omega
  rw [e1, e2, Int.mul_neg, Int.mul_assoc, Int.mul_comm 4294967296 o]
  omega
set_option maxHeartbeats 2000000 in
theorem carry_any (w : World) (p : Nat) (L : List Int) (t : List Value) (h : GB w p L t) (hb : ∀ j, j < 70 → -1099511627776 ≤ L.getD j 0 ∧ L.getD j 0 ≤ 1099511627776) :
    Calls Try.prog 33 #[.pointer (some ⟨p, 0, none⟩)] w fun e w' => e = .returned (.tuple #[]) ∧ GB w' p (FP.limbsN 70 (FP.worth L)) t ∧ Fr (fun q => q = p) w w' := by
  have HB := Lib.hid hb
  have H := Lib.hid h
  clear hb h
  go_enter Try.func33, Try.ntmps33
  go_wp2
  go_loopw [4] (fun iv wr => ∃ i : Nat, ∃ M : List Int, iv = .int .i64 i ∧ i ≤ 69 ∧ Hid (GB wr p M t ∧ FP.worth M = FP.worth L ∧ (∀ j, j < i → 0 ≤ M.getD j 0 ∧ M.getD j 0 < 4294967296) ∧ (∀ j, i < j → j < 70 → M.getD j 0 = L.getD j 0) ∧ -2199023255552 ≤ M.getD i 0 ∧ M.getD i 0 ≤ 2199023255552) ∧ Fr (fun q => q = p) w wr) (fun iv _ => 69 - (intOf iv).toNat)
  case atStart => exact ⟨0, L, rfl, by omega, ⟨H.out, rfl, fun j hj => by omega, fun _ _ _ => rfl, by have := HB.out 0 (by omega); omega, by have := HB.out 0 (by omega); omega⟩, Fr.refl _ _⟩
  case round =>
    obtain ⟨i, M, rfl, i1, HM, hF⟩ := hrel
    have hi0 : (0 : Int) ≤ (i : Int) := Int.natCast_nonneg _
    by_cases hlt : i < 69
    · have hlt' : (i : Int) < 69 := by omega
      obtain ⟨hG, hW, h1, h2, h3, h4⟩ := HM.out
      have c1 := hG.limb (i := i) (by omega)
      have f1 := hG.froz i
      have HN := Lib.hid (carry_worth (M := M) (i := i) (by have := hG.l; omega) (M.getD i 0 / 4294967296))
      have HX : Hid (M.getD i 0 = M.getD i 0) := rfl
      obtain ⟨x, hx⟩ : ∃ x, M.getD i 0 = x := ⟨_, rfl⟩
      rw [hx] at c1 HN h3 h4
      have hy := h2 (i + 1) (by omega) (by omega)
      have hyb := HB.out (i + 1) (by omega)
      rw [← hy] at hyb
      have HS := Lib.hid fun v => hG.set (i := i) (by omega) v
      have HLn := Lib.hid hG.l
      obtain ⟨y, hy2⟩ : ∃ y, M.getD (i + 1) 0 = y := ⟨_, rfl⟩
      rw [hy2] at HN hyb
      have HXY := Lib.hid (And.intro hx hy2)
      clear hG hW h1 h2 hx hy hy2 HX
      go_wp2
      generalize hoe : x / 4294967296 = o at HN ⊢
      have ho : (0 ≤ x - o * 4294967296 ∧ x - o * 4294967296 < 4294967296) ∧ -512 ≤ o ∧ o ≤ 512 := by omega
      have w1 : wrap64 (o * 4294967296) = o * 4294967296 := IntWalk.wrap64_in _ (by omega)
      have w2 : IntKind.i64.wrap (o * 4294967296) = o * 4294967296 := IntWalk.i64_in _ (by omega)
      have w3 : wrap64 (x - o * 4294967296) = x - o * 4294967296 := IntWalk.wrap64_in _ (by omega)
      have w4 : IntKind.i64.wrap (x - o * 4294967296) = x - o * 4294967296 := IntWalk.i64_in _ (by omega)
      clear hoe
      go_region
      have h5 : Hid (GB (wr.setCell ⟨p, i, none⟩ (.int .i64 (x - o * 4294967296))).drew p (M.set i (x - o * 4294967296)) t) := by
        have h := HS.out (x - o * 4294967296)
        exact ⟨h.b, h.l, h.n⟩
      have hF5 : Hid (Fr (fun q => q = p) w (wr.setCell ⟨p, i, none⟩ (.int .i64 (x - o * 4294967296))).drew) := (hF.setCell (Or.inl rfl) _).drew
      generalize (wr.setCell ⟨p, i, none⟩ (.int .i64 (x - o * 4294967296))).drew = w5 at h5 hF5 ⊢
      have c2 := h5.out.limb (i := i + 1) (by omega)
      rw [getD_setI _ (by have := HLn.out; omega), if_neg (by omega), HXY.out.2] at c2
      have f2 := h5.out.froz (i + 1)
      have hi2 : (i : Int) + 1 < 70 := by omega
      have w5' : wrap64 (y + o) = y + o := IntWalk.wrap64_in _ (by omega)
      have w6' : IntKind.i64.wrap (y + o) = y + o := IntWalk.i64_in _ (by omega)
      have h6 := Lib.hid (h5.out.set (i := i + 1) (by omega) (y + o))
      clear w1 w2 w3 w4 c1 f1
      go_wp2
      go_region
      all_goals
        go_wp2
        go_roundw
        case rel =>
          refine ⟨i + 1, (M.set i (x - o * 4294967296)).set (i + 1) (y + o), by go_num, by omega, ⟨⟨h6.out.b, h6.out.l, h6.out.n⟩, ?_, ?_, ?_, ?_⟩, (hF5.out.setCell (Or.inl rfl) _).drew⟩
          · exact HN.out.trans HM.out.2.1
          · intro j hj
            have hml := HLn.out
            rw [getD_setI _ (by simp; omega), getD_setI _ (by omega), if_neg (by omega)]
            by_cases e : i = j
            · rw [if_pos e]; exact ho.1
            · rw [if_neg e]; exact HM.out.2.2.1 j (by omega)
          · intro j hj hj2
            have hml := HLn.out
            rw [getD_setI _ (by simp; omega), getD_setI _ (by omega), if_neg (by omega), if_neg (by omega)]
            exact HM.out.2.2.2.1 j (by omega) hj2
          · have hml := HLn.out
            rw [getD_setI _ (by simp; omega), if_pos rfl]; omega
        case measure => simp only [intOf]; omega
    · obtain rfl : i = 69 := by omega
      have HE : Hid (GB wr p (FP.limbsN 70 (FP.worth L)) t) := by
        obtain ⟨hG, hW, h1, -⟩ := HM.out
        have ht := FP.tidy_eq M (FP.tidy_of M fun j hj => h1 j (by have := hG.l; omega))
        rw [hW, hG.l] at ht
        rw [ht] at hG; exact hG
      clear HM
      go_wp2
      go_end0
      exact ⟨rfl, HE.out, hF⟩
end Go.Proofs.Ytdjilhahafkpfaa
