/- Contracts of New, Drop, Coldest; heats that are none. -/
import Derived.Test.YtfkbdijgdhddaaaHt
import Derived.Test.YtfkbdijgdhddaaaFpe
import Derived.Handy
namespace Go.Proofs.Ytfkbdijgdhddaaa
open Go.RowKit Go.Deep
set_option maxRecDepth 100000
theorem below_chain {W0 w w' : World} (h : Below W0.heap.size W0 w) (k : Below w.heap.size w w') : Below W0.heap.size W0 w' := h.trans (k.mono h.size)
theorem of_nil (k : Int) (w : World) : Calls Try.prog 12 #[.pointer none, .int .i64 k] w fun e w' => e = .returned (.float .f64 0) ∧ w = w' := by
  go_enter Try.func12, Try.ntmps12
  go_wp2
  go_ret
  exact ⟨rfl, rfl⟩
theorem touch_nil (k : Int) (x : Nat) (w : World) : Calls Try.prog 9 #[.pointer none, .int .i64 k, .float .f64 x] w fun e w' => e = .returned (.tuple #[]) ∧ w = w' := by
  go_enter Try.func9, Try.ntmps9
  go_wp2
  refine bodyPost_ret (results_none rfl _ _ _) rfl ?_
  exact ⟨rfl, rfl⟩
theorem drop_nil (k : Int) (w : World) : Calls Try.prog 10 #[.pointer none, .int .i64 k] w fun e w' => e = .returned (.tuple #[]) ∧ w = w' := by
  go_enter Try.func10, Try.ntmps10
  go_wp2
  go_end0
  exact ⟨rfl, rfl⟩
theorem new_bad (half : Int) (h : half < 1 ∨ 1000 < half) (w : World) : Calls Try.prog 19 #[.int .i64 half] w fun e w' => e = .returned (.tuple #[.pointer none, .int .i64 1]) ∧ w = w' := by
  go_enter Try.func19, Try.ntmps19
  go_wp2
  all_goals go_ret2
  all_goals exact ⟨rfl, rfl⟩
theorem new_good (half : Int) (h1 : 1 ≤ half) (h2 : half ≤ 1000) (w : World) : Calls Try.prog 19 #[.int .i64 half] w fun e w' => ∃ p b, e = .returned (.tuple #[.pointer (some ⟨p, 0, none⟩), .int .i64 0]) ∧ HeatAt w' p half 0 b [] ∧ w.heap.size ≤ p ∧ w.heap.size ≤ b ∧ Below w.heap.size w w' := by
  have hmm := @run_makeMap Try.prog
  go_enter Try.func19, Try.ntmps19
  go_wp2
  go_ret2
  refine ⟨w.heap.size + 1, w.heap.size, rfl, ⟨by go_cell, by go_cell, by go_cell, ?_, ?_, h1, h2, by omega, by omega, ?_⟩, by omega, by omega, by go_grown⟩
  · exact World.frozen?_alloc_at _ _ _ _ (by simp)
  · exact (IM.Is.made w).of_block (Below.heap_alloc _ _ _ (by simp))
  · intro k; simp [spotOf]
def eraS : List (Int × Spot) → Int → List (Int × Spot)
  | [], _ => []
  | (a, x) :: L, k => if a = k then L else (a, x) :: eraS L k
theorem era_ents : ∀ (L : List (Int × Spot)) (k : Int), IM.eraL (ents L) k = ents (eraS L k)
  | [], k => rfl
  | (a, x) :: L, k => by
    have ih := era_ents L k
    simp only [ents, List.map_cons, IM.eraL, eraS] at ih ⊢
    by_cases h : a = k <;> simp [h]
    exact ih
theorem spot_era_b : ∀ (L : List (Int × Spot)) (k j : Int) (now : Int), 0 ≤ now → (∀ j, (spotOf L j).1 < 18446744073709551616 ∧ 0 ≤ (spotOf L j).2 ∧ (spotOf L j).2 ≤ now) → (L.map (·.1)).Nodup → spotOf (eraS L k) j = if k = j then (0, 0) else spotOf L j
  | [], k, j, now, _, _, _ => by simp [eraS, spotOf]
  | (a, x) :: L, k, j, now, hn, hs, hd => by
    have hd' : a ∉ L.map (·.1) ∧ (L.map (·.1)).Nodup := by simpa using hd
    have hsp : ∀ (M : List (Int × Spot)) (j : Int), j ∉ M.map (·.1) → spotOf M j = (0, 0) := by
      intro M j
      induction M with
      | nil => intro _; rfl
      | cons q M ih =>
        obtain ⟨c, y⟩ := q
        intro hq
        simp only [List.map_cons, List.mem_cons, not_or] at hq
        simp only [spotOf]
        rw [if_neg (by omega)]
        exact ih hq.2
    unfold eraS
    by_cases h : a = k
    · rw [if_pos h]
      by_cases hj : k = j
      · rw [if_pos hj]; exact hsp L j (by rw [← hj, ← h]; exact hd'.1)
      · rw [if_neg hj]; simp only [spotOf]; rw [if_neg (by omega)]
    · rw [if_neg h]; simp only [spotOf]
      by_cases hj : a = j
      · have : ¬ k = j := by omega
        simp [hj, this]
      · rw [if_neg hj, if_neg hj]
        refine spot_era_b L k j now hn (fun i => ?_) hd'.2
        by_cases hi : i ∈ L.map (·.1)
        · have := hs i
          simp only [spotOf] at this
          rw [if_neg (by intro e; subst e; exact hd'.1 hi)] at this
          exact this
        · rw [hsp L i hi]; simp; exact hn
/-! Coldest. -/
def stepC (f : Int → Nat) (st : Int × Nat) (k : Int) : Int × Nat := if FP.ltB (f k) st.2 || (!FP.ltB st.2 (f k) && decide (k < st.1)) then (k, f k) else st
def coldF (f : Int → Nat) : List Int → Int × Nat
  | [] => (0, 0)
  | k :: l => l.foldl (stepC f) (k, f k)
theorem coldF_snoc (f : Int → Nat) (l : List Int) (i : Nat) (hi : i < l.length) (h0 : 0 < i) : coldF f (l.take (i + 1)) = stepC f (coldF f (l.take i)) (l.getD i 0) := by
  rw [FP.take_getD l i 0 hi]
  cases l with
  | nil => simp at hi
  | cons a r =>
    obtain ⟨m, rfl⟩ : ∃ m, i = m + 1 := ⟨i - 1, by omega⟩
    simp [coldF, List.foldl_append]
theorem coldest_gen (f : Int → Nat) (hf : ∀ k, f k < 18446744073709551616) (v : Value) (w : World) (b off cap : Nat) (ks : List Int) (hne : 0 < ks.length) (hb : b < w.heap.size) (hcap : ks.length ≤ cap) (hmax : cap ≤ maxLen) (hc : ∀ i, i < ks.length → w.cell? ⟨b, off + i, none⟩ = some (.int .i64 (ks.getD i 0)))
    (hof : ∀ k w1, Below w.heap.size w w1 → Calls Try.prog 12 #[v, .int .i64 k] w1 fun e w' => e = .returned (.float .f64 (f k)) ∧ Below w1.heap.size w1 w') :
    Calls Try.prog 11 #[v, .slice (some ⟨b, off, none⟩) ks.length cap] w fun e w' => e = .returned (.tuple #[.int .i64 (coldF f ks).1, .bool true]) ∧ Below w.heap.size w w' := by
  unfold maxLen at hmax
  have HC := Lib.hid hc; clear hc
  have HO := Lib.hid hof; clear hof
  have HF := Lib.hid hf; clear hf
  go_enter Try.func11, Try.ntmps11
  go_wp2
  go_loopw [6, 7, 13] (fun bst ht i wr => ∃ j : Nat, ∃ bb : Int, ∃ hh : Nat, j ≤ ks.length ∧ i = .int .i64 j ∧ bst = .int .i64 bb ∧ ht = .float .f64 hh ∧ Hid (coldF f (ks.take j) = (bb, hh) ∧ hh < 18446744073709551616) ∧ Below w.heap.size w wr) (fun _ _ i _ => ks.length - (intOf i).toNat)
  case atStart => exact ⟨0, 0, 0, Nat.zero_le _, rfl, rfl, rfl, ⟨rfl, by omega⟩, Below.refl _ _⟩
  case round =>
    obtain ⟨j, bb, hh, hj, rfl, rfl, rfl, HR, hB⟩ := hrel
    by_cases hlt : j < ks.length
    · have hcx : wr.cell? ⟨b, off + j, none⟩ = some (.int .i64 (ks.getD j 0)) := by rw [hB.cell (p := ⟨b, off + j, none⟩) hb]; exact HC.out j hlt
      have Hh := Lib.hid HR.out.2
      by_cases h0 : j = 0
      · have Hs : Hid (coldF f (ks.take (j + 1)) = (ks.getD j 0, f (ks.getD j 0))) := by
          subst h0
          cases ks with
          | nil => simp at hlt
          | cons a r => simp [Hid, coldF, List.getD]
        generalize ks.getD j 0 = k at hcx Hs
        have HO' := Lib.hid (HO.out k wr hB)
        have Hx := Lib.hid (HF.out k)
        have hz : ((j : Int) == 0) = true := by rw [beq_iff_eq]; omega
        clear h0
        generalize f k = x at HO' Hx Hs
        go_wp2_with (go_at_call 12; refine HO'.out.mono ?_; rintro e w2 ⟨rfl, hB2⟩)
        have hB3 := below_chain hB hB2
        go_roundw
        case rel => exact ⟨j + 1, _, _, by omega, by go_num, rfl, rfl, ⟨Hs.out, Hx.out⟩, hB3⟩
        case measure => simp [intOf]; omega
      · have Hs := Lib.hid (coldF_snoc f ks j hlt (by omega))
        rw [HR.out.1] at Hs
        have hz : ((j : Int) == 0) = false := by rw [beq_eq_false_iff_ne]; omega
        generalize ks.getD j 0 = k at hcx Hs
        have HO' := Lib.hid (HO.out k wr hB)
        have Hx := Lib.hid (HF.out k)
        clear h0
        have Hs2 : Hid (coldF f (ks.take (j + 1)) = if FP.ltB (f k) hh || (!FP.ltB hh (f k) && decide (k < bb)) then (k, f k) else (bb, hh)) := Hs.out
        clear Hs
        generalize f k = x at HO' Hx Hs2
        go_wp2_with (first | (go_at_call 12; refine HO'.out.mono ?_; rintro e w2 ⟨rfl, hB2⟩) | (go_at_call 27; refine (less_any _ _ _ (by first | exact Hid.out (by assumption) | omega) (by first | exact Hid.out (by assumption) | omega)).mono ?_; rintro e w' ⟨rfl, rfl⟩))
        all_goals
          have hB3 := below_chain hB hB2
          go_roundw
          case rel => exact ⟨j + 1, _, _, by omega, by go_num, rfl, rfl, ⟨by rw [Hs2.out]; first | (simp [*]; done) | (simp [*]; intro h; omega), by first | exact Hx.out | exact Hh.out⟩, hB3⟩
          case measure => simp [intOf]; omega
    · have hkl : j = ks.length := by omega
      have ht : ks.take j = ks := List.take_of_length_le (by omega)
      have Hr := HR.out
      rw [ht] at Hr
      have Hr1 := Lib.hid (show (coldF f ks).1 = bb by rw [Hr.1])
      have hp : (0 : Int) < ks.length := by omega
      clear Hr ht
      go_wp2
      go_ret2
      exact ⟨by rw [Hr1.out]; rfl, hB⟩
theorem coldest_none (v : Value) (w : World) (a : Option Addr) (cap : Nat) : Calls Try.prog 11 #[v, .slice a 0 cap] w fun e w' => e = .returned (.tuple #[.int .i64 0, .bool false]) ∧ w = w' := by
  go_enter Try.func11, Try.ntmps11
  go_wp2
  refine wp_loop_rounds 1 ?_
  rw [rounds_succ]
  go_wp2
  go_ret2
  exact ⟨rfl, rfl⟩
end Go.Proofs.Ytfkbdijgdhddaaa
