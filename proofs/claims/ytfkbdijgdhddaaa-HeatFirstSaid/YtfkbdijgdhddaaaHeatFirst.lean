/- HeatFirst: for every half, every list of acts and every list of keys the law returns true. -/
import Derived.Test.YtfkbdijgdhddaaaHm
namespace Go.Proofs.Ytfkbdijgdhddaaa.heatFirst
open Go.ChangeShapes Go.WideShapes Go.ChangeAt Go.RowKit
set_option maxRecDepth 100000
theorem cold_spec (f : Int → Nat) : ∀ (l : List Int) (st : Int × Nat), st.2 = f st.1 → (l.foldl (stepC f) st).2 = f (l.foldl (stepC f) st).1 ∧ FP.rank (l.foldl (stepC f) st).2 ≤ FP.rank st.2 ∧ (∀ j ∈ l, FP.rank (l.foldl (stepC f) st).2 ≤ FP.rank (f j)) ∧ ((l.foldl (stepC f) st).1 = st.1 ∨ (l.foldl (stepC f) st).1 ∈ l)
  | [], st, h => by simp [h]
  | k :: l, st, h => by
    have hs : (stepC f st k).2 = f (stepC f st k).1 ∧ FP.rank (stepC f st k).2 ≤ FP.rank st.2 ∧ FP.rank (stepC f st k).2 ≤ FP.rank (f k) ∧ ((stepC f st k).1 = st.1 ∨ (stepC f st k).1 = k) := by
      unfold stepC
      cases h1 : FP.ltB (f k) st.2
      · cases h2 : FP.ltB st.2 (f k)
        · have a1 : ¬ FP.rank (f k) < FP.rank st.2 := fun e => by rw [FP.ltB_true e] at h1; cases h1
          have a2 : ¬ FP.rank st.2 < FP.rank (f k) := fun e => by rw [FP.ltB_true e] at h2; cases h2
          by_cases h3 : k < st.1
          · simp [h3]; omega
          · simp [h3, h]; rw [← h]; omega
        · have a2 := FP.ltB_iff.1 h2
          simp [h]; rw [← h]; omega
      · have a1 := FP.ltB_iff.1 h1
        simp; omega
    obtain ⟨g1, g2, g3, g4⟩ := cold_spec f l (stepC f st k) hs.1
    simp only [List.foldl_cons]
    refine ⟨g1, by omega, ?_, ?_⟩
    · intro j hj
      rcases List.mem_cons.1 hj with rfl | hj
      · omega
      · exact g3 j hj
    · rcases g4 with e | e
      · rw [e]
        rcases hs.2.2.2 with e2 | e2
        · exact Or.inl e2
        · rw [e2]; exact Or.inr (by simp)
      · exact Or.inr (List.mem_cons_of_mem _ e)
theorem cold_first (f : Int → Nat) (l : List Int) (h : l ≠ []) : (coldF f l).1 ∈ l ∧ ∀ j ∈ l, FP.ltB (f j) (f (coldF f l).1) = false := by
  cases l with
  | nil => exact absurd rfl h
  | cons k l =>
    obtain ⟨g1, g2, g3, g4⟩ := cold_spec f l (k, f k) rfl
    simp only [coldF]
    refine ⟨?_, fun j hj => FP.ltB_false ?_⟩
    · rcases g4 with e | e
      · rw [e]; simp
      · exact List.mem_cons_of_mem _ e
    · rw [← g1]
      rcases List.mem_cons.1 hj with rfl | hj
      · have : FP.rank (j, f j).2 = FP.rank (f j) := rfl
        omega
      · have := g3 j hj; omega
def hasK (l : List Int) (k : Int) : Bool := l.any fun x => x == k
theorem hasK_snoc (l : List Int) (k : Int) (i : Nat) (h : i < l.length) : hasK (l.take (i + 1)) k = (hasK (l.take i) k || (l.getD i 0 == k)) := by
  rw [FP.take_getD l i 0 h]; simp [hasK]
theorem hasK_mem {l : List Int} {k : Int} (h : k ∈ l) : hasK l k = true := by simp [hasK, h]
theorem getD_memI {l : List Int} {i : Nat} (h : i < l.length) : l.getD i 0 ∈ l := by
  have : l.getD i 0 = l[i] := by simp [List.getD, h]
  rw [this]; exact List.getElem_mem h
theorem walk_big (W : World) (hf : Int) (a c : Option Addr) (len cap len2 cap2 : Nat) (h : 300 < (len2 : Int)) :
    Calls Try.prog 5 #[.int .i64 hf, .slice a len cap, .slice c len2 cap2] W fun e w' => e = .returned (.bool true) ∧ Below W.heap.size W w' := by
  go_enter Try.func5, Try.ntmps5
  go_wp2_with (go_at_call 13; refine (awake_any _).mono ?_; rintro e w' ⟨rfl, hBz⟩)
  go_ret
  exact ⟨rfl, hBz⟩
theorem walk_none (W : World) (hf : Int) (bh : -9223372036854775808 ≤ hf ∧ hf ≤ 9223372036854775807) (a : Option Addr) (len cap : Nat) (zs : List (Int × Int × Nat)) (hI : IsA W a len cap zs) (c : Option Addr) (cap2 : Nat) :
    Calls Try.prog 5 #[.int .i64 hf, .slice a len cap, .slice c 0 cap2] W fun e w' => e = .returned (.bool true) ∧ Below W.heap.size W w' := by
  have HL := Lib.hid (laid_any W hf bh a len cap zs hI)
  clear bh hI
  go_enter Try.func5, Try.ntmps5
  go_wp2_with fail
  refine HL.out.mono ?_
  rintro e w1 ⟨p, q, r, half, now, rfl, hb, _, hB⟩
  clear HL hb
  go_wp2_with (go_at_call 11; refine (coldest_none _ _ _ _).mono ?_; rintro e w' ⟨rfl, rfl⟩)
  refine wp_loop_rounds 1 ?_
  rw [rounds_succ]
  go_wp2_with (go_at_call 13; refine (awake_any _).mono ?_; rintro e w' ⟨rfl, hBz⟩)
  go_ret
  exact ⟨rfl, below_chain hB hBz⟩
set_option maxHeartbeats 1000000 in
theorem walk_some (W : World) (hf : Int) (bh : -9223372036854775808 ≤ hf ∧ hf ≤ 9223372036854775807) (a : Option Addr) (len cap : Nat) (zs : List (Int × Int × Nat)) (hI : IsA W a len cap zs) (b off cap2 : Nat) (ks : List Int) (hne : 0 < ks.length) (hb : b < W.heap.size) (hcap : ks.length ≤ cap2) (hmax : cap2 ≤ maxLen) (hc : ∀ i, i < ks.length → W.cell? ⟨b, off + i, none⟩ = some (.int .i64 (ks.getD i 0))) (hs : (ks.length : Int) ≤ 300) :
    Calls Try.prog 5 #[.int .i64 hf, .slice a len cap, .slice (some ⟨b, off, none⟩) ks.length cap2] W fun e w' => e = .returned (.bool true) ∧ Below W.heap.size W w' := by
  have HL := Lib.hid (laid_any W hf bh a len cap zs hI)
  clear bh hI
  have HC := Lib.hid hc; clear hc
  have Hmax := Lib.hid hmax
  unfold maxLen at hmax
  go_enter Try.func5, Try.ntmps5
  go_wp2_with fail
  refine HL.out.mono ?_
  rintro e w1 ⟨p, q, r, half, now, rfl, hbo, _, hB⟩
  clear HL
  obtain ⟨f, hf1, hf2⟩ := both_of hbo
  clear hbo
  have F1 := Lib.hid hf1; clear hf1
  have F2 := Lib.hid hf2; clear hf2
  have hb1 : b < w1.heap.size := Nat.lt_of_lt_of_le hb hB.size
  have HC1 : Hid (∀ i, i < ks.length → w1.cell? ⟨b, off + i, none⟩ = some (.int .i64 (ks.getD i 0))) := fun i hi => (hB.cell (p := ⟨b, off + i, none⟩) hb).trans (HC.out i hi)
  have HK : Hid ((coldF f ks).1 ∈ ks ∧ ∀ j ∈ ks, FP.ltB (f j) (f (coldF f ks).1) = false) := cold_first f ks (by intro e; rw [e] at hne; simp at hne)
  go_wp2_with fail
  refine (coldest_gen f (fun k => (F1.out k).2) _ w1 b off cap2 ks hne hb1 hcap Hmax.out HC1.out (fun k w2 hB2 => (F2.out w2 hB2 k).1)).mono ?_
  rintro e w2 ⟨rfl, hB2⟩
  generalize (coldF f ks).1 = kk at HK
  have HCk := Lib.hid (F1.out kk).2
  have hBW2 := below_chain hB hB2
  go_wp2_with fail
  go_loopw [11, 12] (fun fv iv wr => ∃ i : Nat, ∃ fb : Bool, iv = .int .i64 i ∧ fv = .bool fb ∧ i ≤ ks.length ∧ Hid (fb = hasK (ks.take i) kk) ∧ Below w1.heap.size w1 wr) (fun _ iv _ => ks.length - (intOf iv).toNat)
  case atStart => exact ⟨0, false, rfl, rfl, by omega, rfl, hB2⟩
  case round =>
    obtain ⟨i, fb, rfl, rfl, i1, HF, hBr⟩ := hrel
    have hBWr := below_chain hB hBr
    by_cases hlt : i < ks.length
    · have hcx := (hBr.cell (p := ⟨b, off + i, none⟩) hb1).trans (HC1.out i hlt)
      have hno := HK.out.2 _ (getD_memI hlt)
      have Hs := Lib.hid (hasK_snoc ks kk i hlt)
      rw [← HF.out] at Hs
      generalize ks.getD i 0 = x at hcx hno Hs
      have HO1 := Lib.hid (F2.out wr hBr x).1
      have HCx := Lib.hid (F1.out x).2
      have hi0 : (0 : Int) ≤ (i : Int) := Int.natCast_nonneg _
      have hi1 : (i : Int) < (ks.length : Int) := by omega
      have HS2 : Hid (∀ w3, Below wr.heap.size wr w3 → Calls Try.prog 12 #[.pointer (some ⟨p, 0, none⟩), .int .i64 kk] w3 fun e w' => e = .returned (.float .f64 (f kk)) ∧ Below w3.heap.size w3 w') := fun w3 h3 => (F2.out w3 (below_chain hBr h3) kk).1
      generalize f x = y at hno HO1 HCx
      generalize f kk = z at hno HS2 HCk
      cases fb with
      | true =>
        go_wp2_with fail
        refine HO1.out.mono ?_
        rintro e w3 ⟨rfl, hB3⟩
        go_wp2_with fail
        refine (HS2.out w3 hB3).mono ?_
        rintro e w4 ⟨rfl, hB4⟩
        go_wp2_with fail
        refine (refLess_any _ _ _ HCx.out HCk.out).mono ?_
        rw [hno]
        rintro e w' ⟨rfl, rfl⟩
        have hB5 := below_chain (below_chain hBr hB3) hB4
        clear hB3 hB4
        go_wp2
        go_roundw
        case rel => exact ⟨i + 1, _, by go_num, rfl, by omega, by rw [Hs.out]; rfl, hB5⟩
        case measure => simp [intOf]; omega
      | false =>
        go_wp2_with fail
        refine HO1.out.mono ?_
        rintro e w3 ⟨rfl, hB3⟩
        go_wp2_with fail
        refine (HS2.out w3 hB3).mono ?_
        rintro e w4 ⟨rfl, hB4⟩
        go_wp2_with fail
        refine (refLess_any _ _ _ HCx.out HCk.out).mono ?_
        rw [hno]
        rintro e w' ⟨rfl, rfl⟩
        have hB5 := below_chain (below_chain hBr hB3) hB4
        clear hB3 hB4
        go_wp2
        go_roundw
        case rel => exact ⟨i + 1, _, by go_num, rfl, by omega, by rw [Hs.out]; rfl, hB5⟩
        case measure => simp [intOf]; omega
    · have hall : ks.take i = ks := List.take_of_length_le (by omega)
      have hft : fb = true := by rw [HF.out, hall]; exact hasK_mem HK.out.1
      subst hft
      clear hall
      go_wp2_with (go_at_call 13; refine (awake_any _).mono ?_; rintro e w' ⟨rfl, hBz⟩)
      go_ret
      exact ⟨rfl, below_chain hBWr hBz⟩
theorem walk (W : World) (hf : Int) (wh : (Lit.int .i64 hf).wf = true) (a : Option Addr) (len cap : Nat) (zs : List (Int × Int × Nat)) (hI : IsA W a len cap zs) (_r : len * 24 ≤ 140737488351232) (c : Option Addr) (len2 cap2 : Nat) (ks : List Int) (hK : IsI W c len2 cap2 ks) (_r2 : len2 * 8 ≤ 140737488351232) :
    Calls Try.prog 5 #[.int .i64 hf, .slice a len cap, .slice c len2 cap2] W fun e w' => e = .returned (.bool true) ∧ Below W.heap.size W w' := by
  by_cases h3 : 300 < (len2 : Int)
  · exact walk_big W hf a c len cap len2 cap2 h3
  · obtain ⟨h1, h2, hm, h4, h5⟩ := hK
    subst h1
    by_cases h0 : ks = []
    · subst h0; exact walk_none W hf (bounds_i64 wh) a len cap zs hI c cap2
    · rcases h5 with e | ⟨b, off, rfl, hb, hc⟩
      · exact absurd e h0
      · exact walk_some W hf (bounds_i64 wh) a len cap zs hI b off cap2 ks (List.length_pos_iff.2 h0) hb h2 hm hc (by omega)

/-! The row's step. -/
theorem own : ownKnob Try.prog.godebug = none := by kernel_rfl
theorem laidOut : laidOutB Try.prog = true := by kernel_rfl
set_option linter.unusedVariables false
set_option maxRecDepth 100000 in
theorem lifted (os : Os) (started : os.Started) (H : Type) (enc : TypeId × Value → H) :
    ReturnsInHanded {} Try.checked os 5 .any (Rows.heatFirstSpec.pre6 enc Try.prog Try.f5 Rows.heatFirstRow.domain false) (Rows.heatFirstSpec.post enc Try.prog Try.f5 false true false false) := by
  refine returnsInHanded_of_change_sized (C := Try.checked) own started (by kernel_rfl) Try.func5
    (ChangeSpec.witness6 (enc := enc) (C := Try.checked) false ⟨#[], #[.int .i64 0, .slice none 0 0, .slice none 0 0], []⟩ 8 (by kernel_rfl) (by kernel_rfl) (by kernel_rfl) (by kernel_rfl)) ?_
  intro W base args ds gs before hval0 hW _ hsz0 _
  have hsz : (DataW.weightsEach Try.prog (Try.f5.params.toList ++ Rows.heatFirstSpec.plain.varTypes Try.prog) (ds ++ gs)).all (· ≤ reachBytes) = true := hsz0
  clear hsz0
  have hval : ∀ (j : Nat) t v, Try.f5.params[j]? = some t → args[j]? = some v → Value.okWide Try.prog W .any base t v := hval0
  have hW' := hW
  obtain ⟨p, q, hA0, hV, rfl, hfz, hnd⟩ := hW
  have hA : DataW.TrodAll enc Try.prog W 0 (fun _ => true) true Try.f5.params.toList args.toList ds p := hA0
  rw [Try.params5] at hA hval hsz
  obtain ⟨v0, vs0, d0, ds0, p0, q0, hargs, rfl, rfl, h0, r0⟩ := trodAll_cons hA
  obtain ⟨v1, vs1, d1, ds1, p1, q1, rfl, rfl, rfl, h1, r1⟩ := trodAll_cons r0
  obtain ⟨v2, vs2, d2, ds2, p2, q2, rfl, rfl, rfl, h2, r2⟩ := trodAll_cons r1
  obtain ⟨rfl, rfl, rfl⟩ := trodAll_nil r2
  obtain rfl : args = #[v0, v1, v2] := by cases args; simp_all
  obtain ⟨rfl, rfl⟩ := trodVars_none hV
  obtain ⟨a0, rfl, rfl, rfl, w0⟩ := open_int Try.underlying3 (hval 0 3 v0 rfl rfl) h0
  obtain ⟨a1, len1, cap1, rfl⟩ := okWide_slice Try.underlying32 (hval 1 32 v1 rfl rfl)
  have lt1 : ∀ x ∈ p1, x.block < W.heap.size := by obtain ⟨m, hm⟩ := h1; exact DataW.trod_lt m _ _ _ hm
  obtain ⟨⟨z1, w1⟩, hf1⟩ := open_a Try.underlying32 Try.underlying39 rfl rfl rfl rfl rfl rfl Try.underlying3 Try.underlying3 Try.underlying23 (by kernel_rfl) (by kernel_rfl) (by kernel_rfl) (by kernel_rfl) h1
  have rc1 := reach_slice hsz (j := 1) (e := 39) rfl rfl Try.underlying32 (k := 24) (by kernel_rfl) hf1
  clear hf1
  obtain ⟨a2, len2, cap2, rfl⟩ := okWide_slice Try.underlying22 (hval 2 22 v2 rfl rfl)
  have lt2 : ∀ x ∈ p2, x.block < W.heap.size := by obtain ⟨m, hm⟩ := h2; exact DataW.trod_lt m _ _ _ hm
  obtain ⟨⟨z2, w2⟩, hf2⟩ := open_i Try.underlying22 Try.underlying3 (by kernel_rfl) h2
  have rc2 := reach_slice hsz (j := 2) (e := 3) rfl rfl Try.underlying22 (k := 8) (by kernel_rfl) hf2
  clear hf2
  clear hA0 hval0
  refine (walk W a0 w0 a1 len1 cap1 z1 w1 rc1 a2 len2 cap2 z2 w2 rc2).mono fun e W' ⟨he, bel⟩ => ?_
  subst he
  exact ⟨_, rfl, _, _, _, [], _, [], hW', trodAll_mk1 (shut_bool Try.underlying4 _), (trodAll_cons_mk (shut_int Try.underlying3 w0) (trodAll_cons_mk (Below.trod laidOut (by kernel_rfl) (of_decide_eq_true (by kernel_rfl)) h1 bel lt1) (trodAll_cons_mk (Below.trod laidOut (by kernel_rfl) (of_decide_eq_true (by kernel_rfl)) h2 bel lt2) trodAll_mk0))), rfl, bel.frame _, fun h => by cases h⟩

theorem over : Rows.heatFirstRow.holds Try.pinned (OpenSpec.ofChange Rows.heatFirstSpec) :=
  OpenClaim.holds_of_wide 5 Try.f5 rfl rfl rfl rfl rfl rfl rfl ⟨rfl, rfl, rfl, rfl, rfl⟩ rfl rfl rfl rfl rfl (by kernel_rfl) Try.func5 (by kernel_rfl)
    (of_decide_eq_true (by kernel_rfl)) (by unfold Func.isWrapper; first | (rw [if_pos (by decide +kernel)]; kernel_rfl) | (rw [if_neg (by decide +kernel)]; exact ⟨rfl, rfl⟩))
    (fun os started H enc _ => lifted os started H enc)

/-- THE STATEMENT. -/
theorem proved : Rows.HeatFirstSaid := over

#print axioms proved
end Go.Proofs.Ytfkbdijgdhddaaa.heatFirst
