/- HeatNil: for every list of keys and every number the law returns true. -/
import Derived.Test.YtfkbdijgdhddaaaHc
namespace Go.Proofs.Ytfkbdijgdhddaaa.heatNil
open Go.ChangeShapes Go.WideShapes Go.ChangeAt Go.RowKit
set_option maxRecDepth 100000
/-- The least one, as the law finds it. -/
def leastF : List Int → Int
  | [] => 0
  | k :: l => l.foldl (fun m x => if x < m then x else m) k
theorem least_snoc (l : List Int) (i : Nat) (hi : i < l.length) (h0 : 0 < i) : leastF (l.take (i + 1)) = if l.getD i 0 < leastF (l.take i) then l.getD i 0 else leastF (l.take i) := by
  rw [FP.take_getD l i 0 hi]
  cases l with
  | nil => simp at hi
  | cons a r =>
    obtain ⟨m, rfl⟩ : ∃ m, i = m + 1 := ⟨i - 1, by omega⟩
    simp [leastF, List.foldl_append]
theorem cold_fold : ∀ (l : List Int) (m : Int), l.foldl (stepC fun _ => 0) (m, 0) = (l.foldl (fun m x => if x < m then x else m) m, 0)
  | [], m => rfl
  | k :: l, m => by
    have h0 : FP.ltB 0 0 = false := by decide +kernel
    simp only [List.foldl_cons]
    have : stepC (fun _ => 0) (m, 0) k = (if k < m then k else m, 0) := by
      simp only [stepC, h0]
      by_cases h : k < m <;> simp [h]
    rw [this]
    exact cold_fold l _
theorem cold_least (l : List Int) : (coldF (fun _ => 0) l).1 = leastF l := by
  cases l with
  | nil => rfl
  | cons k l => simp only [coldF, leastF]; rw [cold_fold]
theorem walk_none (W : World) (a : Option Addr) (cap : Nat) (by_ : Nat) :
    Calls Try.prog 3 #[.slice a 0 cap, .float .f64 by_] W fun e w' => e = .returned (.bool true) ∧ Below W.heap.size W w' := by
  have o0 : (FloatKind.f64.format.order 0 0 == some Ordering.eq) = true := by decide +kernel
  go_enter Try.func3, Try.ntmps3
  go_wp2_with (first | (go_at_call 9; refine (touch_nil _ _ _).mono ?_; rintro e w' ⟨rfl, rfl⟩) | (go_at_call 10; refine (drop_nil _ _).mono ?_; rintro e w' ⟨rfl, rfl⟩) | (go_at_call 11; refine (coldest_none _ _ _ _).mono ?_; rintro e w' ⟨rfl, rfl⟩))
  refine wp_loop_rounds 1 ?_
  rw [rounds_succ]
  go_wp2_with (first | (go_at_call 12; refine (of_nil _ _).mono ?_; rintro e w' ⟨rfl, rfl⟩) | (go_at_call 13; refine (awake_any _).mono ?_; rintro e w' ⟨rfl, hB⟩))
  go_ret
  exact ⟨rfl, hB⟩
theorem walk_some (W : World) (b off cap : Nat) (ks : List Int) (by_ : Nat) (hne : 0 < ks.length) (hb : b < W.heap.size) (hcap : ks.length ≤ cap) (hmax : cap ≤ maxLen) (hc : ∀ i, i < ks.length → W.cell? ⟨b, off + i, none⟩ = some (.int .i64 (ks.getD i 0))) :
    Calls Try.prog 3 #[.slice (some ⟨b, off, none⟩) ks.length cap, .float .f64 by_] W fun e w' => e = .returned (.bool true) ∧ Below W.heap.size W w' := by
  have o0 : (FloatKind.f64.format.order 0 0 == some Ordering.eq) = true := by decide +kernel
  have Hcold := Lib.hid (coldest_gen (fun _ => 0) (fun _ => by omega) (.pointer none) W b off cap ks hne hb hcap hmax hc (fun k w1 _ => (of_nil k w1).mono fun _ _ ⟨h1, h2⟩ => ⟨h1, h2 ▸ Below.refl _ _⟩))
  rw [cold_least] at Hcold
  have HC := Lib.hid hc; clear hc
  unfold maxLen at hmax
  go_enter Try.func3, Try.ntmps3
  go_wp2_with (first | (go_at_call 9; refine (touch_nil _ _ _).mono ?_; rintro e w' ⟨rfl, rfl⟩) | (go_at_call 10; refine (drop_nil _ _).mono ?_; rintro e w' ⟨rfl, rfl⟩) | (go_at_call 11; refine Hcold.out.mono ?_; rintro e w1 ⟨rfl, hB1⟩))
  generalize hlk : leastF ks = q
  have Hlk := Lib.hid hlk; clear hlk
  have HC1 : Hid (∀ i, i < ks.length → w1.cell? ⟨b, off + i, none⟩ = some (.int .i64 (ks.getD i 0))) := fun i hi => (hB1.cell (p := ⟨b, off + i, none⟩) hb).trans (HC.out i hi)
  go_loop [8, 9] (fun m i => ∃ j : Nat, j ≤ ks.length ∧ i = .int .i64 j ∧ m = .int .i64 (leastF (ks.take j))) (fun _ i => ks.length - (intOf i).toNat)
  case atStart => exact ⟨0, Nat.zero_le _, rfl, rfl⟩
  case round =>
    obtain ⟨j, hj, rfl, rfl⟩ := hrel
    by_cases hlt : j < ks.length
    · have hcx := HC1.out j hlt
      by_cases h0 : j = 0
      · have Hs : Hid (leastF (ks.take (j + 1)) = ks.getD j 0) := by
          subst h0
          cases ks with
          | nil => simp at hlt
          | cons a r => simp [Hid, leastF, List.getD]
        have hz : ((j : Int) == 0) = true := by rw [beq_iff_eq]; omega
        clear h0
        generalize ks.getD j 0 = k at hcx Hs
        generalize leastF (ks.take j) = m
        go_wp2
        go_round
        case rel => exact ⟨j + 1, by omega, by go_num, by rw [Hs.out]⟩
        case measure => simp [intOf]; omega
      · have Hs := Lib.hid (least_snoc ks j hlt (by omega))
        have hz : ((j : Int) == 0) = false := by rw [beq_eq_false_iff_ne]; omega
        clear h0
        generalize ks.getD j 0 = k at hcx Hs
        generalize leastF (ks.take j) = m at Hs
        go_wp2
        all_goals
          go_round
          case rel => exact ⟨j + 1, by omega, by go_num, by rw [Hs.out]; first | rw [if_pos (by assumption)] | rw [if_neg (by omega)]⟩
          case measure => simp [intOf]; omega
    · have hkl : ks.take j = ks := List.take_of_length_le (by omega)
      rw [hkl, Hlk.out]
      clear hkl
      have hp : (0 : Int) < ks.length := by omega
      go_wp2_with (first | (go_at_call 12; refine (of_nil _ _).mono ?_; rintro e w' ⟨rfl, rfl⟩) | (go_at_call 13; refine (awake_any _).mono ?_; rintro e w' ⟨rfl, hB⟩))
      go_ret
      exact ⟨rfl, below_chain hB1 hB⟩
theorem walk (W : World) (a : Option Addr) (len cap : Nat) (ks : List Int) (h : IsI W a len cap ks) (r : len * 8 ≤ 140737488351232) (by_ : Nat) (_w1 : by_ < 18446744073709551616) :
    Calls Try.prog 3 #[.slice a len cap, .float .f64 by_] W fun e w' => e = .returned (.bool true) ∧ Below W.heap.size W w' := by
  obtain ⟨h1, h2, h3, h4, h5⟩ := h
  subst h1
  rcases h5 with rfl | ⟨b, off, rfl, hb, hc⟩
  · exact walk_none W a cap by_
  · by_cases h0 : ks = []
    · subst h0; exact walk_none W _ cap by_
    · exact walk_some W b off cap ks by_ (List.length_pos_iff.2 h0) hb h2 h3 hc

/-! The row's step. -/
theorem own : ownKnob Try.prog.godebug = none := by kernel_rfl
theorem laidOut : laidOutB Try.prog = true := by kernel_rfl
set_option linter.unusedVariables false
set_option maxRecDepth 100000 in
theorem lifted (os : Os) (started : os.Started) (H : Type) (enc : TypeId × Value → H) :
    ReturnsInHanded {} Try.checked os 3 .any (Rows.heatNilSpec.pre6 enc Try.prog Try.f3 Rows.heatNilRow.domain false) (Rows.heatNilSpec.post enc Try.prog Try.f3 false true false false) := by
  refine returnsInHanded_of_change_sized (C := Try.checked) own started (by kernel_rfl) Try.func3
    (ChangeSpec.witness6 (enc := enc) (C := Try.checked) false ⟨#[], #[.slice none 0 0, .float .f64 0], []⟩ 8 (by kernel_rfl) (by kernel_rfl) (by kernel_rfl) (by kernel_rfl)) ?_
  intro W base args ds gs before hval0 hW _ hsz0 _
  have hsz : (DataW.weightsEach Try.prog (Try.f3.params.toList ++ Rows.heatNilSpec.plain.varTypes Try.prog) (ds ++ gs)).all (· ≤ reachBytes) = true := hsz0
  clear hsz0
  have hval : ∀ (j : Nat) t v, Try.f3.params[j]? = some t → args[j]? = some v → Value.okWide Try.prog W .any base t v := hval0
  have hW' := hW
  obtain ⟨p, q, hA0, hV, rfl, hfz, hnd⟩ := hW
  have hA : DataW.TrodAll enc Try.prog W 0 (fun _ => true) true Try.f3.params.toList args.toList ds p := hA0
  rw [Try.params3] at hA hval hsz
  obtain ⟨v0, vs0, d0, ds0, p0, q0, hargs, rfl, rfl, h0, r0⟩ := trodAll_cons hA
  obtain ⟨v1, vs1, d1, ds1, p1, q1, rfl, rfl, rfl, h1, r1⟩ := trodAll_cons r0
  obtain ⟨rfl, rfl, rfl⟩ := trodAll_nil r1
  obtain rfl : args = #[v0, v1] := by cases args; simp_all
  obtain ⟨rfl, rfl⟩ := trodVars_none hV
  obtain ⟨a0, len0, cap0, rfl⟩ := okWide_slice Try.underlying22 (hval 0 22 v0 rfl rfl)
  have lt0 : ∀ x ∈ p0, x.block < W.heap.size := by obtain ⟨m, hm⟩ := h0; exact DataW.trod_lt m _ _ _ hm
  obtain ⟨⟨z0, w0⟩, hf0⟩ := open_i Try.underlying22 Try.underlying3 (by kernel_rfl) h0
  have rc0 := reach_slice hsz (j := 0) (e := 3) rfl rfl Try.underlying22 (k := 8) (by kernel_rfl) hf0
  clear hf0
  obtain ⟨a1, rfl, rfl, rfl, w1⟩ := open_float Try.underlying23 (hval 1 23 v1 rfl rfl) h1
  clear hA0 hval0
  refine (walk W a0 len0 cap0 z0 w0 rc0 a1 (float_lt w1)).mono fun e W' ⟨he, bel⟩ => ?_
  subst he
  exact ⟨_, rfl, _, _, _, [], _, [], hW', trodAll_mk1 (shut_bool Try.underlying4 _), (trodAll_cons_mk (Below.trod laidOut (by kernel_rfl) (of_decide_eq_true (by kernel_rfl)) h0 bel lt0) (trodAll_cons_mk (shut_float Try.underlying23 w1) trodAll_mk0)), rfl, bel.frame _, fun h => by cases h⟩

theorem over : Rows.heatNilRow.holds Try.pinned (OpenSpec.ofChange Rows.heatNilSpec) :=
  OpenClaim.holds_of_wide 3 Try.f3 rfl rfl rfl rfl rfl rfl rfl ⟨rfl, rfl, rfl, rfl, rfl⟩ rfl rfl rfl rfl rfl (by kernel_rfl) Try.func3 (by kernel_rfl)
    (of_decide_eq_true (by kernel_rfl)) (by unfold Func.isWrapper; first | (rw [if_pos (by decide +kernel)]; kernel_rfl) | (rw [if_neg (by decide +kernel)]; exact ⟨rfl, rfl⟩))
    (fun os started H enc _ => lifted os started H enc)

/-- THE STATEMENT. -/
theorem proved : Rows.HeatNilSaid := over

#print axioms proved
end Go.Proofs.Ytfkbdijgdhddaaa.heatNil
