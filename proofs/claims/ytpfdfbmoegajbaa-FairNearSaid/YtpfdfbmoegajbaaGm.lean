/- Rows of tasks: lists of those awake; Pick; SameInts. -/
import Derived.Test.YtpfdfbmoegajbaaGl
import Derived.Test.YtpfdfbmoegajbaaPk
namespace Go.Proofs.Ytpfdfbmoegajbaa
open Go.RowKit Go.Deep
set_option maxRecDepth 100000
theorem isI_own {w : World} {base : Nat} {e : TypeId} {v : Value} {L : List Int} (h : w.ownsRow base e 1 v L.length (ints L)) (hb : ∀ n ∈ L, -9223372036854775808 ≤ n ∧ n ≤ 9223372036854775807) : ∃ a cap, v = .slice a L.length cap ∧ IsI w a L.length cap L ∧ (∀ x, a = some x → base ≤ x.block) := by
  obtain ⟨hl, ⟨rfl, h0⟩ | ⟨g, cap, cur, rfl, hg, hh, hnc, hcm, hcs, ht⟩⟩ := h
  · exact ⟨none, 0, by rw [h0], ⟨rfl, by omega, by unfold maxLen; omega, hb, Or.inl (List.length_eq_zero_iff.1 h0)⟩, fun _ h => by cases h⟩
  · refine ⟨_, cap, rfl, ⟨rfl, hnc, hcm, hb, Or.inr ⟨g, 0, rfl, (Array.getElem?_eq_some_iff.1 hh).1, fun i hi => ?_⟩⟩, fun x hx => by cases hx; exact hg⟩
    have h2 : (ints L)[i]? = some (.int .i64 (L.getD i 0)) := by simp [ints, List.getD, hi]
    rw [← ht, List.getElem?_take_of_lt (by omega)] at h2
    simp only [World.cell?, hh, Nat.zero_add]
    simpa using h2
theorem IsI.same {w w' : World} {a : Option Addr} {len cap : Nat} {zs : List Int} (h : IsI w a len cap zs) (hb : Below w.heap.size w w') : IsI w' a len cap zs := by
  refine ⟨h.hlen, h.hcap, h.hmax, h.wf, ?_⟩
  rcases h.at_ with e | ⟨b, off, rfl, hlt, hc⟩
  · exact Or.inl e
  · exact Or.inr ⟨b, off, rfl, Nat.lt_of_lt_of_le hlt hb.size, fun i hi => (hb.cell (p := ⟨b, off + i, none⟩) hlt).trans (hc i hi)⟩
theorem IsI.fr' {w w' : World} {a : Option Addr} {len cap : Nat} {zs : List Int} (h : IsI w a len cap zs) {S : Nat → Prop} (hb : Fr S w w') (ha : ∀ x, a = some x → ¬ S x.block) : IsI w' a len cap zs := by
  refine ⟨h.hlen, h.hcap, h.hmax, h.wf, ?_⟩
  rcases h.at_ with e | ⟨b, off, rfl, hlt, hc⟩
  · exact Or.inl e
  · exact Or.inr ⟨b, off, rfl, Nat.lt_of_lt_of_le hlt hb.size, fun i hi => (hb.cell (p := ⟨b, off + i, none⟩) hlt (ha ⟨b, off, none⟩ rfl)).trans (hc i hi)⟩
theorem isI_nil (w : World) : IsI w none 0 0 [] := ⟨rfl, Nat.le_refl _, by unfold maxLen; omega, fun n hn => by simp at hn, Or.inl rfl⟩
theorem awk_wf {T : List Tk} (h : T.length ≤ 8) : ∀ n ∈ awk T T.length, -9223372036854775808 ≤ n ∧ n ≤ 9223372036854775807 := fun n hn => by
  obtain ⟨i, rfl, hi, -⟩ := awk_mem hn
  omega
theorem awk_lt {T : List Tk} {k : Nat} (hk : k < (awk T T.length).length) : ∃ i : Nat, (awk T T.length).getD k 0 = i ∧ i < T.length := by
  obtain ⟨i, e, hi, -⟩ := awk_mem (T := T) (n := T.length) (x := (awk T T.length).getD k 0) (by rw [List.getD_eq_getElem?_getD, List.getElem?_eq_getElem hk]; exact List.getElem_mem hk)
  exact ⟨i, e, hi⟩
theorem sameInts_any (w : World) (x y : Option Addr) (n m c d : Nat) (A B : List Int) (hA : IsI w x n c A) (hB : IsI w y m d B) (hn : n ≤ 1000000) (hm : m ≤ 1000000) :
    Calls Try.prog 19 #[.slice x n c, .slice y m d] w fun e w' => e = .returned (.bool (decide (A = B))) ∧ ∃ k, w' = w.drewN k := by
  obtain rfl := hA.hlen
  obtain rfl := hB.hlen
  by_cases hl : A.length = B.length
  · have hcA : Hid (∀ i, i < A.length → ∃ b off, x = some ⟨b, off, none⟩ ∧ w.cell? ⟨b, off + i, none⟩ = some (.int .i64 (A.getD i 0))) := by
      intro i hi
      rcases hA.at_ with e | ⟨b, off, e, -, hc⟩
      · rw [e] at hi; simp at hi
      · exact ⟨b, off, e, hc i hi⟩
    have hcB : Hid (∀ i, i < A.length → ∃ b off, y = some ⟨b, off, none⟩ ∧ w.cell? ⟨b, off + i, none⟩ = some (.int .i64 (B.getD i 0))) := by
      intro i hi
      rcases hB.at_ with e | ⟨b, off, e, -, hc⟩
      · rw [e] at hl; simp at hl; rw [hl] at hi; simp at hi
      · exact ⟨b, off, e, hc i (by omega)⟩
    have hca := hA.hcap
    have hcb := hB.hcap
    clear hA hB
    have HL := Lib.hid hl
    rw [← hl] at hm hcb ⊢
    clear hl
    have hlb : ((A.length : Int) == (A.length : Int)) = true := by simp
    go_enter Try.func19, Try.ntmps19
    go_wp2
    go_loopw [5] (fun t wr => ∃ i : Nat, t = .int .i64 i ∧ i ≤ A.length ∧ Hid (A.take i = B.take i) ∧ ∃ k, wr = w.drewN k) (fun t _ => A.length - (intOf t).toNat)
    case atStart => exact ⟨0, rfl, Nat.zero_le _, rfl, 0, rfl⟩
    case round =>
      obtain ⟨i, rfl, i1, HT, k, rfl⟩ := hrel
      have hi0 : (0 : Int) ≤ (i : Int) := Int.natCast_nonneg _
      by_cases hlt : i < A.length
      · have hi1 : (i : Int) < (A.length : Int) := by omega
        obtain ⟨b, off, rfl, c1⟩ := hcA.out i hlt
        obtain ⟨b', off', rfl, c2⟩ := hcB.out i hlt
        have HE : Hid (A.getD i 0 = B.getD i 0 → A.take (i + 1) = B.take (i + 1)) := fun e => by rw [take_snocI hlt, take_snocI (by have := HL.out; omega), HT.out, e]
        have HNE : Hid (¬ A.getD i 0 = B.getD i 0 → ¬ A = B) := fun e e2 => e (by rw [e2])
        clear hcA hcB
        generalize A.getD i 0 = p at c1 HE HNE
        generalize B.getD i 0 = q at c2 HE HNE
        go_wp2
        go_quiet (fail)
        by_cases hpq : p = q
        · have HE' := Lib.hid (HE.out hpq)
          have hb : (p == q) = true := by rw [beq_iff_eq]; exact hpq
          clear HE HNE hpq
          go_wp2
          go_roundw
          case rel => exact ⟨i + 1, by go_num, by omega, HE', k + nq, by simp [World.drewN]⟩
          case measure => simp only [intOf]; omega
        · have HN' := Lib.hid (HNE.out hpq)
          have hb : (p == q) = false := by rw [beq_eq_false_iff_ne]; exact hpq
          clear HE HNE hpq
          go_wp2
          go_ret
          exact ⟨by rw [decide_eq_false HN'.out]; rfl, k + nq, by simp [World.drewN, Nat.add_assoc]⟩
      · have hAB : A = B := by
          have h1 := HT.out
          have h2 := HL.out
          rw [List.take_of_length_le (by omega), List.take_of_length_le (by omega)] at h1
          exact h1
        have HAB := Lib.hid hAB; clear hAB
        clear hcA hcB
        go_wp2
        go_ret
        exact ⟨by rw [decide_eq_true HAB.out]; rfl, _, rfl⟩
  · have hlb : ((A.length : Int) == (B.length : Int)) = false := by rw [beq_eq_false_iff_ne]; omega
    have hne : ¬ A = B := fun e => hl (by rw [e])
    have HNE := Lib.hid hne
    clear hA hB hl hne
    go_enter Try.func19, Try.ntmps19
    go_wp2
    go_ret
    exact ⟨by rw [decide_eq_false HNE.out]; rfl, 0, rfl⟩
theorem awake_is (w : World) (p g cap : Nat) (T : List Tk) (h : RowAt w p g cap T) : Calls Try.prog 17 #[.pointer (some ⟨p, 0, none⟩)] w fun e w' => ∃ a c, e = .returned (.slice a (awk T T.length).length c) ∧ IsI w' a (awk T T.length).length c (awk T T.length) ∧ (∀ x, a = some x → w.heap.size ≤ x.block) ∧ Below w.heap.size w w' := by
  refine (awake_row w p g cap T h).mono ?_
  rintro e w' ⟨v, rfl, hown, hB⟩
  obtain ⟨a, c, rfl, hI, ha⟩ := isI_own hown (awk_wf h.n8)
  exact ⟨a, c, rfl, hI, ha, hB⟩
theorem rawake_is (w : World) (p g cap : Nat) (T : List Tk) (h : RefAt w p g cap T) : Calls Try.prog 22 #[.pointer (some ⟨p, 0, none⟩)] w fun e w' => ∃ a c, e = .returned (.slice a (awk T T.length).length c) ∧ IsI w' a (awk T T.length).length c (awk T T.length) ∧ (∀ x, a = some x → w.heap.size ≤ x.block) ∧ Below w.heap.size w w' := by
  refine (rawake_row w p g cap T h).mono ?_
  rintro e w' ⟨v, rfl, hown, hB⟩
  obtain ⟨a, c, rfl, hI, ha⟩ := isI_own hown (awk_wf h.n8)
  exact ⟨a, c, rfl, hI, ha, hB⟩
/-- What Pick answers. -/
def pickK (T : List Tk) (i : Int) : Int := if awk T T.length = [] then 0 else (awk T T.length).getD (i % ((awk T T.length).length : Int)).toNat 0
theorem IsI.one {w : World} {a : Option Addr} {len cap : Nat} {zs : List Int} (h : IsI w a len cap zs) {k : Nat} (hk : k < zs.length) : ∃ b off, a = some ⟨b, off, none⟩ ∧ b < w.heap.size ∧ w.cell? ⟨b, off + k, none⟩ = some (.int .i64 (zs.getD k 0)) := by
  rcases h.at_ with e | ⟨b, off, e, hb, hc⟩
  · rw [e] at hk; simp at hk
  · exact ⟨b, off, e, hb, hc k hk⟩
set_option maxHeartbeats 1000000 in
theorem fpick_row (w : World) (p g cap : Nat) (T : List Tk) (h : RowAt w p g cap T) (i : Int) (hi : -9223372036854775808 ≤ i ∧ i ≤ 9223372036854775807) :
    Calls Try.prog 18 #[.pointer (some ⟨p, 0, none⟩), .int .i64 i] w fun e w' => e = .returned (.tuple #[.int .i64 (pickK T i), .bool (nextOk T)]) ∧ Below w.heap.size w w' := by
  have HAW := Lib.hid (awake_is w p g cap T h)
  have hal := awk_le T T.length
  have h8 := h.n8
  have EK : Hid (pickK T i = if awk T T.length = [] then 0 else (awk T T.length).getD (i % ((awk T T.length).length : Int)).toNat 0) := rfl
  have EO : Hid (nextOk T = decide (awk T T.length ≠ [])) := rfl
  generalize pickK T i = pk at EK ⊢
  generalize nextOk T = ok at EO ⊢
  generalize awk T T.length = A at HAW hal EK EO
  clear h
  by_cases hne : A = []
  · subst hne
    have e1 : pk = 0 := EK.out
    have e2 : ok = false := EO.out
    subst e1; subst e2
    go_enter Try.func18, Try.ntmps18
    go_wp2_with (go_at_call 17; refine HAW.out.mono ?_; rintro e w2 ⟨a, c, rfl, hI, ha, hB⟩; have HB := Lib.hid hB; clear hI ha hB)
    go_ret2
    exact ⟨rfl, HB.out⟩
  · have hap : 0 < A.length := by
      cases A with
      | nil => exact absurd rfl hne
      | cons _ _ => simp
    have e2 : ok = true := by rw [EO.out]; simp [hne]
    subst e2
    have e1 : pk = A.getD (i % (A.length : Int)).toNat 0 := by rw [EK.out, if_neg hne]
    have hz : ((A.length : Int) == 0) = false := by rw [beq_eq_false_iff_ne]; omega
    have hz2 : ¬ (A.length : Int) = 0 := by omega
    obtain ⟨j, hj⟩ : ∃ j : Nat, i % (A.length : Int) = j := ⟨(i % (A.length : Int)).toNat, by have := Int.emod_nonneg i hz2; omega⟩
    have hjl : j < A.length := by have := Int.emod_lt_of_pos i (show (0 : Int) < A.length by omega); omega
    rw [hj, Int.toNat_natCast] at e1
    have hj0 : (0 : Int) ≤ (j : Int) := Int.natCast_nonneg _
    have hj1 : (j : Int) < (A.length : Int) := by omega
    obtain ⟨v, hv⟩ : ∃ v, A.getD j 0 = v := ⟨_, rfl⟩
    rw [hv] at e1
    subst e1
    have HV := Lib.hid hv
    clear EK EO hne hv
    by_cases hs : i.tmod (A.length : Int) < 0
    · have htm := tmod_two i (A.length : Int) (by omega)
      rw [hj] at htm
      obtain ⟨m, hm⟩ : ∃ m, i.tmod (A.length : Int) = m := ⟨_, rfl⟩
      rw [hm] at hs htm
      have hmn : m + (A.length : Int) = (j : Int) := by omega
      have hw : wrap64 (j : Int) = (j : Int) := IntWalk.wrap64_in _ (by omega)
      have hw2 : IntKind.i64.wrap (j : Int) = (j : Int) := IntWalk.i64_in _ (by omega)
      clear hj htm
      go_enter Try.func18, Try.ntmps18
      go_wp2_with (go_at_call 17; refine HAW.out.mono ?_; rintro e w2 ⟨a, c, rfl, hI, ha, hB⟩; have HB := Lib.hid hB; have hc1 := hI.hcap; have hc2 := hI.hmax; unfold maxLen at hc2; obtain ⟨b, off, rfl, hbl, hcell⟩ := hI.one hjl; rw [HV.out] at hcell; clear hI ha hB)
      go_ret2
      exact ⟨rfl, HB.out⟩
    · have hw := pick_zero (x := i) (n := (A.length : Int)) (by omega) (by omega)
      rw [hj] at hw
      clear hj hs
      go_enter Try.func18, Try.ntmps18
      go_wp2_with (go_at_call 17; refine HAW.out.mono ?_; rintro e w2 ⟨a, c, rfl, hI, ha, hB⟩; have HB := Lib.hid hB; have hc1 := hI.hcap; have hc2 := hI.hmax; unfold maxLen at hc2; obtain ⟨b, off, rfl, hbl, hcell⟩ := hI.one hjl; rw [HV.out] at hcell; clear hI ha hB)
      go_ret2
      exact ⟨rfl, HB.out⟩
end Go.Proofs.Ytpfdfbmoegajbaa
