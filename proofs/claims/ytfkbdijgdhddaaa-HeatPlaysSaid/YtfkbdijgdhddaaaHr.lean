/- Contracts of the reference's heats. -/
import Derived.Test.YtfkbdijgdhddaaaHd
namespace Go.Proofs.Ytfkbdijgdhddaaa
open Go.RowKit Go.Deep
set_option maxRecDepth 100000
abbrev Ent := Int × Nat × Int
def flat : List Ent → List Value
  | [] => []
  | s :: R => .int .i64 s.1 :: .float .f64 s.2.1 :: .int .i64 s.2.2 :: flat R
theorem flat_length : ∀ R : List Ent, (flat R).length = R.length * 3
  | [] => rfl
  | s :: R => by simp [flat, flat_length R]; omega
theorem flat_append : ∀ (R S : List Ent), flat (R ++ S) = flat R ++ flat S
  | [], S => rfl
  | s :: R, S => by simp [flat, flat_append R S]
theorem flat_get : ∀ (R : List Ent) (i : Nat), i < R.length → (flat R)[i * 3]? = some (.int .i64 (R.getD i (0, 0, 0)).1) ∧ (flat R)[i * 3 + 1]? = some (.float .f64 (R.getD i (0, 0, 0)).2.1) ∧ (flat R)[i * 3 + 2]? = some (.int .i64 (R.getD i (0, 0, 0)).2.2)
  | [], i, h => by simp at h
  | s :: R, 0, _ => by simp [flat]
  | s :: R, i + 1, h => by
    have ih := flat_get R i (by simpa using h)
    rw [show (i + 1) * 3 = i * 3 + 3 by omega, show i * 3 + 3 + 1 = (i * 3 + 1) + 3 by omega, show i * 3 + 3 + 2 = (i * 3 + 2) + 3 by omega]
    simpa [flat] using ih
def entOf : List Ent → Int → Option Spot
  | [], _ => none
  | s :: R, k => if s.1 = k then some s.2 else entOf R k
def refVal (half now : Int) (R : List Ent) (k : Int) : Nat := match entOf R k with
  | some s => heatOf half now s
  | none => 0
structure RefAt (w : World) (p : Nat) (half now : Int) (base : Nat) (v : Value) (R : List Ent) : Prop where
  c0 : w.cell? ⟨p, 0, none⟩ = some (.int .i64 half)
  c1 : w.cell? ⟨p, 1, none⟩ = some (.int .i64 now)
  c2 : w.cell? ⟨p, 2, none⟩ = some v
  f1 : w.frozen? ⟨p, 1, none⟩ = false
  f2 : w.frozen? ⟨p, 2, none⟩ = false
  own : w.ownsRow base 61 3 v R.length (flat R)
  ne : v.ownBlock ≠ some p
  h1 : 1 ≤ half
  h2 : half ≤ 1000
  n0 : 0 ≤ now
  n1 : now ≤ 1000000
  len : R.length ≤ now
  sp : ∀ s ∈ R, s.2.1 < 18446744073709551616 ∧ 0 ≤ s.2.2 ∧ s.2.2 ≤ now
theorem own_cells3 {w : World} {base : Nat} {e : TypeId} {v : Value} {n : Nat} {xs : List Value} (h : w.ownsRow base e 3 v n xs) (hn : 0 < n) :
    ∃ g cap, v = .slice (some ⟨g, 0, none⟩) n cap ∧ base ≤ g ∧ n ≤ cap ∧ cap ≤ maxLen ∧ g < w.heap.size ∧ ∀ i u, xs[i]? = some u → w.cell? ⟨g, i, none⟩ = some u := by
  obtain ⟨hl, ⟨-, h0⟩ | ⟨g, cap, cur, rfl, hg, hh, hnc, hcm, hcs, ht⟩⟩ := h
  · omega
  · refine ⟨g, cap, rfl, hg, hnc, hcm, (Array.getElem?_eq_some_iff.1 hh).1, fun i u hi => ?_⟩
    have hlt := (List.getElem?_eq_some_iff.1 hi).1
    rw [← ht, List.getElem?_take_of_lt (by omega)] at hi
    simp only [World.cell?, hh]
    simpa using hi
theorem ent_take_none {R : List Ent} {k : Int} {i : Nat} (hi : i < R.length) (h : entOf (R.take i) k = none) (hk : ¬ (R.getD i (0, 0, 0)).1 = k) : entOf (R.take (i + 1)) k = none := by
  rw [FP.take_getD R i (0, 0, 0) hi]
  have : ∀ (A : List Ent) (s : Ent), entOf A k = none → ¬ s.1 = k → entOf (A ++ [s]) k = none := by
    intro A s
    induction A with
    | nil => intro _ hs; simp [entOf, hs]
    | cons q A ih =>
      intro ha hs
      simp only [List.cons_append, entOf] at ha ⊢
      by_cases hq : q.1 = k
      · simp [hq] at ha
      · rw [if_neg hq] at ha ⊢; exact ih ha hs
  exact this _ _ h hk
theorem ent_hit {R : List Ent} {k : Int} {i : Nat} (hi : i < R.length) (h : entOf (R.take i) k = none) (hk : (R.getD i (0, 0, 0)).1 = k) : entOf R k = some (R.getD i (0, 0, 0)).2 := by
  induction R generalizing i with
  | nil => simp at hi
  | cons q R ih =>
    cases i with
    | zero => simp [List.getD] at hk ⊢; simp [entOf, hk]
    | succ i =>
      simp only [List.take_succ_cons, entOf] at h
      by_cases hq : q.1 = k
      · simp [hq] at h
      · rw [if_neg hq] at h
        simp only [entOf, if_neg hq]
        have := ih (i := i) (by simpa using hi) h (by simpa [List.getD] using hk)
        simpa [List.getD] using this
theorem refOf_at (w : World) (p base : Nat) (half now : Int) (v : Value) (R : List Ent) (h : RefAt w p half now base v R) (k : Int) :
    Calls Try.prog 25 #[.pointer (some ⟨p, 0, none⟩), .int .i64 k] w fun e w' => e = .returned (.float .f64 (refVal half now R k)) ∧ ∃ n, w' = w.drewN n := by
  obtain ⟨c0, c1, c2, -, -, own, -, h1, h2, n0, n1, hlen, hs⟩ := h
  have Hs := Lib.hid hs; clear hs
  by_cases hR : R.length = 0
  · have hR' : R = [] := List.length_eq_zero_iff.1 hR
    subst hR'
    obtain ⟨-, ⟨rfl, -⟩ | ⟨g, cap, cur, rfl, hg, hh, hnc, hcm, hcs, ht⟩⟩ := own
    all_goals
      go_enter Try.func25, Try.ntmps25
      go_wp2
      refine wp_loop_rounds 1 ?_
      rw [rounds_succ]
      go_wp2
      go_ret
      exact ⟨rfl, 0, rfl⟩
  · obtain ⟨g, cap, rfl, hg, hnc, hcm, hgs, hcells⟩ := own_cells3 own (by omega)
    have HC : Hid (∀ i, i < R.length → w.cell? ⟨g, i * 3, none⟩ = some (.int .i64 (R.getD i (0, 0, 0)).1) ∧ w.cell? ⟨g, i * 3 + 1, none⟩ = some (.float .f64 (R.getD i (0, 0, 0)).2.1) ∧ w.cell? ⟨g, i * 3 + 2, none⟩ = some (.int .i64 (R.getD i (0, 0, 0)).2.2)) :=
      fun i hi => ⟨hcells _ _ (flat_get R i hi).1, hcells _ _ (flat_get R i hi).2.1, hcells _ _ (flat_get R i hi).2.2⟩
    clear hcells own
    unfold maxLen at hcm
    go_enter Try.func25, Try.ntmps25
    go_wp2
    go_loop [5] (fun v => ∃ i : Nat, i ≤ R.length ∧ v = .int .i64 i ∧ Hid (entOf (R.take i) k = none)) (fun v => R.length - (intOf v).toNat)
    case atStart => exact ⟨0, Nat.zero_le _, rfl, rfl⟩
    case round =>
      obtain ⟨i, hi, rfl, HE⟩ := hrel
      by_cases hlt : i < R.length
      · obtain ⟨a0, a1, a2⟩ := HC.out i hlt
        have hsp := Hs.out (R.getD i (0, 0, 0)) (by rw [show R.getD i (0, 0, 0) = R[i] by simp [List.getD, hlt]]; exact List.getElem_mem hlt)
        have HH : Hid ((R.getD i (0, 0, 0)).1 = k → entOf R k = some (R.getD i (0, 0, 0)).2) := fun e => ent_hit hlt HE.out e
        have HN : Hid (¬ (R.getD i (0, 0, 0)).1 = k → entOf (R.take (i + 1)) k = none) := fun e => ent_take_none hlt HE.out e
        generalize R.getD i (0, 0, 0) = s at a0 a1 a2 hsp HH HN
        obtain ⟨sk, sx, sa⟩ := s
        obtain ⟨s1, s2, s3⟩ := hsp
        simp only at a0 a1 a2 s1 s2 s3
        have S1 := Lib.hid s1; clear s1
        by_cases hk : sk = k
        · subst hk
          have HV : Hid (refVal half now R sk = rightB (FP.fadeB ((now - sa) / half).toNat sx)) := by
            unfold Hid refVal; rw [HH.out rfl]; rfl
          clear HH HN
          have hi0 : (0 : Int) ≤ (i : Int) := Int.natCast_nonneg _
          have hi1 : (i : Int) < (R.length : Int) := by omega
          go_wp2_with fail
          have e1 : IntKind.i64.wrap (now - sa) = now - sa := IntWalk.i64_in _ (by omega)
          have e2 : wrap64 (now - sa) = now - sa := IntWalk.wrap64_in _ (by omega)
          have e3 : (now - sa).tdiv half = (now - sa) / half := Int.tdiv_eq_ediv_of_nonneg (by omega)
          have e0 : 0 ≤ (now - sa) / half := Int.ediv_nonneg (by omega) (by omega)
          have e6 : (now - sa) / half ≤ now - sa := Int.ediv_le_self _ (by omega)
          have e4 : IntKind.i64.wrap ((now - sa) / half) = (now - sa) / half := IntWalk.i64_in _ (by omega)
          have e5 : wrap64 ((now - sa) / half) = (now - sa) / half := IntWalk.wrap64_in _ (by omega)
          have n2 : ¬ half = 0 := by omega
          have n3 : (half == 0) = false := by rw [beq_eq_false_iff_ne]; exact n2
          go_quiet ((first | (go_at_call 21; exact Calls.quiet_of_same ((refFade_any _ _ S1.out (by omega) _).mono fun _ _ h => ⟨h.1, h.2.symm⟩)) | (go_at_call 20; exact Calls.quiet_of_same ((refRight_any _ _).mono fun _ _ h => ⟨h.1, h.2.symm⟩))))
          go_wp2
          go_ret
          exact ⟨ret_f64 HV.out.symm, _, rfl⟩
        · have hk' : (sk == k) = false := by rw [beq_eq_false_iff_ne]; exact hk
          have HE' := Lib.hid (HN.out hk)
          clear HH HN hk
          go_wp2
          go_round
          case rel => exact ⟨i + 1, by omega, by go_num, HE'.out⟩
          case measure => simp [intOf]; omega
      · have HV : Hid (refVal half now R k = 0) := by
          have := HE.out
          rw [List.take_of_length_le (by omega)] at this
          unfold Hid refVal; rw [this]
        go_wp2
        go_ret
        exact ⟨ret_f64 HV.out.symm, 0, rfl⟩
end Go.Proofs.Ytfkbdijgdhddaaa
