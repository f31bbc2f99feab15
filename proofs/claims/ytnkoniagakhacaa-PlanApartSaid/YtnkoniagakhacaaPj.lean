/- Contracts of the reference's Level, First, Parent. -/
import Derived.Test.YtnkoniagakhacaaPh
namespace Go.Proofs.Ytnkoniagakhacaa
open Go.RowKit Go.Deep
set_option maxRecDepth 100000
def pre (P : Int) (k : Nat) : Int := lsum ((allL P).take k)
def fanAt (k : Nat) : Int := if k = 0 then 16 else 8
theorem pre_succ (P : Int) {k : Nat} (h : k < (allL P).length) : pre P (k + 1) = pre P k + (allL P).getD k 0 := by
  unfold pre; rw [take_snocI h, lsum_app]; simp [lsum]
theorem all_le {P : Int} (h : 1 ≤ P) : ∀ k, k < (allL P).length → 1 ≤ (allL P).getD k 0 ∧ (allL P).getD k 0 ≤ P := fun k hk =>
  good_le (good_all h) _ (by rw [List.getD_eq_getElem?_getD, List.getElem?_eq_getElem hk]; exact List.getElem_mem hk)
theorem pre_bnd {P : Int} (h : 1 ≤ P) (h2 : P ≤ 4096) : ∀ k, k ≤ 5 → k ≤ (allL P).length → 0 ≤ pre P k ∧ pre P k ≤ 4096 * k := by
  intro k
  induction k with
  | zero => intro _ _; simp [pre, lsum]
  | succ k ih =>
    intro h5 hk
    have := ih (by omega) (by omega)
    have := all_le h k (by omega)
    rw [pre_succ P (by omega)]
    omega
/-- What Level tells. -/
def LvAt (P blk i o : Int) : Prop :=
  (i = -1 ∧ o = 0 ∧ parent P blk = (0, 0, 1)) ∨ ∃ k : Nat, i = k ∧ k < (allL P).length ∧ 0 ≤ o ∧ o < (allL P).getD k 0 ∧ parent P blk = (if k + 1 = (allL P).length then (0, 0, 5) else (pre P (k + 1) + o / fanAt k, o % fanAt k, 0))
theorem lv_hit {P blk : Int} {k : Nat} (h : k < (allL P).length) (h0 : 0 ≤ blk) (h1 : pre P k ≤ blk) (h2 : blk - pre P k < (allL P).getD k 0) (hp : par 16 0 blk (allL P) = par (fanAt k) (pre P k) blk ((allL P).drop k)) : LvAt P blk k (blk - pre P k) := by
  refine Or.inr ⟨k, rfl, h, by omega, h2, ?_⟩
  unfold parent
  rw [if_neg (by omega), hp, drop_cons h]
  by_cases hk : k + 1 = (allL P).length
  · rw [if_pos hk, List.drop_eq_nil_iff.2 (by omega), par_top h2]
  · rw [if_neg hk, par_hit h2 (by intro e; have := List.drop_eq_nil_iff.1 e; omega), ← pre_succ P h]
theorem lv_end {P blk : Int} (h0 : 0 ≤ blk) (hp : par 16 0 blk (allL P) = par (fanAt (allL P).length) (pre P (allL P).length) blk ((allL P).drop (allL P).length)) : LvAt P blk (-1) 0 := by
  refine Or.inl ⟨rfl, rfl, ?_⟩
  unfold parent
  rw [if_neg (by omega), hp, List.drop_eq_nil_iff.2 (Nat.le_refl _)]
  rfl
set_option maxHeartbeats 1000000 in
theorem level_any (w : World) (P B blk : Int) (hP : 1 ≤ P ∧ P ≤ 4096) (hk : -9223372036854775808 ≤ blk ∧ blk ≤ 9223372036854775807) (a : Option Addr) (cap : Nat) (hI : IsI w a (levs (cnt P)).length cap (levs (cnt P))) :
    Calls Try.prog 25 #[planV P B (.slice a (levs (cnt P)).length cap), .int .i64 blk] w fun e w' => ∃ i o, e = .returned (.tuple #[.int .i64 i, .int .i64 o]) ∧ Hid (LvAt P blk i o) ∧ Below w.heap.size w w' := by
  have hc : 1 ≤ cnt P ∧ cnt P ≤ 256 := by unfold cnt; omega
  have hs := levs_short (cnt P) hc.2
  have hne := List.length_pos_iff.2 (levs_ne (cnt P))
  obtain ⟨x, hax⟩ : ∃ x, a = some x := by
    rcases hI.at_ with e | ⟨b, off, rfl, -⟩
    · exact absurd e (levs_ne _)
    · exact ⟨_, rfl⟩
  subst hax
  have HLE := Lib.hid (all_le hP.1)
  have HPB := Lib.hid (pre_bnd hP.1 hP.2)
  obtain ⟨i0, hi, hz0, hz1, hz2⟩ := info_parts infoIntP
  have Hnb := Lib.hid fun (w' : World) (hb : Below w.heap.size w w') => hI.news rfl hb
  have Hone := Lib.hid (ints_one (levs (cnt P)))
  have Hlen : Hid ((ints (levs (cnt P))).length = (levs (cnt P)).length * 1) := by simp [Hid, ints]
  have hc3 : 2 + (levs (cnt P)).length ≤ maxLen := by unfold maxLen; omega
  have hc4 : (2 + (levs (cnt P)).length) * 8 ≤ 140737488355328 := by omega
  have Hbel : Hid (∀ o1 o2, Below w.heap.size w ((w.alloc o1).alloc o2)) := fun o1 o2 => ((Below.refl _ w).alloc (Nat.le_refl _) o1).alloc (by simp) o2
  have hal : (allL P).length = (levs (cnt P)).length + 2 := rfl
  clear hI hne
  go_enter Try.func25, Try.ntmps25
  go_wp2_with (at_builtin; first
    | (refine wpList_append_own _ rfl _ _ 22 rfl (w.heap.size + 1) 3 i0 (.int .i64 0) 1 8 Try.underlying22 hi hz0 hz1 hz2 rfl (by decide) (.slice none 0 0) 0 [] rfl (World.ownsRow_nil _ _ _ _) ⟨_, 0, none⟩ 2 2 [.int .i64 P, .int .i64 (cnt P)] rfl rfl (World.news_of_block (cs := #[.int .i64 P, .int .i64 (cnt P)]) (t := 3) (fr := (0, 0)) (heap_alloc_new' _ _ _ (by simp))) (by simp [Value.oneCell']) (by unfold maxLen; omega) (by omega) (by simp) ?_; intro v1 w1 hown1 hgrow1 hnil1; have hB1 : Below w.heap.size w w1 := (Hbel.out _ _).grown hgrow1 (by simp <;> omega) (by intro k hk; cases hk); have k0 : Blk w1 w.heap.size 24 #[.int .i64 P, .int .i64 B, .int .i64 (cnt P), .slice (some x) (levs (cnt P)).length cap, .int .i64 (nod P), .int .i64 (hd P), .int .i64 (hds B), .int .i64 (hd P + hds B), .int .i64 (hd P + hds B + B), .int .i64 (hd P + hds B + B + B)] := Blk.grown (Blk.alloc (heap_alloc_new w _) _) hgrow1 (by intro h; cases h); have p3 := k0.cell 3; simp only [List.getElem?_toArray, List.getElem?_cons_succ, List.getElem?_cons_zero] at p3; have l0 := k0.lt; clear hgrow1 hnil1; obtain ⟨g0, c0, rfl, hg0⟩ := own_some hown1 (by omega))
    | (refine wpList_append_own _ rfl _ _ 22 rfl (w.heap.size + 1) 3 i0 (.int .i64 0) 1 8 Try.underlying22 hi hz0 hz1 hz2 rfl (by decide) _ _ _ rfl hown1 x (levs (cnt P)).length cap (ints (levs (cnt P))) rfl Hlen.out (Hnb.out _ hB1) Hone.out hc3 hc4 (by omega) ?_; intro v2 w2 hown2 hgrow2 hnil2; obtain ⟨g, cap3, rfl, hg1, hg2, hg3, hg4, hg5⟩ := own_cellsI hown2 (by omega)))
  have hB2 : Below w.heap.size w w2 := hB1.grown hgrow2 (by have := hB1.size; omega) (by intro k hk; have e : g0 = k := (by injection hk); omega)
  have HC : Hid (∀ i, i < (allL P).length → w2.cell? ⟨g, i, none⟩ = some (.int .i64 ((allL P).getD i 0))) := fun i hi => hg5 i _ (by
    have : ([] ++ [Value.int .i64 P, .int .i64 (cnt P)]) ++ ints (levs (cnt P)) = ints (allL P) := rfl
    rw [this]; simp [ints, List.getD, hi])
  have hlen : 2 + (levs (cnt P)).length = (allL P).length := by omega
  clear hgrow2 hnil2 hown2 hg5 Hone Hlen Hnb hi hz0 hz1 hz2 hc3 hc4 hown1 k0 p3
  have hg2' : (allL P).length ≤ cap3 := by omega
  clear hg2
  have hlen' : 2 + ((levs (cnt P)).length : Int) = ((allL P).length : Int) := by omega
  simp only [hlen]
  have hl5 : (allL P).length ≤ 5 := by omega
  clear hlen hlen' hal
  by_cases h0 : blk < 0
  · have hlv : LvAt P blk (-1) 0 := Or.inl ⟨rfl, rfl, if_pos h0⟩
    have HLV := Lib.hid hlv; clear hlv HC HLE HPB
    refine wp_loop_rounds 1 ?_
    rw [rounds_succ]
    go_wp2
    all_goals
      go_ret2
      exact ⟨-1, 0, rfl, HLV.out, hB2⟩
  · go_loop [6, 8] (fun u t => ∃ i : Nat, u = .int .i64 (blk - pre P i) ∧ t = .int .i64 i ∧ i ≤ (allL P).length ∧ pre P i ≤ blk ∧ Hid (par 16 0 blk (allL P) = par (fanAt i) (pre P i) blk ((allL P).drop i))) (fun _ t => (allL P).length - (intOf t).toNat)
    case atStart => exact ⟨0, by simp [pre, lsum], rfl, Nat.zero_le _, by simp [pre, lsum]; omega, rfl⟩
    case round =>
      obtain ⟨i, rfl, rfl, i1, b1, HP⟩ := hrel
      have hi0 : (0 : Int) ≤ (i : Int) := Int.natCast_nonneg _
      have hpb := HPB.out i (by omega) i1
      by_cases hlt : i < (allL P).length
      · have hi1 : (i : Int) < ((allL P).length : Int) := by omega
        have hcell := HC.out i hlt
        have hb := HLE.out i hlt
        have hps := pre_succ P hlt
        have HH : Hid (blk - pre P i < (allL P).getD i 0 → LvAt P blk i (blk - pre P i)) := fun h => lv_hit hlt (by omega) b1 h HP.out
        have HM : Hid (¬ blk - pre P i < (allL P).getD i 0 → par 16 0 blk (allL P) = par (fanAt (i + 1)) (pre P (i + 1)) blk ((allL P).drop (i + 1))) := fun h => by
          rw [HP.out, drop_cons hlt, par_miss h, hps]; rfl
        generalize (allL P).getD i 0 = n at hcell hb hps HH HM
        have HPS := Lib.hid hps; clear hps HP
        have e0 : 0 ≤ blk - pre P i := by omega
        by_cases hh : blk - pre P i < n
        · have HR := Lib.hid (HH.out hh)
          clear HH HM
          go_wp2
          go_ret2
          exact ⟨_, _, rfl, HR.out, hB2⟩
        · have HR := Lib.hid (HM.out hh)
          clear HH HM
          have e1 : wrap64 (blk - pre P i - n) = blk - pre P i - n := IntWalk.wrap64_in _ (by omega)
          go_wp2
          go_round
          case rel => exact ⟨i + 1, by rw [HPS.out, show blk - (pre P i + n) = blk - pre P i - n by omega], by go_num, by omega, by rw [HPS.out]; omega, HR.out⟩
          case measure => simp only [intOf]; omega
      · obtain rfl : i = (allL P).length := by omega
        have HR := Lib.hid (lv_end (by omega) HP.out)
        go_wp2
        go_ret2
        exact ⟨-1, 0, rfl, HR.out, hB2⟩
theorem all_cell (P : Int) (j : Nat) : (allL P).getD (j + 2) 0 = (levs (cnt P)).getD j 0 := by unfold allL; simp [List.getD]
set_option maxHeartbeats 1000000 in
theorem first_any (w : World) (P B : Int) (hP : 1 ≤ P ∧ P ≤ 4096) (k : Nat) (hk : k + 1 < (allL P).length) (a : Option Addr) (cap : Nat) (hI : IsI w a (levs (cnt P)).length cap (levs (cnt P))) :
    Calls Try.prog 26 #[planV P B (.slice a (levs (cnt P)).length cap), .int .i64 ((k : Int) + 1)] w fun e w' => e = .returned (.int .i64 (pre P (k + 1))) ∧ Below w.heap.size w w' := by
  have hc : 1 ≤ cnt P ∧ cnt P ≤ 256 := by unfold cnt; omega
  have hs := levs_short (cnt P) hc.2
  have hal : (allL P).length = (levs (cnt P)).length + 2 := rfl
  have HPB := Lib.hid (pre_bnd hP.1 hP.2)
  have hcA : Hid (∀ i, i < (levs (cnt P)).length → ∃ b off, a = some ⟨b, off, none⟩ ∧ b < w.heap.size ∧ w.cell? ⟨b, off + i, none⟩ = some (.int .i64 ((levs (cnt P)).getD i 0))) := by
    intro i hi
    rcases hI.at_ with e | ⟨b, off, e, hb, hc⟩
    · rw [e] at hi; simp at hi
    · exact ⟨b, off, e, hb, hc i hi⟩
  have hca := hI.hcap
  have hk0 : (0 : Int) ≤ (k : Int) := Int.natCast_nonneg _
  clear hI
  have p1 : pre P 1 = P := by simp [pre, allL, lsum]
  have p2 : pre P 2 = P + cnt P := by simp [pre, allL, lsum]
  cases k with
  | zero =>
    have HP1 := Lib.hid p1; clear p1 p2
    go_enter Try.func26, Try.ntmps26
    go_wp2
    refine wp_loop_rounds 1 ?_
    rw [rounds_succ]
    go_wp2
    go_ret
    exact ⟨by rw [HP1.out]; rfl, (Below.refl _ _).alloc (Nat.le_refl _) _⟩
  | succ k =>
    have HP2 := Lib.hid p2; clear p1 p2
    go_enter Try.func26, Try.ntmps26
    go_wp2
    go_loop [5, 6] (fun u t => ∃ j : Nat, u = .int .i64 (pre P (j + 2)) ∧ t = .int .i64 ((j : Int) + 2) ∧ j ≤ k) (fun _ t => k + 5 - (intOf t).toNat)
    case atStart => exact ⟨0, by rw [HP2.out], rfl, by omega⟩
    case round =>
      obtain ⟨j, rfl, rfl, j1⟩ := hrel
      have hj0 : (0 : Int) ≤ (j : Int) := Int.natCast_nonneg _
      by_cases hlt : j < k
      · obtain ⟨b, off, rfl, hb, hcell⟩ := hcA.out j (by omega)
        have hps := pre_succ P (k := j + 2) (by omega)
        rw [all_cell P j] at hps
        have hb1 := HPB.out (j + 2) (by omega) (by omega)
        have hb2 := HPB.out (j + 2 + 1) (by omega) (by omega)
        generalize (levs (cnt P)).getD j 0 = n at hcell hps
        have hi1 : (j : Int) < ((levs (cnt P)).length : Int) := by omega
        have e1 : wrap64 ((j : Int) + 2 - 2) = j := by rw [IntWalk.wrap64_in _ (by omega)]; omega
        have e2 : (j : Int) + 2 - 2 = j := by omega
        have e3 : (j : Int) + 2 < (k : Int) + 1 + 1 := by omega
        rw [hps] at hb2
        have HPS := Lib.hid hps; clear hps hcA
        go_wp2
        go_round
        case rel => exact ⟨j + 1, by rw [show j + 1 + 2 = j + 2 + 1 from rfl, HPS.out], by go_num, by omega⟩
        case measure => simp only [intOf]; omega
      · obtain rfl : j = k := by omega
        have e3 : ¬ ((j : Int) + 2 < (j : Int) + 1 + 1) := by omega
        clear hcA
        go_wp2
        go_ret
        exact ⟨rfl, (Below.refl _ _).alloc (Nat.le_refl _) _⟩
theorem first_one (w : World) (P B : Int) (hP : 1 ≤ P ∧ P ≤ 4096) (a : Option Addr) (cap : Nat) (hI : IsI w a (levs (cnt P)).length cap (levs (cnt P))) :
    Calls Try.prog 26 #[planV P B (.slice a (levs (cnt P)).length cap), .int .i64 1] w fun e w' => e = .returned (.int .i64 (pre P 1)) ∧ Below w.heap.size w w' := by
  have := first_any w P B hP 0 (by simp [allL]) a cap hI
  simpa using this
set_option maxHeartbeats 1000000 in
theorem refParent_any (w : World) (P B blk : Int) (hP : 1 ≤ P ∧ P ≤ 4096) (hk : -9223372036854775808 ≤ blk ∧ blk ≤ 9223372036854775807) (a : Option Addr) (cap : Nat) (hI : IsI w a (levs (cnt P)).length cap (levs (cnt P))) :
    Calls Try.prog 16 #[planV P B (.slice a (levs (cnt P)).length cap), .int .i64 blk] w fun e w' => e = .returned (placeV (parent P blk)) ∧ Below w.heap.size w w' := by
  have hal : (allL P).length = (levs (cnt P)).length + 2 := rfl
  have hs := levs_short (cnt P) (by unfold cnt; omega)
  have hl5 : (allL P).length ≤ 5 := by omega
  have HPB := Lib.hid (pre_bnd hP.1 hP.2)
  have HAB := Lib.hid (all_le hP.1)
  have HI := Lib.hid (hI.same (((Below.refl _ w).alloc (Nat.le_refl _) (.cells #[.int .i64 P, .int .i64 B, .int .i64 (cnt P), .slice a (levs (cnt P)).length cap, .int .i64 (nod P), .int .i64 (hd P), .int .i64 (hds B), .int .i64 (hd P + hds B), .int .i64 (hd P + hds B + B), .int .i64 (hd P + hds B + B + B)] 24)).alloc (by simp) (.cells #[.int .i64 0, .int .i64 0] 38)))
  have k0 : Blk ((w.alloc (.cells #[.int .i64 P, .int .i64 B, .int .i64 (cnt P), .slice a (levs (cnt P)).length cap, .int .i64 (nod P), .int .i64 (hd P), .int .i64 (hds B), .int .i64 (hd P + hds B), .int .i64 (hd P + hds B + B), .int .i64 (hd P + hds B + B + B)] 24)).alloc (.cells #[.int .i64 0, .int .i64 0] 38)) w.heap.size 24 #[.int .i64 P, .int .i64 B, .int .i64 (cnt P), .slice a (levs (cnt P)).length cap, .int .i64 (nod P), .int .i64 (hd P), .int .i64 (hds B), .int .i64 (hd P + hds B), .int .i64 (hd P + hds B + B), .int .i64 (hd P + hds B + B + B)] := Blk.alloc (heap_alloc_new w _) _
  have k1 : Blk ((w.alloc (.cells #[.int .i64 P, .int .i64 B, .int .i64 (cnt P), .slice a (levs (cnt P)).length cap, .int .i64 (nod P), .int .i64 (hd P), .int .i64 (hds B), .int .i64 (hd P + hds B), .int .i64 (hd P + hds B + B), .int .i64 (hd P + hds B + B + B)] 24)).alloc (.cells #[.int .i64 0, .int .i64 0] 38)) (w.heap.size + 1) 38 #[.int .i64 0, .int .i64 0] := heap_alloc_new' _ _ _ (by simp)
  have hB0 : Below w.heap.size w ((w.alloc (.cells #[.int .i64 P, .int .i64 B, .int .i64 (cnt P), .slice a (levs (cnt P)).length cap, .int .i64 (nod P), .int .i64 (hd P), .int .i64 (hds B), .int .i64 (hd P + hds B), .int .i64 (hd P + hds B + B), .int .i64 (hd P + hds B + B + B)] 24)).alloc (.cells #[.int .i64 0, .int .i64 0] 38)) := ((Below.refl _ _).alloc (Nat.le_refl _) _).alloc (by simp) _
  have K0 := Lib.hid k0
  have K1 := Lib.hid k1
  clear k0 k1 hI
  go_enter Try.func16, Try.ntmps16
  go_wp2_with fail
  refine (level_any _ P B blk hP hk a cap HI.out).mono ?_
  rintro e w1 ⟨i, o, rfl, HLV, hB1⟩
  have k0 := K0.out.below hB1 K0.out.lt
  have k1 := K1.out.below hB1 K1.out.lt
  have hBw := below_chain hB0 hB1
  have HI1 := Lib.hid (HI.out.same hB1)
  clear HI K0 K1 hB0 hB1
  have lt0 := k0.lt
  have lt1 := k1.lt
  obtain ⟨p0, p1, p2, p3, p4, p5, p6, p7, p8, p9⟩ := k0.ten
  obtain ⟨s0, s1, z0, z1⟩ := k1.two
  rcases HLV.out with ⟨rfl, rfl, hpar⟩ | ⟨k, rfl, hkl, o0, o1, hpar⟩
  · have HP := Lib.hid hpar; clear hpar HLV
    go_wp2
    refine bodyPost_ret (results_cell_tmp rfl _ _ _ _ _ _ rfl (Blk.put2 k1 _ _) rfl rfl (by kernel_rfl)) rfl ?_
    exact ⟨by rw [HP.out]; rfl, (hBw.setCell (by simp) _).setCell (by simp) _⟩
  · have hk0 : (0 : Int) ≤ (k : Int) := Int.natCast_nonneg _
    have hab := HAB.out k hkl
    clear HLV
    by_cases hkt : k + 1 = (allL P).length
    · rw [if_pos hkt] at hpar
      have HP := Lib.hid hpar; clear hpar
      have e1 : ((k : Int) == ((levs (cnt P)).length : Int) + 1) = true := by rw [beq_iff_eq]; omega
      have e2 : ¬ (k : Int) < 0 := by omega
      go_wp2
      refine bodyPost_ret (results_cell_tmp rfl _ _ _ _ _ _ rfl (Blk.put2 k1 _ _) rfl rfl (by kernel_rfl)) rfl ?_
      exact ⟨by rw [HP.out]; rfl, (hBw.setCell (by simp) _).setCell (by simp) _⟩
    · rw [if_neg hkt] at hpar
      have e1 : ((k : Int) == ((levs (cnt P)).length : Int) + 1) = false := by rw [beq_eq_false_iff_ne]; omega
      have e2 : ¬ (k : Int) < 0 := by omega
      have hpb := HPB.out (k + 1) (by omega) (by omega)
      cases k with
      | zero =>
        have d1 : o.tdiv 16 = o / 16 := Int.tdiv_eq_ediv_of_nonneg o0
        have d2 : o.tmod 16 = o % 16 := Int.tmod_eq_emod_of_nonneg o0
        have HP : Hid (parent P blk = (pre P 1 + o / 16, o % 16, 0)) := hpar
        clear hpar
        have hpb1 := HPB.out 1 (by omega) (by omega)
        have d3 : wrap64 (pre P 1 + o / 16) = pre P 1 + o / 16 := IntWalk.wrap64_in _ (by omega)
        have d4 : wrap64 (o / 16) = o / 16 := IntWalk.wrap64_in _ (by omega)
        have d5 : wrap64 (o % 16) = o % 16 := IntWalk.wrap64_in _ (by omega)
        go_wp2_with (go_at_call 26; refine (first_one _ P B hP a cap HI1.out).mono ?_; rintro e w2 ⟨rfl, hB2⟩; have m1 := k1.below hB2 lt1; obtain ⟨t0, t1, y0, y1⟩ := m1.two)
        refine bodyPost_ret (results_cell_tmp rfl _ _ _ _ _ _ rfl (Blk.put2 m1 _ _) rfl rfl (by kernel_rfl)) rfl ?_
        exact ⟨by rw [HP.out]; rfl, ((below_chain hBw hB2).setCell (by simp) _).setCell (by simp) _⟩
      | succ k =>
        have d1 : o.tdiv 8 = o / 8 := Int.tdiv_eq_ediv_of_nonneg o0
        have d2 : o.tmod 8 = o % 8 := Int.tmod_eq_emod_of_nonneg o0
        have HP : Hid (parent P blk = (pre P (k + 1 + 1) + o / 8, o % 8, 0)) := hpar
        clear hpar
        have d3 : wrap64 (pre P (k + 1 + 1) + o / 8) = pre P (k + 1 + 1) + o / 8 := IntWalk.wrap64_in _ (by omega)
        have d4 : wrap64 (o / 8) = o / 8 := IntWalk.wrap64_in _ (by omega)
        have d5 : wrap64 (o % 8) = o % 8 := IntWalk.wrap64_in _ (by omega)
        have e3 : (((k + 1 : Nat) : Int) == 0) = false := by rw [beq_eq_false_iff_ne]; omega
        go_wp2_with (go_at_call 26; refine (first_any _ P B hP (k + 1) (by omega) a cap HI1.out).mono ?_; rintro e w2 ⟨rfl, hB2⟩; have m1 := k1.below hB2 lt1; obtain ⟨t0, t1, y0, y1⟩ := m1.two)
        refine bodyPost_ret (results_cell_tmp rfl _ _ _ _ _ _ rfl (Blk.put2 m1 _ _) rfl rfl (by kernel_rfl)) rfl ?_
        exact ⟨by rw [HP.out]; rfl, ((below_chain hBw hB2).setCell (by simp) _).setCell (by simp) _⟩
end Go.Proofs.Ytnkoniagakhacaa
