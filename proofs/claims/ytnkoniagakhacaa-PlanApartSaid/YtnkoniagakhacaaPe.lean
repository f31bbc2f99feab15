/- Contract of plan.Parent. -/
import Derived.Test.YtnkoniagakhacaaPd
namespace Go.Proofs.Ytnkoniagakhacaa
open Go.RowKit Go.Deep
set_option maxRecDepth 100000
abbrev placeV (x : Int × Int × Int) : Value := .tuple #[.agg #[.int .i64 x.1, .int .i64 x.2.1], .int .i64 x.2.2]
theorem own_cellsI {w : World} {base : Nat} {e : TypeId} {v : Value} {n : Nat} {xs : List Value} (h : w.ownsRow base e 1 v n xs) (hn : 0 < n) :
    ∃ g cap, v = .slice (some ⟨g, 0, none⟩) n cap ∧ base ≤ g ∧ n ≤ cap ∧ cap ≤ maxLen ∧ g < w.heap.size ∧ ∀ i u, xs[i]? = some u → w.cell? ⟨g, i, none⟩ = some u := by
  obtain ⟨hl, ⟨-, h0⟩ | ⟨g, cap, cur, rfl, hg, hh, hnc, hcm, hcs, ht⟩⟩ := h
  · omega
  · refine ⟨g, cap, rfl, hg, hnc, hcm, (Array.getElem?_eq_some_iff.1 hh).1, fun i u hi => ?_⟩
    have hlt := (List.getElem?_eq_some_iff.1 hi).1
    rw [← ht, List.getElem?_take_of_lt (by omega)] at hi
    simp only [World.cell?, hh]
    simpa using hi
theorem IsI.news {w : World} {a : Option Addr} {len cap : Nat} {zs : List Int} (h : IsI w a len cap zs) {x : Addr} (hx : a = some x) {w' : World} (hb : Below w.heap.size w w') : ∀ (j : Nat) u, (ints zs)[j]? = some u → w'.cell? (x.add j) = some u := by
  intro j u hj
  have hlt : j < zs.length := by have := (List.getElem?_eq_some_iff.1 hj).1; simpa [ints] using this
  rcases h.at_ with e | ⟨b, off, hb', hlt2, hc⟩
  · rw [e] at hlt; simp at hlt
  · rw [hx] at hb'
    cases hb'
    rw [add_none, hb.cell (p := ⟨b, off + j, none⟩) hlt2, hc j hlt, ← hj]
    simp [ints, List.getD, hlt]
theorem ints_one (zs : List Int) : ∀ u ∈ ints zs, u.oneCell' = true := by
  intro u hu
  obtain ⟨x, _, rfl⟩ := List.mem_map.1 hu
  rfl
theorem drop_cons {A : List Int} {i : Nat} (h : i < A.length) : A.drop i = A.getD i 0 :: A.drop (i + 1) := by
  rw [List.drop_eq_getElem_cons h]; simp [List.getD, h]
theorem Blk.put2 {w : World} {q : Nat} {t : TypeId} {v0 v1 : Value} (h : Blk w q t #[v0, v1]) (u0 u1 : Value) : Blk ((w.setCell ⟨q, 0, none⟩ u0).setCell ⟨q, 1, none⟩ u1) q t #[u0, u1] :=
  Blk.set' (Blk.set' h 0 u0 #[u0, v1] (by simp)) 1 u1 #[u0, u1] (by simp)
theorem Blk.two {w : World} {q : Nat} {t : TypeId} {v0 v1 : Value} (h : Blk w q t #[v0, v1]) : w.cell? ⟨q, 0, none⟩ = some v0 ∧ w.cell? ⟨q, 1, none⟩ = some v1 ∧ w.frozen? ⟨q, 0, none⟩ = false ∧ w.frozen? ⟨q, 1, none⟩ = false := ⟨h.cell 0, h.cell 1, h.froz 0, h.froz 1⟩
set_option maxHeartbeats 1000000 in
theorem parent_any (w : World) (P B blk : Int) (hP : 1 ≤ P ∧ P ≤ 4096) (hB : 1 ≤ B ∧ B ≤ 256) (hk : -9223372036854775808 ≤ blk ∧ blk ≤ 9223372036854775807) (a : Option Addr) (cap : Nat) (hI : IsI w a (levs (cnt P)).length cap (levs (cnt P))) :
    Calls Try.prog 15 #[planV P B (.slice a (levs (cnt P)).length cap), .int .i64 blk] w fun e w' => e = .returned (placeV (parent P blk)) ∧ Below w.heap.size w w' := by
  by_cases h0 : blk < 0
  · have hp : parent P blk = (0, 0, 1) := if_pos h0
    rw [hp]
    go_enter Try.func15, Try.ntmps15
    go_wp2
    refine bodyPost_ret (results_cell_tmp rfl _ _ _ _ _ _ rfl (heap_alloc_new' _ _ _ (by simp)) rfl rfl (by kernel_rfl)) rfl ?_
    exact ⟨rfl, ((Below.refl _ _).alloc (Nat.le_refl _) _).alloc (by simp) _⟩
  · have hp : parent P blk = par 16 0 blk (allL P) := if_neg h0
    rw [hp]
    clear hp
    have hg := good_all hP.1
    have hn := nod_le hP.1 hP.2
    have hc : 1 ≤ cnt P ∧ cnt P ≤ 256 := by unfold cnt; omega
    have hs := levs_short (cnt P) hc.2
    have hne := List.length_pos_iff.2 (levs_ne (cnt P))
    have hle : ∀ x ∈ allL P, 1 ≤ x ∧ x ≤ P := good_le hg
    have hsum := lsum_all P
    have hhd : 0 ≤ hd P ∧ hd P ≤ 1000000 := by unfold hd; omega
    obtain ⟨x, hax⟩ : ∃ x, a = some x := by
      rcases hI.at_ with e | ⟨b, off, rfl, -⟩
      · exact absurd e (levs_ne _)
      · exact ⟨_, rfl⟩
    subst hax
    obtain ⟨i0, hi, hz0, hz1, hz2⟩ := info_parts infoIntP
    go_enter Try.func15, Try.ntmps15
    have Hnb := Lib.hid fun (w' : World) (hb : Below w.heap.size w w') => hI.news rfl hb
    have Hone := Lib.hid (ints_one (levs (cnt P)))
    have Hlen : Hid ((ints (levs (cnt P))).length = (levs (cnt P)).length * 1) := by simp [Hid, ints]
    have hc3 : 2 + (levs (cnt P)).length ≤ maxLen := by unfold maxLen; omega
    have hc4 : (2 + (levs (cnt P)).length) * 8 ≤ 140737488355328 := by omega
    have Hown : Hid (∀ w' : World, w.heap.size + 2 = w'.heap.size → (w'.alloc (.cells #[.int .i64 P, .int .i64 (cnt P)] 3)).ownsRow (w.heap.size + 2) 3 1 (.slice (some ⟨w.heap.size + 1 + 1, 0, none⟩) 2 2) 2 [.int .i64 P, .int .i64 (cnt P)]) := fun w' e => ⟨rfl, Or.inr ⟨_, 2, #[.int .i64 P, .int .i64 (cnt P)], rfl, Nat.le_refl _, heap_alloc_new' _ _ _ e, Nat.le_refl _, by unfold maxLen; omega, rfl, rfl⟩⟩
    have Hbel : Hid (∀ o1 o2 o3, Below w.heap.size w (((w.alloc o1).alloc o2).alloc o3)) := fun o1 o2 o3 => (((Below.refl _ w).alloc (Nat.le_refl _) o1).alloc (by simp) o2).alloc (by simp; omega) o3
    have HG := Lib.hid hg
    have HLE := Lib.hid hle
    have HSUM := Lib.hid hsum
    clear hI hg hne hle hsum
    go_wp2_with (at_builtin; go_must (refine wpList_append_own _ rfl _ _ 22 rfl (w.heap.size + 2) 3 i0 (.int .i64 0) 1 8 Try.underlying22 hi hz0 hz1 hz2 rfl (by decide) _ _ _ rfl (Hown.out _ (by simp <;> omega)) x (levs (cnt P)).length cap (ints (levs (cnt P))) rfl Hlen.out (Hnb.out _ (Hbel.out _ _ _)) Hone.out hc3 hc4 (by simp <;> omega) ?_); intro v' w2 hown2 hgrow2 hnil2; obtain ⟨g, cap3, rfl, hg1, hg2, hg3, hg4, hg5⟩ := own_cellsI hown2 (by omega))
    have k0 : Blk w2 w.heap.size 24 #[.int .i64 P, .int .i64 B, .int .i64 (cnt P), .slice (some x) (levs (cnt P)).length cap, .int .i64 (nod P), .int .i64 (hd P), .int .i64 (hds B), .int .i64 (hd P + hds B), .int .i64 (hd P + hds B + B), .int .i64 (hd P + hds B + B + B)] :=
      Blk.grown (Blk.alloc (Blk.alloc (heap_alloc_new w _) _) _) hgrow2 (show some w.heap.size ≠ some (w.heap.size + 1 + 1) by simp; omega)
    have k1 : Blk w2 (w.heap.size + 1) 38 #[.int .i64 0, .int .i64 0] :=
      Blk.grown (Blk.alloc (heap_alloc_new' _ _ _ (by simp)) _) hgrow2 (show some (w.heap.size + 1) ≠ some (w.heap.size + 1 + 1) by simp)
    have hB2 : Below w.heap.size w w2 := (Hbel.out _ _ _).grown hgrow2 (by simp <;> omega) (by intro k hk; have e : w.heap.size + 1 + 1 = k := (by injection hk); omega)
    have HC : Hid (∀ i, i < (allL P).length → w2.cell? ⟨g, i, none⟩ = some (.int .i64 ((allL P).getD i 0))) := fun i hi => hg5 i _ (by
      have : [Value.int .i64 P, .int .i64 (cnt P)] ++ ints (levs (cnt P)) = ints (allL P) := rfl
      rw [this]; simp [ints, List.getD, hi])
    have hlen : 2 + (levs (cnt P)).length = (allL P).length := by simp [allL]; omega
    clear hgrow2 hnil2 hown2 hg5 Hown Hone Hlen Hnb hi hz0 hz1 hz2 hc3 hc4
    rw [hlen] at hg2
    have hlen' : 2 + ((levs (cnt P)).length : Int) = ((allL P).length : Int) := by omega
    simp only [hlen, hlen']
    have hl5 : (allL P).length ≤ 5 := by omega
    clear hlen hlen'
    obtain ⟨p0, p1, p2, p3, p4, p5, p6, p7, p8, p9⟩ := k0.ten
    have r0 := k1.cell 0
    have r1 := k1.cell 1
    simp only [List.getElem?_toArray, List.getElem?_cons_succ, List.getElem?_cons_zero] at r0 r1
    have f0 := k1.froz 0
    have f1 := k1.froz 1
    have lt0 := k0.lt
    have lt1 := k1.lt
    go_loop [6, 7, 23] (fun u v t => ∃ (bs fan : Int) (i : Nat), u = .int .i64 bs ∧ v = .int .i64 fan ∧ t = .int .i64 i ∧ i ≤ (allL P).length ∧ (fan = 8 ∨ fan = 16) ∧ 0 ≤ bs ∧ bs ≤ blk ∧ Hid (par 16 0 blk (allL P) = par fan bs blk ((allL P).drop i)) ∧ bs + lsum ((allL P).drop i) = hd P ∧ (∀ n l, (allL P).drop i = n :: l → Good fan n l)) (fun _ _ t => (allL P).length - (intOf t).toNat)
    case atStart => exact ⟨0, 16, 0, rfl, rfl, rfl, Nat.zero_le _, Or.inr rfl, by omega, by omega, rfl, by rw [List.drop_zero, HSUM.out]; omega, fun n l h => by cases h; exact HG.out⟩
    case round =>
      obtain ⟨bs, fan, i, rfl, rfl, rfl, i1, hf, b0, b1, HP, hsm, hgd⟩ := hrel
      have hi0 : (0 : Int) ≤ (i : Int) := Int.natCast_nonneg _
      by_cases hlt : i < (allL P).length
      · have hi1 : (i : Int) < ((allL P).length : Int) := by omega
        have hcell := HC.out i hlt
        have hdr := drop_cons hlt
        have hb1 := HLE.out ((allL P).getD i 0) (by rw [List.getD_eq_getElem?_getD, List.getElem?_eq_getElem hlt]; exact List.getElem_mem hlt)
        rw [hdr] at HP hsm hgd
        have hgn := hgd _ _ rfl
        clear hgd hdr
        generalize (allL P).getD i 0 = n at hcell HP hsm hgn hb1
        simp only [lsum] at hsm
        have hgs := good_sum hgn
        have e1 : wrap64 (blk - bs) = blk - bs := IntWalk.wrap64_in _ (by omega)
        by_cases hh : blk - bs < n
        · have d1 : (blk - bs).tdiv fan = (blk - bs) / fan := Int.tdiv_eq_ediv_of_nonneg (by omega)
          have d2 : (blk - bs).tmod fan = (blk - bs) % fan := Int.tmod_eq_emod_of_nonneg (by omega)
          have q0 : 0 ≤ (blk - bs) / fan := Int.ediv_nonneg (by omega) (by omega)
          have q1 : (blk - bs) / fan ≤ blk - bs := Int.ediv_le_self _ (by omega)
          have d3 : wrap64 ((blk - bs) / fan) = (blk - bs) / fan := IntWalk.wrap64_in _ (by omega)
          have m0 := Int.emod_nonneg (blk - bs) (show fan ≠ 0 by omega)
          have m1 := Int.emod_lt_of_pos (blk - bs) (show 0 < fan by omega)
          have d4 : wrap64 ((blk - bs) % fan) = (blk - bs) % fan := IntWalk.wrap64_in _ (by omega)
          have d5 : wrap64 (bs + n + (blk - bs) / fan) = bs + n + (blk - bs) / fan := IntWalk.wrap64_in _ (by omega)
          have n0 : (fan == 0) = false := by rw [beq_eq_false_iff_ne]; omega
          have n1 : ¬ fan = 0 := by omega
          by_cases hl : (allL P).drop (i + 1) = []
          · rw [hl] at HP hsm hgn
            rw [par_top hh] at HP
            simp only [lsum] at hsm
            obtain rfl : n = 1 := hgn
            have hbt : (blk == hd P - 1) = true := by rw [beq_iff_eq]; omega
            have HP' := Lib.hid HP.out; clear HP hgs hl
            go_wp2_with fail
            go_region
            have j1 : Blk (w2.alloc (.cells #[.int .i64 (bs + 1 + (blk - bs) / fan), .int .i64 ((blk - bs) % fan)] 38)).drew (w.heap.size + 1) 38 #[.int .i64 0, .int .i64 0] := k1.alloc _
            have j2 : Blk (w2.alloc (.cells #[.int .i64 (bs + 1 + (blk - bs) / fan), .int .i64 ((blk - bs) % fan)] 38)).drew w2.heap.size 38 #[.int .i64 (bs + 1 + (blk - bs) / fan), .int .i64 ((blk - bs) % fan)] := heap_alloc_new w2 _
            have hB3 : Below w.heap.size w (w2.alloc (.cells #[.int .i64 (bs + 1 + (blk - bs) / fan), .int .i64 ((blk - bs) % fan)] 38)).drew := (hB2.alloc hB2.size _).drew
            have J1 := Lib.hid j1
            have J2 := Lib.hid j2
            clear j1 j2
            go_wp2_with (first | (go_at_call 17; refine (top_any _ _ _ _ _ _ _ _ _ _ _ hhd).mono ?_; rintro e w' ⟨rfl, hBt⟩; have l1 := Blk.below J1.out hBt J1.out.lt; have l2 := Blk.below J2.out hBt J2.out.lt; obtain ⟨s0, s1, z0, z1⟩ := l1.two; obtain ⟨s2, s3, z2, z3⟩ := l2.two))
            refine bodyPost_ret (results_cell_tmp rfl _ _ _ _ _ _ rfl (Blk.put2 l1 _ _) rfl rfl (by kernel_rfl)) rfl ?_
            exact ⟨by rw [HP'.out]; rfl, ((below_chain hB3 hBt).setCell (by simp) _).setCell (by simp) _⟩
          · rw [par_hit hh hl] at HP
            have hs1 := hgs.2 hl
            have hbt : (blk == hd P - 1) = false := by rw [beq_eq_false_iff_ne]; omega
            have HP' := Lib.hid HP.out; clear HP hgn hgs hl
            go_wp2_with fail
            go_region
            have j1 : Blk (w2.alloc (.cells #[.int .i64 (bs + n + (blk - bs) / fan), .int .i64 ((blk - bs) % fan)] 38)).drew (w.heap.size + 1) 38 #[.int .i64 0, .int .i64 0] := k1.alloc _
            have j2 : Blk (w2.alloc (.cells #[.int .i64 (bs + n + (blk - bs) / fan), .int .i64 ((blk - bs) % fan)] 38)).drew w2.heap.size 38 #[.int .i64 (bs + n + (blk - bs) / fan), .int .i64 ((blk - bs) % fan)] := heap_alloc_new w2 _
            have hB3 : Below w.heap.size w (w2.alloc (.cells #[.int .i64 (bs + n + (blk - bs) / fan), .int .i64 ((blk - bs) % fan)] 38)).drew := (hB2.alloc hB2.size _).drew
            have J1 := Lib.hid j1
            have J2 := Lib.hid j2
            clear j1 j2
            go_wp2_with (first | (go_at_call 17; refine (top_any _ _ _ _ _ _ _ _ _ _ _ hhd).mono ?_; rintro e w' ⟨rfl, hBt⟩; have l1 := Blk.below J1.out hBt J1.out.lt; have l2 := Blk.below J2.out hBt J2.out.lt; obtain ⟨s0, s1, z0, z1⟩ := l1.two; obtain ⟨s2, s3, z2, z3⟩ := l2.two))
            refine bodyPost_ret (results_cell_tmp rfl _ _ _ _ _ _ rfl (Blk.put2 l1 _ _) rfl rfl (by kernel_rfl)) rfl ?_
            exact ⟨by rw [HP'.out]; rfl, ((below_chain hB3 hBt).setCell (by simp) _).setCell (by simp) _⟩
        · rw [par_miss hh] at HP
          have HG2 : Hid (∀ m l, (allL P).drop (i + 1) = m :: l → Good 8 m l) := by
            intro m l e
            rw [e] at hgn
            exact hgn.2.2.2
          clear hgn
          go_wp2
          go_round
          case rel => exact ⟨bs + n, 8, i + 1, rfl, rfl, by go_num, by omega, Or.inl rfl, by omega, by omega, HP, by omega, HG2.out⟩
          case measure => simp only [intOf]; omega
      · have hnil : (allL P).drop i = [] := List.drop_eq_nil_iff.2 (by omega)
        rw [hnil] at HP
        have HP' := Lib.hid HP.out; clear hnil HP
        go_wp2
        refine bodyPost_ret (results_cell_tmp rfl _ _ _ _ _ _ rfl (Blk.put2 k1 _ _) rfl rfl (by kernel_rfl)) rfl ?_
        exact ⟨by rw [HP'.out]; rfl, (hB2.setCell (by simp) _).setCell (by simp) _⟩
end Go.Proofs.Ytnkoniagakhacaa
