/- Contract of the reference's Need. -/
import Derived.Test.YtnkoniagakhacaaPo
namespace Go.Proofs.Ytnkoniagakhacaa
open Go.RowKit Go.Deep Go.ChangeMaps
set_option maxRecDepth 100000
theorem Fr.blk {S : Nat → Prop} {w w' : World} {q : Nat} {t : TypeId} {vs : Array Value} (h : Blk w q t vs) (hF : Fr S w w') (hq : ¬ S q) : Blk w' q t vs := h.fr hF hq
theorem le_hd {P : Int} (hP : 1 ≤ P ∧ P ≤ 4096) : P ≤ hd P := by
  have := nod_le hP.1 hP.2
  have hc : 1 ≤ cnt P := by unfold cnt; omega
  unfold hd; omega
set_option maxHeartbeats 4000000 in
theorem refNeed_any (w : World) (P B : Int) (hP : 1 ≤ P ∧ P ≤ 4096) (hB : 1 ≤ B ∧ B ≤ 256) (a : Option Addr) (cap : Nat) (hI : IsI w a (levs (cnt P)).length cap (levs (cnt P))) (x : Option Addr) (len2 cap2 : Nat) (A : List Int) (hA : IsI w x len2 cap2 A) (hA2 : len2 ≤ 1000000) :
    Calls Try.prog 22 #[planV P B (.slice a (levs (cnt P)).length cap), .slice x len2 cap2] w fun e w' => e = .returned (.int .i64 (needR P A).length) ∧ Below w.heap.size w w' := by
  obtain rfl := hA.hlen
  have hs := levs_short (cnt P) (by unfold cnt; omega)
  have hhd := hd_le hP
  have hcA : Hid (∀ i, i < A.length → ∃ b off, x = some ⟨b, off, none⟩ ∧ b < w.heap.size ∧ w.cell? ⟨b, off + i, none⟩ = some (.int .i64 (A.getD i 0))) := by
    intro i hi
    rcases hA.at_ with e | ⟨b, off, e, hb, hc⟩
    · rw [e] at hi; simp at hi
    · exact ⟨b, off, e, hb, hc i hi⟩
  have HWF := Lib.hid hA.wf
  have hca := hA.hcap
  have HI := Lib.hid hI
  obtain ⟨hn, hhn⟩ : ∃ hn : Nat, hd P = (hn : Int) := ⟨(hd P).toNat, by omega⟩
  have hle : (needR P A).length = (needL P A).length := need_eq P A
  obtain ⟨i0, hi, hz0, hz1, hz2⟩ := info_parts infoIntP
  obtain ⟨ib, hi', hy0, hy1, hy2⟩ := info_parts infoBool
  clear hI hA hle
  have HHN := Lib.hid hhn; clear hhn
  have hbb : ib.bytes * hn ≤ 281474976710656 := by rw [hy2]; have := HHN.out; omega
  have hmm : hn ≤ maxLen := by unfold maxLen; have := HHN.out; omega
  go_enter Try.func22, Try.ntmps22
  go_wp2_with (at_make; go_must (refine wpList_make_full _ rfl _ _ _ rfl (w.heap.size + 1) 4 ib (.bool false) 1 Try.underlying59 hi' hy0 hy1 .i64 .i64 (hd P) (hd P) hn rfl rfl HHN.out HHN.out hbb hmm (by simp) ?_); intro w1 hown1 hgrow1)
  have k1 : Blk w1 w.heap.size 24 #[.int .i64 P, .int .i64 B, .int .i64 (cnt P), .slice a (levs (cnt P)).length cap, .int .i64 (nod P), .int .i64 (hd P), .int .i64 (hds B), .int .i64 (hd P + hds B), .int .i64 (hd P + hds B + B), .int .i64 (hd P + hds B + B + B)] := Blk.grown (heap_alloc_new w _) hgrow1 (by intro h; cases h)
  have hW1 : Below w.heap.size w w1 := ((Below.refl _ w).alloc (Nat.le_refl _) _).grown hgrow1 (by simp) (by intro k hk; cases hk)
  have FL0 := flags_made hown1
  have hsz1 : w.heap.size + 1 < w1.heap.size := by have := FL0.lt; simpa using this
  clear hown1 hgrow1 hi' hy0 hy1 hy2 hbb hmm
  rw [show (w.alloc (.cells #[.int .i64 P, .int .i64 B, .int .i64 (cnt P), .slice a (levs (cnt P)).length cap, .int .i64 (nod P), .int .i64 (hd P), .int .i64 (hds B), .int .i64 (hd P + hds B), .int .i64 (hd P + hds B + B), .int .i64 (hd P + hds B + B + B)] 24)).heap.size = w.heap.size + 1 by simp] at FL0
  go_wp2
  go_loopw [6, 7] (fun u t wr => ∃ i : Nat, t = .int .i64 i ∧ i ≤ A.length ∧ u = .int .i64 ((needR P (A.take i)).length : Int) ∧ Hid (Flags wr (w.heap.size + 1) hn (needR P (A.take i))) ∧ Fr (fun q => q = w.heap.size + 1) w1 wr) (fun _ t _ => A.length - (intOf t).toNat)
  case atStart => exact ⟨0, rfl, Nat.zero_le _, rfl, FL0, Fr.refl _ _⟩
  case round =>
    obtain ⟨i, rfl, i1, rfl, hFl, hF⟩ := hrel
    have hi0 : (0 : Int) ≤ (i : Int) := Int.natCast_nonneg _
    have hFW : Fr (fun q => q = w.heap.size + 1) w wr := (Fr.of_below hW1).trans hF
    have hbw := k1.fr hF (by show ¬ w.heap.size = _; omega)
    have hzr := hF.size
    obtain ⟨p0, p1, p2, p3, p4, p5, p6, p7, p8, p9⟩ := hbw.ten
    have lt0 := hbw.lt
    by_cases hlt : i < A.length
    · have hi1 : (i : Int) < (A.length : Int) := by omega
      obtain ⟨b, off, rfl, hb, c1'⟩ := hcA.out i hlt
      have c1 := (hFW.cell (p := ⟨b, off + i, none⟩) hb (by show ¬ b = _; omega)).trans c1'
      have hwf := HWF.out (A.getD i 0) (by rw [List.getD_eq_getElem?_getD, List.getElem?_eq_getElem hlt]; exact List.getElem_mem hlt)
      have HS := Lib.hid (needR_snoc P hlt)
      have HIr := Lib.hid (HI.out.fr hFW (fun x hx => by show ¬ x = _; omega))
      have HND := Lib.hid (needR_nodup P (A.take i))
      have hbn : Hid (∀ y ∈ IM.keysL (needR P (A.take i)), 0 ≤ y ∧ y < hd P) := fun y hy => need_bnd hP (A.take i) y ((both_mem P (A.take i) [] [] (fun _ => Iff.rfl) y).2 hy)
      have hSle : (needR P (A.take i)).length ≤ 5000 := by
        have h1 := need_eq P (A.take i)
        have h2 := need_le hP (A.take i)
        omega
      generalize needR P (A.take i) = S at hFl HS HND hbn hSle
      generalize A.getD i 0 = pg at c1 hwf HS
      clear c1'
      have hbw2 : b < wr.heap.size := by omega
      by_cases hr : 0 ≤ pg ∧ pg < P
      · have HS' : Hid (needR P (A.take (i + 1)) = addAll S (path P pg ++ [pg])) := by unfold Hid; rw [HS.out]; unfold stepR; rw [if_pos hr]
        clear HS
        have HPL := Lib.hid (path_len P pg)
        go_wp2_with fail
        go_region_with (first | (go_at_call 19; refine (refPath_in _ P B pg hP hB hr a cap (HIr.out.same (Below.refl _ _).drew)).mono ?_; rintro e w3 ⟨v, rfl, hown3, hB3⟩; rw [HPL.out] at hown3))
        all_goals
          have hB3' : Below wr.heap.size wr w3 := below_chain (Below.refl _ wr).drew hB3
          have hs3 := hB3'.size
          obtain ⟨va, vc, rfl⟩ := own_shape' hown3
          have c3 := (hB3'.cell (p := ⟨b, off + i, none⟩) hbw2).trans c1
          have Fl3 := Lib.hid (hFl.out.below hB3')
          have hq3 := hFl.out.lt
          have hown3' : w3.ownsRow (wr.heap.size + 1) 3 1 (.slice va ((levs (cnt P)).length + 1) vc) ((levs (cnt P)).length + 1) (ints (path P pg)) := hown3
          have Hr3 : Hid (∀ k, (Value.slice va ((levs (cnt P)).length + 1) vc).ownBlock = some k → wr.heap.size + 1 ≤ k) := fun k hk => own_base hown3' hk
          have Hq3 : Hid (some (w.heap.size + 1) ≠ (Value.slice va ((levs (cnt P)).length + 1) vc).ownBlock) := fun h => by have := own_base hown3' h.symm; omega
          have hpw : ∀ y ∈ path P pg ++ [pg], 0 ≤ y ∧ y < hd P := by
            intro y hy
            rcases List.mem_append.1 hy with h | h
            · have := path_lt hP hr y h; omega
            · simp at h
              have hh := le_hd hP
              omega
          have HPW := Lib.hid hpw; clear hpw
          clear hown3 hB3 p0 p1 p2 p3 p4 p5 p6 p7 p8 p9 hbw c1
          go_wp2_with (at_builtin; go_must (refine wpList_append_own _ rfl _ _ 22 rfl (wr.heap.size + 1) 3 i0 (.int .i64 0) 1 8 Try.underlying22 hi hz0 hz1 hz2 rfl (by decide) _ _ _ rfl (hown3'.alloc _) ⟨_, 0, none⟩ 1 1 [.int .i64 pg] rfl rfl (World.news_of_block (cs := #[.int .i64 pg]) (t := 3) (fr := (0, 0)) (heap_alloc_new _ _)) (by simp [Value.oneCell']) (by unfold maxLen; omega) (by omega) (by simp; have := own_base hown3' (q := 0); omega) ?_); intro v4 w4 hown4 hgrow4 hnil4; obtain ⟨g, gc, rfl, hg1, hg2, hg3, hg4, hg5⟩ := own_cellsI hown4 (by omega))
          have Fl4 : Hid (Flags w4 (w.heap.size + 1) hn S) := by
            refine Flags.of_block (w := w3) Fl3.out ?_
            exact (hgrow4.block _ (by simp; omega) Hq3.out).trans ((World.grownBy_alloc w3 _ none).block _ (by omega) (by simp))
          have hF4 : Fr (fun q => q = w.heap.size + 1) w1 w4 := ((hF.trans (Fr.of_below hB3')).alloc _).grown hgrow4 (fun k hk => Or.inr (by have := Hr3.out k hk; omega))
          have HC4 : Hid (∀ j, j < (path P pg ++ [pg]).length → w4.cell? ⟨g, j, none⟩ = some (.int .i64 ((path P pg ++ [pg]).getD j 0))) := fun j hj => hg5 j _ (by
            have : ints (path P pg) ++ [.int .i64 pg] = ints (path P pg ++ [pg]) := by unfold ints; rw [List.map_append]; rfl
            rw [this]; simp only [ints, List.getD, List.getElem?_map]; rw [List.getElem?_eq_getElem hj]; rfl)
          have hKl : (path P pg ++ [pg]).length = (levs (cnt P)).length + 1 + 1 := by rw [List.length_append, HPL.out]; rfl
          have hgq : g ≠ w.heap.size + 1 := by omega
          clear hg5 hown4 hgrow4 hnil4 hown3' Fl3 c3
          generalize path P pg ++ [pg] = K at HS' HC4 hKl HPW
          go_loopw [6, 10] (fun u t wq => ∃ k : Nat, t = .int .i64 k ∧ k ≤ K.length ∧ u = .int .i64 ((addAll S (K.take k)).length : Int) ∧ Hid (Flags wq (w.heap.size + 1) hn (addAll S (K.take k))) ∧ (addAll S (K.take k)).length ≤ 5000 + k ∧ Fr (fun q => q = w.heap.size + 1) w4 wq) (fun _ t _ => K.length - (intOf t).toNat)
          case atStart => exact ⟨0, rfl, Nat.zero_le _, rfl, Fl4.out, by simpa [addAll] using hSle, Fr.refl _ _⟩
          case round =>
            rename_i wq _ _ _ _ _ _ _ _ _ _ _ _ _ _ _ _ _ _ _ _ _ _
            obtain ⟨k, rfl, j1, rfl, hFq, hLe, hFr⟩ := hrel
            have hk0 : (0 : Int) ≤ (k : Int) := Int.natCast_nonneg _
            by_cases hkl : k < K.length
            · have hk1 : (k : Int) < ((levs (cnt P)).length : Int) + 1 + 1 := by omega
              have d1 := (hFr.cell (p := ⟨g, k, none⟩) hg4 (by show ¬ g = _; exact hgq)).trans (HC4.out k hkl)
              have hxb := HPW.out (K.getD k 0) (by rw [List.getD_eq_getElem?_getD, List.getElem?_eq_getElem hkl]; exact List.getElem_mem hkl)
              have HSn := Lib.hid (addAll_snoc S hkl)
              generalize addAll S (K.take k) = S2 at hFq HSn hLe
              obtain ⟨xn, hxn⟩ : ∃ xn : Nat, K.getD k 0 = (xn : Int) := ⟨(K.getD k 0).toNat, by omega⟩
              rw [hxn] at d1 HSn hxb
              have hxl : xn < hn := by have := HHN.out; omega
              have hxl' : (xn : Int) < (hn : Int) := by omega
              have hx0 : (0 : Int) ≤ (xn : Int) := Int.natCast_nonneg _
              have d2 := hFq.out.cell hxl
              have d3 := hFq.out.froz xn
              clear hxn
              by_cases hm : (xn : Int) ∈ IM.keysL S2
              · rw [decide_eq_true hm] at d2
                have HE := Lib.hid (addL_in hm)
                have HFl := Lib.hid (flags_in hFq.out hm)
                clear hm
                go_wp2
                go_roundw
                case rel => exact ⟨k + 1, by go_num, by omega, by rw [HSn.out, HE.out], by rw [HSn.out]; exact HFl.out, by rw [HSn.out, HE.out]; omega, hFr⟩
                case measure => simp only [intOf]; omega
              · rw [decide_eq_false hm] at d2
                have HE := Lib.hid (addL_out hm)
                have HFl := Lib.hid (hFq.out.set xn)
                clear hm
                go_wp2
                go_roundw
                case rel => exact ⟨k + 1, by go_num, by omega, by rw [HSn.out, HE.out]; go_num, by rw [HSn.out]; exact HFl.out, by rw [HSn.out, HE.out]; omega, hFr.setCell (Or.inl rfl) _⟩
                case measure => simp only [intOf]; omega
            · have hk1 : ¬ ((k : Int) < ((levs (cnt P)).length : Int) + 1 + 1) := by omega
              rw [List.take_of_length_le (by omega)] at hFq ⊢
              go_wp2
              go_roundw
              case rel => exact ⟨i + 1, by go_num, by omega, by rw [HS'.out], by rw [HS'.out]; exact hFq.out, hF4.trans hFr⟩
              case measure => simp only [intOf]; omega
      · have HS' : Hid (needR P (A.take (i + 1)) = S) := by unfold Hid; rw [HS.out]; unfold stepR; rw [if_neg hr]
        clear HS
        go_wp2_with fail
        go_region_with (first | (go_at_call 19; refine (refPath_out _ P pg _ _ _ _ _ _ _ _ _ hr).mono ?_; rintro e w3 ⟨rfl, hB3⟩))
        all_goals
          have hB3' : Below wr.heap.size wr w3 := below_chain (Below.refl _ wr).drew hB3
          go_wp2
          go_roundw
          case rel => exact ⟨i + 1, by go_num, by omega, by rw [HS'.out], by rw [HS'.out]; exact hFl.out.below hB3', hF.trans (Fr.of_below hB3')⟩
          case measure => simp only [intOf]; omega
    · rw [List.take_of_length_le (by omega)]
      go_wp2
      go_ret
      exact ⟨rfl, hFW.below (Nat.le_refl _) (fun q hq => by omega)⟩
end Go.Proofs.Ytnkoniagakhacaa
