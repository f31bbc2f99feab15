/- Contract of the reference's Path. -/
import Derived.Test.YtnkoniagakhacaaPm
namespace Go.Proofs.Ytnkoniagakhacaa
open Go.RowKit Go.Deep
set_option maxRecDepth 100000
theorem own_weak {w : World} {b1 b2 : Nat} {e : TypeId} {sz n : Nat} {v : Value} {xs : List Value} (h : w.ownsRow b1 e sz v n xs) (hb : b2 ≤ b1) : w.ownsRow b2 e sz v n xs := by
  obtain ⟨hl, h | ⟨g, cap, cur, rfl, hg, r⟩⟩ := h
  · exact ⟨hl, Or.inl h⟩
  · exact ⟨hl, Or.inr ⟨g, cap, cur, rfl, Nat.le_trans hb hg, r⟩⟩
theorem Blk.setlit {w : World} {q : Nat} {t : TypeId} {v0 v1 : Value} (h : Blk w q t #[v0, v1]) (u0 u1 : Value) : Blk ((w.setCell ⟨q, 0, none⟩ u0).setCell ⟨q, 1, none⟩ u1) q t #[u0, u1] := Blk.put2 h u0 u1
theorem refPath_out (w : World) (P page : Int) (v1 v2 v3 v4 v5 v6 v7 v8 v9 : Value) (h : ¬ (0 ≤ page ∧ page < P)) :
    Calls Try.prog 19 #[.agg #[.int .i64 P, v1, v2, v3, v4, v5, v6, v7, v8, v9], .int .i64 page] w fun e w' => e = .returned (.tuple #[.slice none 0 0, .int .i64 1]) ∧ Below w.heap.size w w' := by
  by_cases h0 : page < 0
  · clear h
    go_enter Try.func19, Try.ntmps19
    go_wp2
    go_ret2
    exact ⟨rfl, (Below.refl _ _).alloc (Nat.le_refl _) _⟩
  · have h1 : P ≤ page := by omega
    clear h
    go_enter Try.func19, Try.ntmps19
    go_wp2
    go_ret2
    exact ⟨rfl, (Below.refl _ _).alloc (Nat.le_refl _) _⟩
set_option maxHeartbeats 2000000 in
theorem refPath_in (w : World) (P B page : Int) (hP : 1 ≤ P ∧ P ≤ 4096) (hB : 1 ≤ B ∧ B ≤ 256) (hp : 0 ≤ page ∧ page < P) (a : Option Addr) (cap : Nat) (hI : IsI w a (levs (cnt P)).length cap (levs (cnt P))) :
    Calls Try.prog 19 #[planV P B (.slice a (levs (cnt P)).length cap), .int .i64 page] w fun e w' => ∃ v, e = .returned (.tuple #[v, .int .i64 0]) ∧ w'.ownsRow (w.heap.size + 1) 3 1 v (path P page).length (ints (path P page)) ∧ Below w.heap.size w w' := by
  have hg := good_all hP.1
  have hn := nod_le hP.1 hP.2
  have hc : 1 ≤ cnt P ∧ cnt P ≤ 256 := by unfold cnt; omega
  have hs := levs_short (cnt P) hc.2
  have hsum := lsum_all P
  have hhd : 0 ≤ hd P ∧ hd P ≤ 1000000 := by unfold hd; omega
  have hal : (allL P).length = (levs (cnt P)).length + 2 := rfl
  have HI := Lib.hid hI; clear hI
  have HG := Lib.hid hg; clear hg
  have HSUM := Lib.hid hsum; clear hsum
  obtain ⟨i0, hi, hz0, hz1, hz2⟩ := info_parts infoIntP
  have hpar0 : parent P page = (P + page / 16, page % 16, 0) := by
    have h1 := div_lt hp.1 hp.2 HG.out.2.2.1 (Or.inr rfl)
    unfold parent
    rw [if_neg (by omega)]
    unfold allL
    rw [par_hit (by omega) (by simp)]
    simp
  have HP0 := Lib.hid hpar0; clear hpar0
  go_enter Try.func19, Try.ntmps19
  go_wp2_with (go_at_call 16; refine (refParent_any _ P B page hP (by omega) a cap (HI.out.same ((Below.refl _ _).alloc (Nat.le_refl _) _))).mono ?_; rw [HP0.out]; rintro e w1 ⟨rfl, hB1⟩)
  have b1 : Blk w1 w.heap.size 24 #[.int .i64 P, .int .i64 B, .int .i64 (cnt P), .slice a (levs (cnt P)).length cap, .int .i64 (nod P), .int .i64 (hd P), .int .i64 (hds B), .int .i64 (hd P + hds B), .int .i64 (hd P + hds B + B), .int .i64 (hd P + hds B + B + B)] := Blk.below (heap_alloc_new w _) hB1 (by simp)
  have lt1 := b1.lt
  have hW1 : Below w.heap.size w w1 := below_chain ((Below.refl _ w).alloc (Nat.le_refl _) _) hB1
  have hdl0 := div_lt hp.1 hp.2 HG.out.2.2.1 (Or.inr rfl)
  have HAL := Lib.hid hal; clear hal
  go_loopw [6, 8] (fun u t wr => ∃ (L : List Int) (fan bs o n : Int) (l : List Int), t = .int .i64 (parent P (bs + o)).2.2 ∧ Hid ((allL P).drop L.length = n :: l) ∧ Hid (Good fan n l) ∧ (fan = 8 ∨ fan = 16) ∧ 0 ≤ bs ∧ bs + lsum (n :: l) = hd P ∧ 0 ≤ o ∧ o < n
      ∧ Hid (∀ b, bs ≤ b → par 16 0 b (allL P) = par fan bs b (n :: l)) ∧ Hid (path P page = L ++ pth fan bs o n l) ∧ L.length ≤ 5 ∧ wr.ownsRow (w1.heap.size + 1) 3 1 u L.length (ints L)
      ∧ Blk wr w.heap.size 24 #[.int .i64 P, .int .i64 B, .int .i64 (cnt P), .slice a (levs (cnt P)).length cap, .int .i64 (nod P), .int .i64 (hd P), .int .i64 (hds B), .int .i64 (hd P + hds B), .int .i64 (hd P + hds B + B), .int .i64 (hd P + hds B + B + B)]
      ∧ Blk wr w1.heap.size 38 #[.int .i64 (parent P (bs + o)).1, .int .i64 (parent P (bs + o)).2.1] ∧ Below w.heap.size w wr)
    (fun u _ => fun _ => 10 - (match u with | .slice _ n _ => n | _ => 0))
  case atStart =>
    refine ⟨[], 16, 0, page, P, cnt P :: levs (cnt P), ?_, rfl, HG, Or.inr rfl, Int.le_refl _, by have := HSUM.out; unfold allL at this; omega, hp.1, hp.2, fun b _ => rfl, rfl, by simp, ⟨rfl, Or.inl ⟨rfl, rfl⟩⟩, b1.alloc _, ?_, hW1.alloc hW1.size _⟩
    · rw [show (0 : Int) + page = page by omega, HP0.out]
    · rw [show (0 : Int) + page = page by omega, HP0.out]; exact heap_alloc_new w1 _
  case round =>
    obtain ⟨L, fan, bs, o, n, l, rfl, HD, HGd, hf, b0, hsm, o0, o1, HP, HPA, i5, hown, hb, hpl, hB⟩ := hrel
    have hdl : (allL P).length - L.length = l.length + 1 := by
      have := congrArg List.length HD.out
      rw [List.length_drop] at this
      exact this
    have hal' := HAL.out
    obtain ⟨va, vc, rfl⟩ := own_shape' hown
    obtain ⟨p0, p1, p2, p3, p4, p5, p6, p7, p8, p9⟩ := hb.ten
    have lt0 := hb.lt
    have ltp := hpl.lt
    have hg := HGd.out
    cases l with
    | nil =>
      have hpar : parent P (bs + o) = (0, 0, 5) := by
        have h1 := HP.out (bs + o) (by omega)
        have hn1 : n = 1 := hg
        rw [par_top (by omega)] at h1
        unfold parent
        rw [if_neg (by omega), h1]
      rw [hpar] at hpl ⊢
      have hpl : Blk wr w1.heap.size 38 #[.int .i64 0, .int .i64 0] := hpl
      have hpl2 : path P page = L := by rw [HPA.out]; simp [pth]
      have HPL := Lib.hid hpl2; clear hpl2
      clear hal' hdl hpar hg HPA HP HD HGd
      go_wp2
      go_ret2
      exact ⟨.slice va L.length vc, rfl, by rw [HPL.out]; exact own_weak hown (by omega), hB⟩
    | cons m l =>
      have hd := div_lt o0 o1 hg.2.2.1 hf
      have hgs := good_sum hg.2.2.2
      have hpar : parent P (bs + o) = (bs + n + o / fan, o % fan, 0) := by
        have h1 := HP.out (bs + o) (by omega)
        rw [par_hit (by omega) (by simp), show bs + o - bs = o by omega] at h1
        unfold parent
        rw [if_neg (by omega), h1]
      simp only [lsum] at hsm
      have HPA2 : Hid (path P page = (L ++ [bs + n + o / fan]) ++ pth 8 (bs + n) (o / fan) m l) := by unfold Hid; rw [HPA.out]; simp [pth]
      have HP2 : Hid (∀ b, bs + n ≤ b → par 16 0 b (allL P) = par 8 (bs + n) b (m :: l)) := fun b hbb => by rw [HP.out b (by omega), par_miss (by omega)]
      have HD2 : Hid ((allL P).drop (L.length + 1) = m :: l) := by
        have := congrArg List.tail HD.out
        rw [List.tail_drop] at this
        exact this
      have HGd2 : Hid (Good 8 m l) := hg.2.2.2
      have h1n := hg.1
      rw [hpar] at hpl ⊢
      have hpl : Blk wr w1.heap.size 38 #[.int .i64 (bs + n + o / fan), .int .i64 (o % fan)] := hpl
      have hlen : (L.length : Int) + 1 ≤ 5 := by simp only [List.length_cons] at hdl; omega
      have hc3 : L.length + 1 ≤ maxLen := by unfold maxLen; omega
      have hc4 : (L.length + 1) * 8 ≤ 140737488355328 := by omega
      have hlw := hB.size
      have Hrow : Hid (∀ k, (Value.slice va L.length vc).ownBlock = some k → w.heap.size ≤ k) := fun k hk => by have := own_base hown hk; omega
      have Hne0 : Hid (some w.heap.size ≠ (Value.slice va L.length vc).ownBlock) := fun h => by have := own_base hown h.symm; omega
      have Hne1 : Hid (some w1.heap.size ≠ (Value.slice va L.length vc).ownBlock) := fun h => by have := own_base hown h.symm; omega
      clear hpar hg HPA HP HD HGd hal' hdl
      obtain ⟨s0, s1, z0, z1⟩ := hpl.two
      obtain ⟨at', hat⟩ : ∃ x, x = bs + n + o / fan := ⟨_, rfl⟩
      rw [← hat] at HPA2 hpl s0
      have hr0 : bs + n ≤ at' ∧ at' < bs + n + m := by omega
      have Hat := Lib.hid hat; clear hat
      go_wp2_with (first
        | (at_builtin; go_must (refine wpList_append_own _ rfl _ _ 22 rfl (w1.heap.size + 1) 3 i0 (.int .i64 0) 1 8 Try.underlying22 hi hz0 hz1 hz2 rfl (by decide) _ _ _ rfl (hown.alloc _) ⟨_, 0, none⟩ 1 1 [.int .i64 at'] rfl rfl (World.news_of_block (cs := #[.int .i64 at']) (t := 3) (fr := (0, 0)) (heap_alloc_new' _ _ _ (by simp))) (by simp [Value.oneCell']) hc3 hc4 (by simp; omega) ?_); intro v' w4 hown4 hgrow4 hnil4; have q0 := (hb.alloc _).grown hgrow4 Hne0.out; have q1 := (hpl.alloc _).grown hgrow4 Hne1.out; have hB4 := (hB.alloc hB.size _).grown hgrow4 (by simp; omega) Hrow.out; obtain ⟨r0, r1, r2, r3, r4, r5, r6, r7, r8, r9⟩ := q0.ten; obtain ⟨t0, t1, y0, y1⟩ := q1.two; have ltq := q0.lt; have ltq1 := q1.lt)
        | (go_at_call 16; refine (refParent_any _ P B at' hP (by omega) a cap (HI.out.same hB4)).mono ?_; rintro e w5 ⟨rfl, hB5⟩; have n0 := q0.below hB5 ltq; have n1 := q1.below hB5 ltq1; obtain ⟨t2, t3, y2, y3⟩ := n1.two; have hown5 := own_below hown4 hB5))
      go_roundw
      case rel =>
        have hat := Hat.out
        have e2 : bs + n + o / fan = at' := hat.symm
        refine ⟨L ++ [at'], 8, bs + n, o / fan, m, l, by rw [e2], by rw [List.length_append]; exact HD2, HGd2, Or.inl rfl, by omega, by simp only [lsum]; omega, hd.1, hd.2, HP2, HPA2, by simp; omega, ?_, (n0.other (by omega) _ _).other (by omega) _ _, ?_, ((below_chain hB4 hB5).setCell (by show _ ≤ w1.heap.size; have := hW1.size; omega) _).setCell (by show _ ≤ w1.heap.size; have := hW1.size; omega) _⟩
        · unfold ints; rw [List.map_append, List.length_append]
          obtain ⟨g4, c4, rfl, hg4⟩ := own_some hown5 (by omega)
          exact own_setCell (own_setCell hown5 (by simp [Value.ownBlock]; omega) _) (by simp [Value.ownBlock]; omega) _
        · rw [e2]; exact Blk.put2 n1 _ _
      case measure =>
        obtain ⟨g4, c4, rfl⟩ := own_shape' hown4
        show 10 - (L.length + 1) < 10 - L.length
        omega
end Go.Proofs.Ytnkoniagakhacaa
