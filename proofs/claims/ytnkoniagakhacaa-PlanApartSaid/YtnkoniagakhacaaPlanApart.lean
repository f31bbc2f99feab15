/- PlanApart: for every pages and every budget the law returns true. -/
import Derived.Test.YtnkoniagakhacaaQu
import Derived.Test.YtnkoniagakhacaaPr
import Derived.Test.YtnkoniagakhacaaPq
import Derived.ProofKit
import Derived.OpenShut
import Derived.SizedLaws
namespace Go.Proofs.Ytnkoniagakhacaa.planApart
open Go.ChangeShapes Go.WideShapes Go.ChangeAt Go.RowKit Go.Deep
set_option maxRecDepth 100000
/-- How many children each block has had: its flags. -/
def Counts (w : World) (q n : Nat) (kd : Int → Nat) : Prop := ∃ cur, Blk w q 3 cur ∧ cur.size = n ∧ ∀ i : Nat, i < n → cur[i]? = some (.int .i64 ((2 : Int) ^ (kd i) - 1))
theorem counts_made {w : World} {q n base : Nat} (h : w.ownsRow base 3 1 (.slice (some ⟨q, 0, none⟩) n n) n (madeCells (Value.int .i64 0).cells (n * 1)).toList) : Counts w q n (fun _ => 0) := by
  obtain ⟨hl, ⟨e, -⟩ | ⟨g, cap, cur, e, hg, hh, hnc, hcm, hcs, ht⟩⟩ := h
  · cases e
  · cases e
    refine ⟨cur, hh, by omega, fun i hi => ?_⟩
    have h2 : cur.toList = (madeCells (Value.int .i64 0).cells (n * 1)).toList := by
      rw [← ht, List.take_of_length_le (by simp; omega)]
    have h3 : cur = madeCells (Value.int .i64 0).cells (n * 1) := by
      rw [← Array.toList_inj]; exact h2
    rw [h3]
    simp [madeCells, Value.cells, hi, Nat.mod_one]
theorem Counts.cell {w : World} {q n : Nat} {kd : Int → Nat} (h : Counts w q n kd) {i : Nat} (hi : i < n) : w.cell? ⟨q, i, none⟩ = some (.int .i64 ((2 : Int) ^ (kd i) - 1)) := by
  obtain ⟨cur, h1, h2, h3⟩ := h
  rw [h1.cell i]; exact h3 i hi
theorem Counts.froz {w : World} {q n : Nat} {kd : Int → Nat} (h : Counts w q n kd) (i : Nat) : w.frozen? ⟨q, i, none⟩ = false := by
  obtain ⟨cur, h1, h2, h3⟩ := h
  exact h1.froz i
theorem Counts.lt {w : World} {q n : Nat} {kd : Int → Nat} (h : Counts w q n kd) : q < w.heap.size := by
  obtain ⟨cur, h1, h2, h3⟩ := h
  exact h1.lt
theorem Counts.below {w w' : World} {q n : Nat} {kd : Int → Nat} (h : Counts w q n kd) (hB : Below w.heap.size w w') : Counts w' q n kd := by
  obtain ⟨cur, h1, h2, h3⟩ := h
  exact ⟨cur, h1.below hB h1.lt, h2, h3⟩
theorem Counts.set {w : World} {q n : Nat} {kd : Int → Nat} (h : Counts w q n kd) (i m : Nat) : Counts (w.setCell ⟨q, i, none⟩ (.int .i64 ((2 : Int) ^ m - 1))) q n (fun y => if y = (i : Int) then m else kd y) := by
  obtain ⟨cur, h1, h2, h3⟩ := h
  refine ⟨_, h1.set i _, by simp [h2], fun j hj => ?_⟩
  rw [Array.getElem?_setIfInBounds]
  by_cases hij : i = j
  · subst hij
    have hj' : i < cur.size := by rw [h2]; exact hj
    simp [hj']
  · rw [if_neg hij, h3 j hj]
    show _ = some (Value.int .i64 ((2 : Int) ^ (if (j : Int) = (i : Int) then m else kd j) - 1))
    rw [if_neg (by omega)]
theorem bits_or' (m : Nat) (h : m ≤ 16) : bits .or .i64 ((2 : Int) ^ m - 1) (wrap64 ((2 : Int) ^ m)) = 2 ^ (m + 1) - 1 := by
  have : ∀ m, m ≤ 16 → bits .or .i64 ((2 : Int) ^ m - 1) (wrap64 ((2 : Int) ^ m)) = 2 ^ (m + 1) - 1 := by decide +kernel
  exact this m h
theorem u64_small (m : Nat) (h : m ≤ 16) : IntKind.u64.wrap (m : Int) = (m : Int) := by
  have : ∀ m : Nat, m ≤ 16 → IntKind.u64.wrap (m : Int) = (m : Int) := by decide +kernel
  exact this m h
theorem pow_some (k : Nat) (h : 1 ≤ k) : ((2 : Int) ^ k - 1 == 0) = false := by
  obtain ⟨m, rfl⟩ : ∃ m, k = m + 1 := ⟨k - 1, by omega⟩
  have h2 : (0 : Int) < 2 ^ m := Int.pow_pos (by decide)
  rw [beq_eq_false_iff_ne, Int.pow_succ]
  omega
/-- What stands ahead of block b. -/
structure St (P : Int) (b : Nat) (kd : Int → Nat) (X c : Int) : Prop where
  hi : ∀ y, X < y → kd y = 0
  at_ : P ≤ X → (kd X : Int) = c
  lo : ∀ y, P ≤ y → y ≤ X → 1 ≤ kd y
  nx : (b : Int) + 1 ≤ hd P - 1 → parent P b = (X, c, 0) ∨ parent P b = (X + 1, 0, 0)
  fin : hd P - 1 ≤ (b : Int) → X = hd P - 1
theorem st_zero {P : Int} (hP : 1 ≤ P ∧ P ≤ 4096) : St P 0 (fun _ => 0) (P - 1) 0 := by
  have h := hd_le hP
  refine ⟨fun _ _ => rfl, fun h => by omega, fun y h1 h2 => by omega, fun _ => Or.inr ?_, fun h => by simp at h; omega⟩
  have := place_zero hP
  rw [show P - 1 + 1 = P by omega]
  exact this
theorem st_kd {P : Int} {b : Nat} {kd : Int → Nat} {X c x a : Int} (h : St P b kd X c) (hb : (b : Int) + 1 ≤ hd P - 1) (hp : parent P b = (x, a, 0)) (hx : P ≤ x) : (kd x : Int) = a ∧ (x = X ∨ x = X + 1) := by
  rcases h.nx hb with e | e <;> rw [hp] at e <;> simp only [Prod.mk.injEq] at e <;> obtain ⟨rfl, rfl, -⟩ := e
  · exact ⟨h.at_ hx, Or.inl rfl⟩
  · exact ⟨by rw [h.hi _ (by omega)]; rfl, Or.inr rfl⟩
theorem st_step {P : Int} (hP : 1 ≤ P ∧ P ≤ 4096) {b : Nat} {kd : Int → Nat} {X c x a : Int} {an : Nat} (h : St P b kd X c) (hb : (b : Int) + 1 ≤ hd P - 1) (hp : parent P b = (x, a, 0)) (hx : P ≤ x) (ha : a = an) : St P (b + 1) (fun y => if y = x then an + 1 else kd y) x (a + 1) := by
  have hk := st_kd h hb hp hx
  refine ⟨fun y hy => ?_, fun _ => ?_, fun y h1 h2 => ?_, fun h2 => ?_, fun h2 => ?_⟩
  · rw [if_neg (by omega)]; exact h.hi y (by omega)
  · rw [if_pos rfl]; omega
  · by_cases e : y = x
    · rw [if_pos e]; omega
    · rw [if_neg e]; exact h.lo y h1 (by omega)
  · have := place_next hP (b := b) (Int.natCast_nonneg _) (by omega) hp
    rw [show ((b + 1 : Nat) : Int) = (b : Int) + 1 by omega]
    exact this
  · have e : (b : Int) = hd P - 2 := by omega
    have := place_last hP
    rw [← e, hp] at this
    exact this
theorem st_top {P : Int} {b : Nat} {kd : Int → Nat} {X c : Int} (h : St P b kd X c) (hb : (b : Int) = hd P - 1) : St P (b + 1) kd X c :=
  ⟨h.hi, h.at_, h.lo, fun h2 => by omega, fun _ => h.fin (by omega)⟩
set_option maxHeartbeats 4000000 in
theorem walk (W : World) (pg : Int) (hp : (Lit.int .i64 pg).wf = true) (bd : Int) (hb : (Lit.int .i64 bd).wf = true) :
    Calls Try.prog 8 #[.int .i64 pg, .int .i64 bd] W fun e w' => e = .returned (.bool true) ∧ Below W.heap.size W w' := by
  have h1 := bounds_i64 hp
  have h2 := bounds_i64 hb
  have b1 := Int.emod_nonneg pg (show (400 : Int) ≠ 0 by omega)
  have b2 := Int.emod_lt_of_pos pg (show (0 : Int) < 400 by omega)
  have b3 := Int.emod_nonneg bd (show (256 : Int) ≠ 0 by omega)
  have b4 := Int.emod_lt_of_pos bd (show (0 : Int) < 256 by omega)
  have hP : 1 ≤ 1 + pg % 400 ∧ 1 + pg % 400 ≤ 400 := by omega
  have hB : 1 ≤ 1 + bd % 256 ∧ 1 + bd % 256 ≤ 256 := by omega
  clear hp hb
  go_enter Try.func8, Try.ntmps8
  go_wp2_with (first
    | (go_at_call 14; first | (with_reducible refine (pick_any pg 400 (by omega) (by omega) h1 _).mono ?_; rintro e w' ⟨rfl, rfl⟩) | (with_reducible refine (pick_any bd 256 (by omega) (by omega) h2 _).mono ?_; rintro e w' ⟨rfl, rfl⟩)))
  generalize 1 + pg % 400 = P at hP ⊢
  generalize 1 + bd % 256 = B at hB ⊢
  clear b1 b2 b3 b4 h1 h2
  have hP2 : 1 ≤ P ∧ P ≤ 4096 := by omega
  refine (planOf_in _ P B hP2 hB).mono ?_
  rintro e w0 ⟨v, rfl, hown, hB0⟩
  obtain ⟨a, c, rfl, hI, hva⟩ := isI_own hown (levs_wf hP2)
  have hhd := hd_le hP2
  have hhs := hds_le hB
  obtain ⟨hn, hhn⟩ : ∃ hn : Nat, hd P = (hn : Int) := ⟨(hd P).toNat, by omega⟩
  obtain ⟨i0, hi, hz0, hz1, hz2⟩ := info_parts infoIntP
  have hbb : i0.bytes * hn ≤ 281474976710656 := by rw [hz2]; omega
  have hmm : hn ≤ maxLen := by unfold maxLen; omega
  have HHN := Lib.hid hhn; clear hhn
  have HI := Lib.hid (hI.same ((Below.refl _ w0).alloc (Nat.le_refl _) (.cells #[.int .i64 P, .int .i64 B, .int .i64 (cnt P), .slice a (levs (cnt P)).length c, .int .i64 (nod P), .int .i64 (hd P), .int .i64 (hds B), .int .i64 (hd P + hds B), .int .i64 (hd P + hds B + B), .int .i64 (hd P + hds B + B + B)] 24)))
  have hW0 : Below W.heap.size W (w0.alloc (.cells #[.int .i64 P, .int .i64 B, .int .i64 (cnt P), .slice a (levs (cnt P)).length c, .int .i64 (nod P), .int .i64 (hd P), .int .i64 (hds B), .int .i64 (hd P + hds B), .int .i64 (hd P + hds B + B), .int .i64 (hd P + hds B + B + B)] 24)) := hB0.alloc hB0.size _
  have hsW : W.heap.size ≤ w0.heap.size := hB0.size
  have Hab := Lib.hid (show ∀ x, a = some x → x.block < w0.heap.size from fun x hx => by
    rcases hI.at_ with e | ⟨b', off, e, hl, -⟩
    · exact absurd e (levs_ne _)
    · rw [hx] at e
      cases e
      exact hl)
  clear hown hva hI hB0
  go_wp2_with (at_make; go_must (refine wpList_make_full _ rfl _ _ _ rfl (w0.heap.size + 1) 3 i0 (.int .i64 0) 1 Try.underlying22 hi hz0 hz1 .i64 .i64 (hd P) (hd P) hn rfl rfl HHN.out HHN.out hbb hmm (by simp) ?_); intro w1 hown1 hgrow1)
  have k1 : Blk w1 w0.heap.size 24 #[.int .i64 P, .int .i64 B, .int .i64 (cnt P), .slice a (levs (cnt P)).length c, .int .i64 (nod P), .int .i64 (hd P), .int .i64 (hds B), .int .i64 (hd P + hds B), .int .i64 (hd P + hds B + B), .int .i64 (hd P + hds B + B + B)] := Blk.grown (heap_alloc_new w0 _) hgrow1 (by intro h; cases h)
  have hB01 : Below (w0.alloc (.cells #[.int .i64 P, .int .i64 B, .int .i64 (cnt P), .slice a (levs (cnt P)).length c, .int .i64 (nod P), .int .i64 (hd P), .int .i64 (hds B), .int .i64 (hd P + hds B), .int .i64 (hd P + hds B + B), .int .i64 (hd P + hds B + B + B)] 24)).heap.size (w0.alloc (.cells #[.int .i64 P, .int .i64 B, .int .i64 (cnt P), .slice a (levs (cnt P)).length c, .int .i64 (nod P), .int .i64 (hd P), .int .i64 (hds B), .int .i64 (hd P + hds B), .int .i64 (hd P + hds B + B), .int .i64 (hd P + hds B + B + B)] 24)) w1 := (Below.refl _ _).grown hgrow1 (Nat.le_refl _) (by intro k hk; cases hk)
  have hW1 := below_chain hW0 hB01
  have HI1 := Lib.hid (HI.out.same hB01)
  have FL0 := counts_made hown1
  rw [show (w0.alloc (.cells #[.int .i64 P, .int .i64 B, .int .i64 (cnt P), .slice a (levs (cnt P)).length c, .int .i64 (nod P), .int .i64 (hd P), .int .i64 (hds B), .int .i64 (hd P + hds B), .int .i64 (hd P + hds B + B), .int .i64 (hd P + hds B + B + B)] 24)).heap.size = w0.heap.size + 1 by simp] at FL0
  have hq1 := FL0.lt
  clear hown1 hgrow1 hbb hmm hi hz0 hz1 hz2 HI hW0 hB01
  go_wp2
  have hhd2 : 0 ≤ hd P ∧ hd P ≤ 1000000 := by omega
  go_loopw [8] (fun t wr => ∃ b : Nat, ∃ kd : Int → Nat, ∃ X ct : Int, t = .int .i64 b ∧ b ≤ hn ∧ Hid (Counts wr (w0.heap.size + 1) hn kd) ∧ Hid (St P b kd X ct) ∧ Fr (fun q => q = w0.heap.size + 1) w1 wr) (fun t _ => hn - (intOf t).toNat)
  case atStart => exact ⟨0, _, _, _, rfl, Nat.zero_le _, FL0, st_zero hP2, Fr.refl _ _⟩
  case round =>
    obtain ⟨b, kd, X, ct, rfl, j1, hC, hS, hF⟩ := hrel
    have hi0 : (0 : Int) ≤ (b : Int) := Int.natCast_nonneg _
    have hHN := HHN.out
    have kr := k1.fr hF (by show ¬ w0.heap.size = _; omega)
    obtain ⟨p0, p1, p2, p3, p4, p5, p6, p7, p8, p9⟩ := kr.ten
    have ltr := kr.lt
    have hsr := hF.size
    have HIr := Lib.hid (HI1.out.fr' hF (fun x hx => by have := Hab.out x hx; show ¬ x.block = _; omega))
    by_cases hlt : b < hn
    · have hlt' : (b : Int) < hd P := by omega
      by_cases htop : (b : Int) = hd P - 1
      · have hpt : parent P b = (0, 0, 5) := by rw [htop]; exact place_top hP2
        have HPT := Lib.hid hpt
        have hbt : ((b : Int) == hd P - 1) = true := by rw [beq_iff_eq]; exact htop
        have HST := Lib.hid (st_top hS.out htop)
        have hbn : b + 1 ≤ hn := by omega
        clear hpt htop hHN
        go_wp2_with (first
          | (go_at_call 15; refine (parent_any _ P B b hP2 hB (by omega) a c HIr.out).mono ?_; rw [HPT.out]; rintro e w2 ⟨rfl, hB2⟩; have k2 := kr.below hB2 ltr; obtain ⟨r0, r1, r2, r3, r4, r5, r6, r7, r8, r9⟩ := k2.ten; have l2 := k2.lt)
          | (go_at_call 17; refine (top_any _ _ _ _ _ _ _ _ _ _ _ hhd2).mono ?_; rintro e w3 ⟨rfl, hB3⟩))
        have hB23 : Below wr.heap.size wr w3 := below_chain (hB2.alloc hB2.size _) hB3
        go_roundw
        case rel => exact ⟨b + 1, kd, X, ct, by go_num, hbn, hC.out.below hB23, HST.out, hF.trans (Fr.of_below hB23)⟩
        case measure => simp only [intOf]; omega
      · obtain ⟨x, at_, hpt, hx1, hx2, hx3, ha0, ha1, ha2⟩ := place_ok hP2 hi0 (show (b : Int) < hd P - 1 by omega)
        obtain ⟨xn, rfl⟩ : ∃ xn : Nat, x = (xn : Int) := ⟨x.toNat, by omega⟩
        obtain ⟨an, rfl⟩ : ∃ an : Nat, at_ = (an : Int) := ⟨at_.toNat, by omega⟩
        have hbt : ((b : Int) == hd P - 1) = false := by rw [beq_eq_false_iff_ne]; exact htop
        have hkd := (st_kd hS.out (by omega) hpt hx3).1
        have hkn : kd (xn : Int) = an := by omega
        have HST := Lib.hid (st_step hP2 hS.out (by omega) hpt hx3 rfl)
        have HPT := Lib.hid hpt
        have hbn : b + 1 ≤ hn := by omega
        have hxl : xn < hn := by omega
        have hxl' : (xn : Int) < (hn : Int) := by omega
        have hx0 : (0 : Int) ≤ (xn : Int) := Int.natCast_nonneg _
        have hc0 := hC.out.cell hxl
        rw [hkn] at hc0
        have hf0 := hC.out.froz xn
        have hqr := hC.out.lt
        have hsp := hW1.size
        have v1 := bits_and an (by omega)
        have v4 : bits .or .i64 ((2 : Int) ^ an - 1) (wrap64 ((2 : Int) ^ an)) = 2 ^ (an + 1) - 1 := bits_or' an (by omega)
        have v3 : IntKind.u64.wrap (an : Int) = (an : Int) := u64_small an (by omega)
        clear hpt htop hHN hkd hkn
        go_wp2_with (first
          | (go_at_call 15; refine (parent_any _ P B b hP2 hB (by omega) a c HIr.out).mono ?_; rw [HPT.out]; rintro e w2 ⟨rfl, hB2⟩; have k2 := kr.below hB2 ltr; obtain ⟨r0, r1, r2, r3, r4, r5, r6, r7, r8, r9⟩ := k2.ten; have l2 := k2.lt; have m2 := (hB2.cell (p := ⟨w0.heap.size + 1, xn, none⟩) hqr).trans hc0; have z2 := (hB2.frozen (p := ⟨w0.heap.size + 1, xn, none⟩) hqr).trans hf0; have q2 := Nat.lt_of_lt_of_le hqr hB2.size)
          | (go_at_call 17; refine (top_any _ _ _ _ _ _ _ _ _ _ _ hhd2).mono ?_; rintro e w3 ⟨rfl, hB3⟩; have k3 := (k2.alloc _).below hB3 (k2.alloc _).lt; obtain ⟨s0, s1, s2, s3, s4, s5, s6, s7, s8, s9⟩ := k3.ten; have l3 := k3.lt; have kk : Blk w3 w2.heap.size 38 #[.int .i64 (xn : Int), .int .i64 (an : Int)] := Blk.below (heap_alloc_new w2 _) hB3 (by simp); obtain ⟨t0, t1, y0, y1⟩ := kk.two; have l4 := kk.lt; have m3 := (hB3.cell (p := ⟨w0.heap.size + 1, xn, none⟩) (by simp; omega)).trans ((World.cell?_alloc_past _ _ _ q2).trans m2); have z3 := (hB3.frozen (p := ⟨w0.heap.size + 1, xn, none⟩) (by simp; omega)).trans ((World.frozen?_alloc_old _ _ _ (Nat.ne_of_lt q2)).trans z2)))
        have u1 : ¬ (xn : Int) ≤ (b : Int) := by omega
        have u2 : ¬ hd P ≤ (xn : Int) := by omega
        have u3 : ¬ (an : Int) < 0 := by omega
        have u4 : ¬ 16 ≤ (an : Int) := by omega
        by_cases hpb : P ≤ (b : Int)
        · have u5 : ¬ 8 ≤ (an : Int) := by have := ha2 hpb; omega
          go_quiet (fail)
          go_wp2
          go_region
          have hB23 : Below wr.heap.size wr w3 := below_chain (hB2.alloc hB2.size _) hB3
          have hB23d : Below wr.heap.size wr (w3.drewN (nq + 1)) := below_drewN hB23 _
          have HCn := Lib.hid ((hC.out.below hB23d).set xn (an + 1))
          have hFn := (hF.trans (Fr.of_below hB23d)).setCell (x := ⟨w0.heap.size + 1, xn, none⟩) (Or.inl rfl) (.int .i64 ((2 : Int) ^ (an + 1) - 1))
          go_wp2
          go_roundw
          case rel => exact ⟨b + 1, _, _, _, by go_num, hbn, HCn.out, HST.out, hFn⟩
          case measure => simp only [intOf]; omega
        · have u5 : ¬ P ≤ (b : Int) := hpb
          go_quiet (fail)
          go_wp2
          go_region
          have hB23 : Below wr.heap.size wr w3 := below_chain (hB2.alloc hB2.size _) hB3
          have hB23d : Below wr.heap.size wr (w3.drewN (nq + 1)) := below_drewN hB23 _
          have HCn := Lib.hid ((hC.out.below hB23d).set xn (an + 1))
          have hFn := (hF.trans (Fr.of_below hB23d)).setCell (x := ⟨w0.heap.size + 1, xn, none⟩) (Or.inl rfl) (.int .i64 ((2 : Int) ^ (an + 1) - 1))
          go_wp2
          go_roundw
          case rel => exact ⟨b + 1, _, _, _, by go_num, hbn, HCn.out, HST.out, hFn⟩
          case measure => simp only [intOf]; omega
    · have hbe : (b : Int) = hd P := by omega
      have hX := hS.out.fin (by omega)
      have hlt' : ¬ (b : Int) < hd P := by omega
      have Hlo : Hid (∀ y, P ≤ y → y < hd P → 1 ≤ kd y) := fun y h1 h2 => hS.out.lo y h1 (by omega)
      have hPn : P ≤ hd P := le_hd hP2
      have hsp := hW1.size
      have w1' : 12 + 4 * B ≤ 256 * hds B := by unfold hds; omega
      have w2' : hd P + hds B + B + B ≤ 65536 := by omega
      have w3' : (hd P + hds B == hd P + hds B) = true := by simp
      have w4' : (hd P + hds B + B == hd P + hds B + B) = true := by simp
      have w5' : (hd P + hds B + B + B == hd P + hds B + B + B) = true := by simp
      have hBWr : Below W.heap.size W wr := by
        refine ⟨hF.os.trans hW1.os, hF.tape.trans hW1.tape, hF.output.trans hW1.output, Nat.le_trans hW1.size hF.size, fun q hq => ?_⟩
        exact (hF.block q (Nat.lt_of_lt_of_le hq hW1.size) (by show ¬ q = _; omega)).trans (hW1.block q hq)
      clear hbe hX hS hHN
      go_wp2
      go_loop [11] (fun t => ∃ y : Int, t = .int .i64 y ∧ P ≤ y ∧ y ≤ hd P) (fun t => (hd P - intOf t).toNat)
      case atStart => exact ⟨P, rfl, by omega, hPn⟩
      case round =>
        obtain ⟨y, rfl, y1, y2⟩ := hrel
        by_cases hyl : y < hd P
        · have hk := Hlo.out y y1 hyl
          obtain ⟨yn, rfl⟩ : ∃ yn : Nat, y = (yn : Int) := ⟨y.toNat, by omega⟩
          have hy0 : (0 : Int) ≤ (yn : Int) := Int.natCast_nonneg _
          have hyn : yn < hn := by have := HHN.out; omega
          have hyn' : (yn : Int) < (hn : Int) := by omega
          have hc1 := hC.out.cell hyn
          have hp1 := pow_some _ hk
          go_wp2
          go_round
          case rel => exact ⟨(yn : Int) + 1, by go_num, by omega, by omega⟩
          case measure => simp only [intOf]; omega
        · go_wp2_with (go_at_call 12; refine (awake_any _).mono ?_; rintro e w7 ⟨rfl, hB7⟩)
          go_ret
          exact ⟨rfl, below_chain hBWr hB7⟩

/-! The row's step. -/
theorem own : ownKnob Try.prog.godebug = none := by kernel_rfl
theorem laidOut : laidOutB Try.prog = true := by kernel_rfl
set_option linter.unusedVariables false
set_option maxRecDepth 100000 in
theorem lifted (os : Os) (started : os.Started) (H : Type) (enc : TypeId × Value → H) :
    ReturnsInHanded {} Try.checked os 8 .any (Rows.planApartSpec.pre6 enc Try.prog Try.f8 Rows.planApartRow.domain false) (Rows.planApartSpec.post enc Try.prog Try.f8 false true false false) := by
  refine returnsInHanded_of_change_sized (C := Try.checked) own started (by kernel_rfl) Try.func8
    (ChangeSpec.witness6 (enc := enc) (C := Try.checked) false ⟨#[], #[.int .i64 0, .int .i64 0], []⟩ 8 (by kernel_rfl) (by kernel_rfl) (by kernel_rfl) (by kernel_rfl)) ?_
  intro W base args ds gs before hval0 hW _ hsz0 _
  have hsz : (DataW.weightsEach Try.prog (Try.f8.params.toList ++ Rows.planApartSpec.plain.varTypes Try.prog) (ds ++ gs)).all (· ≤ reachBytes) = true := hsz0
  clear hsz0
  have hval : ∀ (j : Nat) t v, Try.f8.params[j]? = some t → args[j]? = some v → Value.okWide Try.prog W .any base t v := hval0
  have hW' := hW
  obtain ⟨p, q, hA0, hV, rfl, hfz, hnd⟩ := hW
  have hA : DataW.TrodAll enc Try.prog W 0 (fun _ => true) true Try.f8.params.toList args.toList ds p := hA0
  rw [Try.params8] at hA hval hsz
  obtain ⟨v0, vs0, d0, ds0, p0, q0, hargs, rfl, rfl, h0, r0⟩ := trodAll_cons hA
  obtain ⟨v1, vs1, d1, ds1, p1, q1, rfl, rfl, rfl, h1, r1⟩ := trodAll_cons r0
  obtain ⟨rfl, rfl, rfl⟩ := trodAll_nil r1
  obtain rfl : args = #[v0, v1] := by cases args; simp_all
  obtain ⟨rfl, rfl⟩ := trodVars_none hV
  obtain ⟨a0, rfl, rfl, rfl, w0⟩ := open_int Try.underlying3 (hval 0 3 v0 rfl rfl) h0
  obtain ⟨a1, rfl, rfl, rfl, w1⟩ := open_int Try.underlying3 (hval 1 3 v1 rfl rfl) h1
  clear hA0 hval0
  refine (walk W a0 w0 a1 w1).mono fun e W' ⟨he, bel⟩ => ?_
  subst he
  exact ⟨_, rfl, _, _, _, [], _, [], hW', trodAll_mk1 (shut_bool Try.underlying4 _), (trodAll_cons_mk (shut_int Try.underlying3 w0) (trodAll_cons_mk (shut_int Try.underlying3 w1) trodAll_mk0)), rfl, bel.frame _, fun h => by cases h⟩

theorem over : Rows.planApartRow.holds Try.pinned (OpenSpec.ofChange Rows.planApartSpec) :=
  OpenClaim.holds_of_wide 8 Try.f8 rfl rfl rfl rfl rfl rfl rfl ⟨rfl, rfl, rfl, rfl, rfl⟩ rfl rfl rfl rfl rfl (by kernel_rfl) Try.func8 (by kernel_rfl)
    (of_decide_eq_true (by kernel_rfl)) (by unfold Func.isWrapper; first | (rw [if_pos (by decide +kernel)]; kernel_rfl) | (rw [if_neg (by decide +kernel)]; exact ⟨rfl, rfl⟩))
    (fun os started H enc _ => lifted os started H enc)

/-- THE STATEMENT. -/
theorem proved : Rows.PlanApartSaid := over

#print axioms proved
end Go.Proofs.Ytnkoniagakhacaa.planApart
