/- Contract of made. -/
import Derived.Test.YtnkoniagakhacaaPj
namespace Go.Proofs.Ytnkoniagakhacaa
open Go.RowKit Go.Deep
set_option maxRecDepth 100000
theorem hd_le {P : Int} (h : 1 ≤ P ∧ P ≤ 4096) : 3 ≤ hd P ∧ hd P ≤ 5000 := by
  have := nod_le h.1 h.2
  have hc : 1 ≤ cnt P ∧ cnt P ≤ 256 := by unfold cnt; omega
  unfold hd; omega
theorem hds_le {B : Int} (h : 1 ≤ B ∧ B ≤ 256) : 1 ≤ hds B ∧ hds B ≤ 5 := by unfold hds; omega
theorem IsI.fr' {w w' : World} {a : Option Addr} {len cap : Nat} {zs : List Int} (h : IsI w a len cap zs) {S : Nat → Prop} (hb : Fr S w w') (ha : ∀ x, a = some x → ¬ S x.block) : IsI w' a len cap zs := by
  refine ⟨h.hlen, h.hcap, h.hmax, h.wf, ?_⟩
  rcases h.at_ with e | ⟨b, off, rfl, hlt, hc⟩
  · exact Or.inl e
  · exact Or.inr ⟨b, off, rfl, Nat.lt_of_lt_of_le hlt hb.size, fun i hi => (hb.cell (p := ⟨b, off + i, none⟩) hlt (ha ⟨b, off, none⟩ rfl)).trans (hc i hi)⟩
set_option maxHeartbeats 1000000 in
theorem made_any (w : World) (pg bd : Int) (h1 : -9223372036854775808 ≤ pg ∧ pg ≤ 9223372036854775807) (h2 : -9223372036854775808 ≤ bd ∧ bd ≤ 9223372036854775807) :
    Calls Try.prog 13 #[.int .i64 pg, .int .i64 bd] w fun e w' => ∃ (P B : Int) (a : Option Addr) (c : Nat), e = .returned (.tuple #[planV P B (.slice a (levs (cnt P)).length c), .bool true]) ∧ (1 ≤ P ∧ P ≤ 4096) ∧ (1 ≤ B ∧ B ≤ 256) ∧ P = 1 + pg % 4096 ∧ B = 1 + bd % 256 ∧ IsI w' a (levs (cnt P)).length c (levs (cnt P)) ∧ Below w.heap.size w w' := by
  have b1 := Int.emod_nonneg pg (show (4096 : Int) ≠ 0 by omega)
  have b2 := Int.emod_lt_of_pos pg (show (0 : Int) < 4096 by omega)
  have b3 := Int.emod_nonneg bd (show (256 : Int) ≠ 0 by omega)
  have b4 := Int.emod_lt_of_pos bd (show (0 : Int) < 256 by omega)
  have hP2 : 1 ≤ 1 + pg % 4096 ∧ 1 + pg % 4096 ≤ 4096 := by omega
  have hB2 : 1 ≤ 1 + bd % 256 ∧ 1 + bd % 256 ≤ 256 := by omega
  go_enter Try.func13, Try.ntmps13
  go_wp2_with (first
    | (go_at_call 14; first | (with_reducible refine (pick_any pg 4096 (by omega) (by omega) h1 _).mono ?_; rintro e w' ⟨rfl, rfl⟩) | (with_reducible refine (pick_any bd 256 (by omega) (by omega) h2 _).mono ?_; rintro e w' ⟨rfl, rfl⟩)))
  generalize hP : 1 + pg % 4096 = P at hP2 ⊢
  generalize hB : 1 + bd % 256 = B at hB2 ⊢
  clear b1 b2 b3 b4 h1 h2
  have HP := Lib.hid hP.symm
  have HB := Lib.hid hB.symm
  clear hP hB
  refine (planOf_in _ P B hP2 hB2).mono ?_
  rintro e w1 ⟨v, rfl, hown, hB1⟩
  obtain ⟨va, vc, rfl, hI, hva⟩ := isI_own hown (levs_wf hP2)
  have k0 : Blk w1 w.heap.size 24 #[.int .i64 0, .int .i64 0, .int .i64 0, .slice none 0 0, .int .i64 0, .int .i64 0, .int .i64 0, .int .i64 0, .int .i64 0, .int .i64 0] := Blk.below (heap_alloc_new w _) hB1 (by simp)
  obtain ⟨p0, p1, p2, p3, p4, p5, p6, p7, p8, p9⟩ := k0.ten
  have q0 := k0.froz 0
  have q1 := k0.froz 1
  have q2 := k0.froz 2
  have q3 := k0.froz 3
  have q4 := k0.froz 4
  have q5 := k0.froz 5
  have q6 := k0.froz 6
  have q7 := k0.froz 7
  have q8 := k0.froz 8
  have q9 := k0.froz 9
  have lt0 := k0.lt
  go_wp2
  refine bodyPost_ret (results_cell_tmp rfl _ _ _ _ _ _ rfl (Blk.alloc (Blk.put k0 _ _ _ _ _ _ _ _ _ _) _) rfl rfl (by kernel_rfl)) rfl ?_
  have hBB : Below w.heap.size w w1 := below_chain ((Below.refl _ w).alloc (Nat.le_refl _) _) hB1
  refine ⟨P, B, va, vc, rfl, hP2, hB2, HP.out, HB.out, ?_, ?_⟩
  · refine hI.fr' (S := fun q => q = w.heap.size) ?_ (fun x hx => by have := hva x hx; simp at this; show ¬ x.block = _; omega)
    refine Fr.alloc ?_ _
    iterate 10 (refine Fr.setCell (S := fun q => q = w.heap.size) ?_ (Or.inl rfl) _)
    exact Fr.refl _ _
  · refine Below.alloc ?_ (by simp; exact hBB.size) _
    iterate 10 (refine Below.setCell ?_ (by simp) _)
    exact hBB
end Go.Proofs.Ytnkoniagakhacaa
