/- PlanGrows: for every pages, every budget, every list and every page more the law returns true. -/
import Derived.Test.YtnkoniagakhacaaQu
import Derived.Test.YtnkoniagakhacaaPn
import Derived.Deep.RegionHeld3
import Derived.ProofKit
import Derived.OpenShut
import Derived.SizedLaws
namespace Go.Proofs.Ytnkoniagakhacaa.planGrows
open Go.ChangeShapes Go.WideShapes Go.ChangeAt Go.RowKit Go.Deep
set_option maxRecDepth 100000
def nears (P : Int) (A : List Int) : List Int := A.map (· % P)
theorem nears_snoc (P : Int) {A : List Int} {i : Nat} (h : i < A.length) : nears P (A.take (i + 1)) = nears P (A.take i) ++ [A.getD i 0 % P] := by
  unfold nears; rw [take_snocI h, List.map_append]; rfl
open Go.Proofs.Ytnkoniagakhacaa.IM in
theorem add_keys (S : List (Int × Value)) (x : Int) : keysL (addL S x) = if x ∈ keysL S then keysL S else keysL S ++ [x] := keys_upd S x _
open Go.Proofs.Ytnkoniagakhacaa.IM in
theorem len_keys (S : List (Int × Value)) : (keysL S).length = S.length := by simp [keysL]
open Go.Proofs.Ytnkoniagakhacaa.IM in
theorem add_len (S : List (Int × Value)) (x : Int) : S.length ≤ (addL S x).length ∧ (addL S x).length ≤ S.length + 1 := by
  rw [← len_keys, ← len_keys, add_keys]; split <;> simp
open Go.Proofs.Ytnkoniagakhacaa.IM in
theorem add_old (S : List (Int × Value)) (x y : Int) (h : y ∈ keysL S) : y ∈ keysL (addL S x) := by
  rw [add_keys]; split
  · exact h
  · simp [h]
open Go.Proofs.Ytnkoniagakhacaa.IM in
theorem add_new (S : List (Int × Value)) (x : Int) : x ∈ keysL (addL S x) := by
  rw [add_keys]; split
  · assumption
  · simp
open Go.Proofs.Ytnkoniagakhacaa.IM in
theorem addAll_len : ∀ (l : List Int) (S : List (Int × Value)), S.length ≤ (addAll S l).length ∧ (addAll S l).length ≤ S.length + l.length
  | [], S => by simp [addAll]
  | x :: l, S => by
    have h1 := add_len S x
    have h2 := addAll_len l (addL S x)
    show S.length ≤ (addAll (addL S x) l).length ∧ (addAll (addL S x) l).length ≤ S.length + (l.length + 1)
    omega
open Go.Proofs.Ytnkoniagakhacaa.IM in
theorem addAll_old : ∀ (l : List Int) (S : List (Int × Value)) (y : Int), y ∈ keysL S → y ∈ keysL (addAll S l)
  | [], _, _, h => h
  | x :: l, S, y, h => addAll_old l (addL S x) y (add_old S x y h)
open Go.Proofs.Ytnkoniagakhacaa.IM in
theorem addAll_new : ∀ (l : List Int) (S : List (Int × Value)), ∀ y ∈ l, y ∈ keysL (addAll S l)
  | x :: l, S, y, h => by
    rcases List.mem_cons.1 h with rfl | h
    · exact addAll_old l _ _ (add_new S _)
    · exact addAll_new l (addL S x) y h
open Go.Proofs.Ytnkoniagakhacaa.IM in
theorem addAll_same : ∀ (l : List Int) (S : List (Int × Value)), (∀ y ∈ l, y ∈ keysL S) → keysL (addAll S l) = keysL S
  | [], _, _ => rfl
  | x :: l, S, h => by
    have h1 : keysL (addL S x) = keysL S := by rw [add_keys, if_pos (h x (by simp))]
    have := addAll_same l (addL S x) (fun y hy => by rw [h1]; exact h y (List.mem_cons_of_mem _ hy))
    show keysL (addAll (addL S x) l) = keysL S
    rw [this, h1]
open Go.Proofs.Ytnkoniagakhacaa.IM in
theorem addAll_nodup : ∀ (l : List Int) (S : List (Int × Value)), (keysL S).Nodup → (keysL (addAll S l)).Nodup
  | [], _, h => h
  | x :: l, S, h => addAll_nodup l _ (nodup_upd h x _)
open Go.Proofs.Ytnkoniagakhacaa.IM in
theorem addAll_mem : ∀ (l : List Int) (S : List (Int × Value)) (y : Int), y ∈ keysL (addAll S l) → y ∈ keysL S ∨ y ∈ l
  | [], _, _, h => Or.inl h
  | x :: l, S, y, h => by
    rcases addAll_mem l (addL S x) y h with h | h
    · rw [add_keys] at h
      split at h
      · exact Or.inl h
      · rcases List.mem_append.1 h with h | h
        · exact Or.inl h
        · simp at h; exact Or.inr (by simp [h])
    · exact Or.inr (List.mem_cons_of_mem _ h)
theorem bound_len : ∀ (n : Nat) (l : List Int), l.Nodup → (∀ x ∈ l, 0 ≤ x ∧ x < n) → l.length ≤ n
  | 0, l, _, hb => by
    cases l with
    | nil => simp
    | cons x l => have := hb x (by simp); omega
  | n + 1, l, hn, hb => by
    by_cases hm : (n : Int) ∈ l
    · have h1 := List.length_erase_of_mem hm
      have ih := bound_len n (l.erase n) (hn.erase _) (fun x hx => by
        have h2 := (List.Nodup.mem_erase_iff hn).1 hx
        have h3 := hb x h2.2
        omega)
      omega
    · have := bound_len n l hn (fun x hx => by
        have h3 := hb x hx
        have : x ≠ n := fun e => hm (by rw [← e]; exact hx)
        omega)
      omega
open Go.Proofs.Ytnkoniagakhacaa.IM in
theorem need_nodup (P : Int) (l : List Int) : (keysL (needL P l)).Nodup := by
  have : ∀ (l : List Int) (S : List (Int × Value)), (keysL S).Nodup → (keysL (l.foldl (stepL P) S)).Nodup := by
    intro l
    induction l with
    | nil => intro S h; exact h
    | cons x l ih =>
      intro S h
      refine ih _ ?_
      unfold stepL
      split
      · exact addAll_nodup _ _ h
      · exact h
  exact this l [] (by simp [keysL])
open Go.Proofs.Ytnkoniagakhacaa.IM in
theorem need_bnd {P : Int} (hP : 1 ≤ P ∧ P ≤ 4096) (l : List Int) : ∀ y ∈ keysL (needL P l), 0 ≤ y ∧ y < hd P := by
  have hh : P ≤ hd P := by
    have := nod_le hP.1 hP.2
    unfold hd; have : 1 ≤ cnt P := by unfold cnt; omega
    omega
  have : ∀ (l : List Int) (S : List (Int × Value)), (∀ y ∈ keysL S, 0 ≤ y ∧ y < hd P) → ∀ y ∈ keysL (l.foldl (stepL P) S), 0 ≤ y ∧ y < hd P := by
    intro l
    induction l with
    | nil => intro S h; exact h
    | cons x l ih =>
      intro S h
      refine ih _ ?_
      unfold stepL
      split
      · rename_i hx
        intro y hy
        rcases addAll_mem _ _ y hy with h1 | h1
        · exact h y h1
        · rcases List.mem_cons.1 h1 with rfl | h1
          · omega
          · have := path_lt hP hx y h1; omega
      · exact h
  exact this l [] (by simp [keysL])
theorem need_le {P : Int} (hP : 1 ≤ P ∧ P ≤ 4096) (l : List Int) : ((needL P l).length : Int) ≤ hd P := by
  have h0 := hd_le hP
  have := bound_len (hd P).toNat _ (need_nodup P l) (fun y hy => by have := need_bnd hP l y hy; omega)
  rw [len_keys] at this
  omega
theorem need_app (P : Int) (l : List Int) (q : Int) : needL P (l ++ [q]) = stepL P (needL P l) q := by
  unfold needL; rw [List.foldl_append]; rfl
theorem need_more {P q : Int} (hq : 0 ≤ q ∧ q < P) (l : List Int) : (needL P l).length ≤ (needL P (l ++ [q])).length ∧ (needL P (l ++ [q])).length ≤ (needL P l).length + 2 + (levs (cnt P)).length := by
  rw [need_app]
  unfold stepL
  rw [if_pos hq]
  have h1 := addAll_len (q :: path P q) (needL P l)
  have h2 := path_len P q
  simp only [List.length_cons] at h1
  omega
theorem need_again {P q : Int} (hq : 0 ≤ q ∧ q < P) (l : List Int) : (needL P ((l ++ [q]) ++ [q])).length = (needL P (l ++ [q])).length := by
  rw [need_app P (l ++ [q]), need_app P l]
  unfold stepL
  rw [if_pos hq, if_pos hq, ← len_keys, ← len_keys, addAll_same _ _ (addAll_new _ _)]
theorem w_c {n : Nat} (h : (n : Int) ≤ 300) : IntKind.i64.wrap ((n : Int) + 1 - 1) = (n : Int) := by rw [IntWalk.i64_in _ (by omega)]; omega
theorem w_a {n h : Int} (h1 : n ≤ h) (h2 : h ≤ 5000) (h0 : 0 ≤ n) : wrap64 (n + 2) = n + 2 := IntWalk.wrap64_in _ (by omega)
theorem w_b {n h : Int} {l : Nat} (h1 : n ≤ h) (h2 : h ≤ 5000) (h0 : 0 ≤ n) (hl : l ≤ 3) : wrap64 (n + 2 + (l : Int)) = n + 2 + (l : Int) := IntWalk.wrap64_in _ (by omega)
set_option maxHeartbeats 4000000 in
theorem walk (W : World) (pg : Int) (hp : (Lit.int .i64 pg).wf = true) (bd : Int) (hb : (Lit.int .i64 bd).wf = true) (x : Option Addr) (len2 cap2 : Nat) (A : List Int) (hA : IsI W x len2 cap2 A) (_r : len2 * 8 ≤ 140737488351232) (more : Int) (hmo : (Lit.int .i64 more).wf = true) :
    Calls Try.prog 7 #[.int .i64 pg, .int .i64 bd, .slice x len2 cap2, .int .i64 more] W fun e w' => e = .returned (.bool true) ∧ Below W.heap.size W w' := by
  have hmo' := bounds_i64 hmo
  obtain rfl := hA.hlen
  have hcA : Hid (∀ i, i < A.length → ∃ b off, x = some ⟨b, off, none⟩ ∧ b < W.heap.size ∧ W.cell? ⟨b, off + i, none⟩ = some (.int .i64 (A.getD i 0))) := by
    intro i hi
    rcases hA.at_ with e | ⟨b, off, e, hb, hc⟩
    · rw [e] at hi; simp at hi
    · exact ⟨b, off, e, hb, hc i hi⟩
  have HWF := Lib.hid hA.wf
  have hca := hA.hcap
  obtain ⟨i0, hi, hz0, hz1, hz2⟩ := info_parts infoIntP
  clear hA
  go_enter Try.func7, Try.ntmps7
  go_wp2_with fail
  refine (made_any _ pg bd (bounds_i64 hp) (bounds_i64 hb)).mono ?_
  rintro e w0 ⟨P, B, a, c, rfl, hP, hB, -, -, hI, hB0⟩
  clear hp hb hmo
  have hhd := hd_le hP
  have hls := levs_short (cnt P) (by unfold cnt; omega)
  by_cases h3 : 300 < (A.length : Int)
  · go_wp2_with (go_at_call 12; refine (awake_any _).mono ?_; rintro e w2 ⟨rfl, hB2⟩)
    go_ret
    exact ⟨rfl, below_chain (hB0.alloc hB0.size _) hB2⟩
  · obtain ⟨w1, hw1⟩ : ∃ w1, w1 = w0.alloc (.cells #[.int .i64 P, .int .i64 B, .int .i64 (cnt P), .slice a (levs (cnt P)).length c, .int .i64 (nod P), .int .i64 (hd P), .int .i64 (hds B), .int .i64 (hd P + hds B), .int .i64 (hd P + hds B + B), .int .i64 (hd P + hds B + B + B)] 24) := ⟨_, rfl⟩
    have hB1 : Below W.heap.size W w1 := by rw [hw1]; exact hB0.alloc hB0.size _
    have k0 : Blk w1 w0.heap.size 24 #[.int .i64 P, .int .i64 B, .int .i64 (cnt P), .slice a (levs (cnt P)).length c, .int .i64 (nod P), .int .i64 (hd P), .int .i64 (hds B), .int .i64 (hd P + hds B), .int .i64 (hd P + hds B + B), .int .i64 (hd P + hds B + B + B)] := by rw [hw1]; exact heap_alloc_new w0 _
    have HI := Lib.hid (show IsI w1 a (levs (cnt P)).length c (levs (cnt P)) by rw [hw1]; exact hI.same ((Below.refl _ _).alloc (Nat.le_refl _) _))
    have lt1 := k0.lt
    go_wp2
    rw [← hw1]
    clear hw1 hI
    go_loopw [11, 12] (fun u t wr => ∃ (i : Nat), t = .int .i64 i ∧ i ≤ A.length ∧ wr.ownsRow w1.heap.size 3 1 u i (ints (nears P (A.take i))) ∧ Below w1.heap.size w1 wr) (fun _ t => fun _ => A.length - (intOf t).toNat)
    case atStart => exact ⟨0, rfl, Nat.zero_le _, ⟨rfl, Or.inl ⟨rfl, rfl⟩⟩, Below.refl _ _⟩
    case round =>
      obtain ⟨i, rfl, i1, hown, hBr⟩ := hrel
      obtain ⟨va, vc, rfl⟩ := own_shape' hown
      have hi0 : (0 : Int) ≤ (i : Int) := Int.natCast_nonneg _
      have kr := k0.below hBr lt1
      have p0 := kr.cell 0
      have p3 := kr.cell 3
      simp only [List.getElem?_toArray, List.getElem?_cons_succ, List.getElem?_cons_zero] at p0 p3
      have ltr := kr.lt
      have hBW := below_chain hB1 hBr
      by_cases hlt : i < A.length
      · have hi1 : (i : Int) < (A.length : Int) := by omega
        obtain ⟨b, off, rfl, hbl, c1'⟩ := hcA.out i hlt
        have c1 := (hBW.cell (p := ⟨b, off + i, none⟩) hbl).trans c1'
        have hwf := HWF.out (A.getD i 0) (by rw [List.getD_eq_getElem?_getD, List.getElem?_eq_getElem hlt]; exact List.getElem_mem hlt)
        have HN := Lib.hid (nears_snoc P hlt)
        generalize A.getD i 0 = y at c1 hwf HN
        have HPK := Lib.hid (pick_any y P hP.1 (by omega) hwf)
        have hc3 : i + 1 ≤ maxLen := by unfold maxLen; omega
        have hc4 : (i + 1) * 8 ≤ 140737488355328 := by omega
        generalize nears P (A.take i) = N at hown HN
        generalize hyq : y % P = yq at HPK HN
        clear c1'
        have hbw : b < wr.heap.size := Nat.lt_of_lt_of_le hbl hBW.size
        have hrs := hBr.size
        have hlw := hB1.size
        have Hnb : Hid (some b ≠ (Value.slice va i vc).ownBlock) := fun h => by have := own_base hown h.symm; omega
        have Hn0 : Hid (some w0.heap.size ≠ (Value.slice va i vc).ownBlock) := fun h => by have := own_base hown h.symm; omega
        have Hrow : Hid (∀ k, (Value.slice va i vc).ownBlock = some k → w1.heap.size ≤ k) := fun k hk => own_base hown hk
        go_wp2_with fail
        go_region_held3 (fun w' => w'.cell? ⟨b, off + i, none⟩ = some (.int .i64 y) ∧ w'.cell? ⟨w0.heap.size, 0, none⟩ = some (.int .i64 P))
          (first | go_keep | exact ⟨c1, p0⟩ | exact ⟨c4, p4⟩)
          (first | (go_at_call 14; refine (HPK.out _).mono ?_; rintro e w' ⟨rfl, rfl⟩) | (refine step_append_lies _ (by rfl) _ _ _ (by rfl) w1.heap.size 3 i0 _ 1 8 Try.underlying22 hi hz0 hz1 hz2 rfl (by omega) (.slice va i vc) i (ints N) (by rfl) ((hown.alloc _).drew) ⟨wr.heap.size, 0, none⟩ 1 1 [.int .i64 yq] (by rfl) (by rfl) (World.news_of_block (cs := #[.int .i64 yq]) (t := 3) (fr := (0, 0)) (heap_alloc_new wr _)) (by simp [Value.oneCell']) (by omega) (by omega) (by omega) (by simp; omega) (wr.heap.size + 1) (by simp) ?_; intro gg cap w4 hown4 hgrow4 hat4 hlt4; have c4 := World.grownBy.cell hgrow4 ((World.cell?_alloc_past _ _ _ hbw).trans c1) Hnb.out; have p4 := World.grownBy.cell hgrow4 ((World.cell?_alloc_past _ _ _ ltr).trans p0) Hn0.out))
        have hB4 := ((hBr.alloc hrs (.cells #[.int .i64 yq] 3)).drew).grown hgrow4 (by simp; omega) Hrow.out
        go_wp2
        go_roundw
        case rel => exact ⟨i + 1, by go_num, by omega, by rw [HN.out]; unfold ints; rw [List.map_append]; exact hown4, hB4⟩
        case measure => simp only [intOf]; omega
      · obtain rfl : i = A.length := by omega
        rw [List.take_length] at hown
        obtain ⟨p0', p1, p2, p3', p4, p5, p6, p7, p8, p9⟩ := kr.ten
        have hNlen : (nears P A).length = A.length := by simp [nears]
        have hNw : ∀ n ∈ nears P A, 0 ≤ n ∧ n < P := by
          intro n hn
          obtain ⟨z, hz, rfl⟩ := List.mem_map.1 hn
          exact ⟨Int.emod_nonneg _ (by omega), Int.emod_lt_of_pos _ (by omega)⟩
        generalize nears P A = N at hown hNlen hNw
        have hN2 : Hid (∀ n ∈ N, -9223372036854775808 ≤ n ∧ n ≤ 9223372036854775807) := fun n hn => by have := hNw n hn; omega
        have hq0 := Int.emod_nonneg more (show P ≠ 0 by omega)
        have hq1 := Int.emod_lt_of_pos more (show 0 < P by omega)
        have HPM := Lib.hid (pick_any more P hP.1 (by omega) hmo')
        have HQ := Lib.hid hq1
        generalize more % P = q at hq0 hq1 HPM HQ
        have HM := Lib.hid (need_more ⟨hq0, hq1⟩ N)
        have HA2 := Lib.hid (need_again ⟨hq0, hq1⟩ N)
        have HL1 := Lib.hid (need_le hP N)
        have HL2 := Lib.hid (need_le hP (N ++ [q]))
        have hN3 : Hid (∀ n ∈ N ++ [q], -9223372036854775808 ≤ n ∧ n ≤ 9223372036854775807) := fun n hn => by
          rcases List.mem_append.1 hn with h | h
          · exact hN2.out n h
          · simp at h; omega
        have hN4 : Hid (∀ n ∈ (N ++ [q]) ++ [q], -9223372036854775808 ≤ n ∧ n ≤ 9223372036854775807) := fun n hn => by
          rcases List.mem_append.1 hn with h | h
          · exact hN3.out n h
          · simp at h; omega
        rw [← hNlen] at hown
        obtain ⟨za, zc, hzz, hZ, -⟩ := isI_own hown hN2.out
        cases hzz
        have hZ' : IsI wr va A.length vc N := by rw [← hNlen]; exact hZ
        rw [hNlen] at hown
        have HNL := Lib.hid hNlen; clear hNlen hZ
        go_wp2_with fail
        refine (need_any _ P B hP hB a c (HI.out.same hBr) va A.length vc N hZ' (by omega)).mono ?_
        rintro e w2 ⟨rfl, hB2⟩
        have k2 := kr.below hB2 ltr
        have l2 := k2.lt
        have hown2 := own_below hown hB2
        have hB12 := below_chain hBr hB2
        have HI2 := Lib.hid (HI.out.same hB12)
        have hs2 := hB12.size
        have Hn2 : Hid (some w0.heap.size ≠ (Value.slice va A.length vc).ownBlock) := fun h => by have := own_base hown2 h.symm; omega
        have Hr2 : Hid (∀ k, (Value.slice va A.length vc).ownBlock = some k → w1.heap.size ≤ k) := fun k hk => own_base hown2 hk
        clear p0 p0' p1 p2 p3 p3' p4 p5 p6 p7 p8 p9 hown kr hZ' hB2
        obtain ⟨p0, p1, p2, p3, p4, p5, p6, p7, p8, p9⟩ := k2.ten
        generalize hn0 : (needL P N).length = n0 at HM HL1 ⊢
        clear hn0
        go_wp2_with (first
          | (go_at_call 14; refine (HPM.out _).mono ?_; rintro e w' ⟨rfl, rfl⟩)
          | (at_builtin; go_must (refine wpList_append_own _ rfl _ _ 22 rfl w1.heap.size 3 i0 (.int .i64 0) 1 8 Try.underlying22 hi hz0 hz1 hz2 rfl (by decide) _ _ _ rfl (hown2.alloc _) ⟨_, 0, none⟩ 1 1 [.int .i64 q] rfl rfl (World.news_of_block (cs := #[.int .i64 q]) (t := 3) (fr := (0, 0)) (heap_alloc_new _ _)) (by simp [Value.oneCell']) (by unfold maxLen; omega) (by omega) (by simp; omega) ?_); intro v3 w3 hown3 hgrow3 hnil3; obtain ⟨g, gc, rfl, hg1, hg2, hg3, hg4, hg5⟩ := own_cellsI hown3 (by omega); have k3 := (k2.alloc _).grown hgrow3 Hn2.out; have hB13 := (hB12.alloc hs2 _).grown hgrow3 (by simp; omega) Hr2.out; have l3 := k3.lt; obtain ⟨r0, r1, r2, r3, r4, r5, r6, r7, r8, r9⟩ := k3.ten))
        have hcl := hg5 A.length (.int .i64 q) (by
          have := HNL.out
          simp [ints, this])
        have hown3' : w3.ownsRow w1.heap.size 3 1 (.slice (some ⟨g, 0, none⟩) (A.length + 1) gc) (A.length + 1) (ints (N ++ [q])) := by
          unfold ints; rw [List.map_append]; exact hown3
        have hZ3 : IsI w3 (some ⟨g, 0, none⟩) (A.length + 1) gc (N ++ [q]) := by
          have h1 : (N ++ [q]).length = A.length + 1 := by rw [List.length_append, HNL.out]; rfl
          have h2 := hown3'
          rw [← h1] at h2
          obtain ⟨za, zc, hzz, hZ, -⟩ := isI_own h2 hN3.out
          cases hzz
          rw [← h1]; exact hZ
        clear hg5 hown3 hgrow3 hnil3
        refine (need_any _ P B hP hB a c (HI.out.same hB13) (some ⟨g, 0, none⟩) (A.length + 1) gc (N ++ [q]) hZ3 (by omega)).mono ?_
        rintro e w4 ⟨rfl, hB4⟩
        have k4 := k3.below hB4 l3
        have l4 := k4.lt
        have hown4 := own_below hown3' hB4
        have hB14 := below_chain hB13 hB4
        have hs4 := hB14.size
        have hcl4 := (hB4.cell (p := ⟨g, A.length, none⟩) hg4).trans hcl
        have Hn4 : Hid (some w0.heap.size ≠ (Value.slice (some ⟨g, 0, none⟩) (A.length + 1) gc).ownBlock) := fun h => by have := own_base hown4 h.symm; omega
        have Hr4 : Hid (∀ k, (Value.slice (some ⟨g, 0, none⟩) (A.length + 1) gc).ownBlock = some k → w1.heap.size ≤ k) := fun k hk => own_base hown4 hk
        clear r0 r1 r2 r3 r4 r5 r6 r7 r8 r9 k3 hcl hZ3 hB4 p0 p1 p2 p3 p4 p5 p6 p7 p8 p9 k2 hown2 hB12 hB13
        obtain ⟨p0, p1, p2, p3, p4, p5, p6, p7, p8, p9⟩ := k4.ten
        generalize hm0 : (needL P (N ++ [q])).length = m0 at HM HL2 HA2 ⊢
        clear hm0
        have hAl : (0 : Int) ≤ (A.length : Int) := Int.natCast_nonneg _
        have e7 : wrap64 ((A.length : Int) + 1 - 1) = (A.length : Int) := by rw [IntWalk.wrap64_in _ (by omega)]; omega
        have e8 : IntKind.i64.wrap ((A.length : Int) + 1 - 1) = (A.length : Int) := by rw [IntWalk.i64_in _ (by omega)]; omega
        have e9 : (A.length : Int) < (A.length : Int) + 1 := by omega
        have e10 : IntKind.i64.wrap (A.length : Int) = (A.length : Int) := IntWalk.i64_in _ (by omega)
        clear HWF HPM HQ hq0 hq1 hca Hn2 Hr2 HI2
        have Hrow5 : Hid (∀ v5 w5, World.ownsRow w5 w1.heap.size 3 1 v5 (A.length + 1 + 1) (ints (N ++ [q]) ++ [.int .i64 q]) → ∃ g5 c5, v5 = .slice g5 (A.length + 1 + 1) c5 ∧ IsI w5 g5 (A.length + 1 + 1) c5 ((N ++ [q]) ++ [q])) := by
          intro v5 w5 h2
          have h1 : ((N ++ [q]) ++ [q]).length = A.length + 1 + 1 := by rw [List.length_append, List.length_append, HNL.out]; rfl
          have h3 : ints (N ++ [q]) ++ [.int .i64 q] = ints ((N ++ [q]) ++ [q]) := by unfold ints; rw [List.map_append (l₁ := N ++ [q])]; rfl
          rw [h3, ← h1] at h2
          obtain ⟨za, zc, hzz, hZ, -⟩ := isI_own h2 hN4.out
          exact ⟨za, zc, by rw [hzz, h1], by rw [← h1]; exact hZ⟩
        have hM := HM.out
        have hmL := HL2.out
        have hmL1 := HL1.out
        have hm1 : (n0 : Int) ≤ (m0 : Int) := by omega
        have hm2 : (m0 : Int) ≤ (n0 : Int) + 2 + ((levs (cnt P)).length : Int) := by omega
        have hn0 : (0 : Int) ≤ (n0 : Int) := Int.natCast_nonneg _
        clear HM HL1 HL2 hM e7 e8 e9 e10
        have e8 : IntKind.i64.wrap ((A.length : Int) + 1 - 1) = (A.length : Int) := w_c h3
        go_wp2_with (first
          | (at_builtin; go_must (refine wpList_append_own _ rfl _ _ 22 rfl w1.heap.size 3 i0 (.int .i64 0) 1 8 Try.underlying22 hi hz0 hz1 hz2 rfl (by decide) _ _ _ rfl (hown4.alloc _) ⟨_, 0, none⟩ 1 1 [.int .i64 q] rfl rfl (World.news_of_block (cs := #[.int .i64 q]) (t := 3) (fr := (0, 0)) (heap_alloc_new _ _)) (by simp [Value.oneCell']) (by unfold maxLen; omega) (by omega) (by simp; omega) ?_); intro v5 w5 hown5 hgrow5 hnil5; obtain ⟨g5, c5, hv5, hZ5⟩ := Hrow5.out v5 w5 hown5; subst hv5; have k5 := (k4.alloc _).grown hgrow5 Hn4.out; have hB15 := (hB14.alloc hs4 _).grown hgrow5 (by simp; omega) Hr4.out; have l5 := k5.lt; clear hown5 hgrow5 hnil5; obtain ⟨r0, r1, r2, r3, r4, r5, r6, r7, r8, r9⟩ := k5.ten)
          | (go_at_call 21; refine (need_any _ P B hP hB a c (HI.out.same hB15) g5 (A.length + 1 + 1) c5 ((N ++ [q]) ++ [q]) hZ5 (by omega)).mono ?_; rw [HA2.out]; rintro e w6 ⟨rfl, hB6⟩; have k6 := k5.below hB6 l5; obtain ⟨s0, s1, s2, s3, s4, s5, s6, s7, s8, s9⟩ := k6.ten)
          | (go_at_call 12; refine (awake_any _).mono ?_; rintro e w7 ⟨rfl, hB7⟩))
        go_ret
        exact ⟨rfl, below_chain (below_chain hB1 (below_chain hB15 hB6)) hB7⟩

/-! The row's step. -/
theorem own : ownKnob Try.prog.godebug = none := by kernel_rfl
theorem laidOut : laidOutB Try.prog = true := by kernel_rfl
set_option linter.unusedVariables false
set_option maxRecDepth 100000 in
theorem lifted (os : Os) (started : os.Started) (H : Type) (enc : TypeId × Value → H) :
    ReturnsInHanded {} Try.checked os 7 .any (Rows.planGrowsSpec.pre6 enc Try.prog Try.f7 Rows.planGrowsRow.domain false) (Rows.planGrowsSpec.post enc Try.prog Try.f7 false true false false) := by
  refine returnsInHanded_of_change_sized (C := Try.checked) own started (by kernel_rfl) Try.func7
    (ChangeSpec.witness6 (enc := enc) (C := Try.checked) false ⟨#[], #[.int .i64 0, .int .i64 0, .slice none 0 0, .int .i64 0], []⟩ 8 (by kernel_rfl) (by kernel_rfl) (by kernel_rfl) (by kernel_rfl)) ?_
  intro W base args ds gs before hval0 hW _ hsz0 _
  have hsz : (DataW.weightsEach Try.prog (Try.f7.params.toList ++ Rows.planGrowsSpec.plain.varTypes Try.prog) (ds ++ gs)).all (· ≤ reachBytes) = true := hsz0
  clear hsz0
  have hval : ∀ (j : Nat) t v, Try.f7.params[j]? = some t → args[j]? = some v → Value.okWide Try.prog W .any base t v := hval0
  have hW' := hW
  obtain ⟨p, q, hA0, hV, rfl, hfz, hnd⟩ := hW
  have hA : DataW.TrodAll enc Try.prog W 0 (fun _ => true) true Try.f7.params.toList args.toList ds p := hA0
  rw [Try.params7] at hA hval hsz
  obtain ⟨v0, vs0, d0, ds0, p0, q0, hargs, rfl, rfl, h0, r0⟩ := trodAll_cons hA
  obtain ⟨v1, vs1, d1, ds1, p1, q1, rfl, rfl, rfl, h1, r1⟩ := trodAll_cons r0
  obtain ⟨v2, vs2, d2, ds2, p2, q2, rfl, rfl, rfl, h2, r2⟩ := trodAll_cons r1
  obtain ⟨v3, vs3, d3, ds3, p3, q3, rfl, rfl, rfl, h3, r3⟩ := trodAll_cons r2
  obtain ⟨rfl, rfl, rfl⟩ := trodAll_nil r3
  obtain rfl : args = #[v0, v1, v2, v3] := by cases args; simp_all
  obtain ⟨rfl, rfl⟩ := trodVars_none hV
  obtain ⟨a0, rfl, rfl, rfl, w0⟩ := open_int Try.underlying3 (hval 0 3 v0 rfl rfl) h0
  obtain ⟨a1, rfl, rfl, rfl, w1⟩ := open_int Try.underlying3 (hval 1 3 v1 rfl rfl) h1
  obtain ⟨a2, len2, cap2, rfl⟩ := okWide_slice Try.underlying22 (hval 2 22 v2 rfl rfl)
  have lt2 : ∀ x ∈ p2, x.block < W.heap.size := by obtain ⟨m, hm⟩ := h2; exact DataW.trod_lt m _ _ _ hm
  obtain ⟨⟨z2, w2⟩, hf2⟩ := open_i Try.underlying22 Try.underlying3 (by kernel_rfl) h2
  have rc2 := reach_slice hsz (j := 2) (e := 3) rfl rfl Try.underlying22 (k := 8) (by kernel_rfl) hf2
  clear hf2
  obtain ⟨a3, rfl, rfl, rfl, w3⟩ := open_int Try.underlying3 (hval 3 3 v3 rfl rfl) h3
  clear hA0 hval0
  refine (walk W a0 w0 a1 w1 a2 len2 cap2 z2 w2 rc2 a3 w3).mono fun e W' ⟨he, bel⟩ => ?_
  subst he
  exact ⟨_, rfl, _, _, _, [], _, [], hW', trodAll_mk1 (shut_bool Try.underlying4 _), (trodAll_cons_mk (shut_int Try.underlying3 w0) (trodAll_cons_mk (shut_int Try.underlying3 w1) (trodAll_cons_mk (Below.trod laidOut (by kernel_rfl) (of_decide_eq_true (by kernel_rfl)) h2 bel lt2) (trodAll_cons_mk (shut_int Try.underlying3 w3) trodAll_mk0)))), rfl, bel.frame _, fun h => by cases h⟩

theorem over : Rows.planGrowsRow.holds Try.pinned (OpenSpec.ofChange Rows.planGrowsSpec) :=
  OpenClaim.holds_of_wide 7 Try.f7 rfl rfl rfl rfl rfl rfl rfl ⟨rfl, rfl, rfl, rfl, rfl⟩ rfl rfl rfl rfl rfl (by kernel_rfl) Try.func7 (by kernel_rfl)
    (of_decide_eq_true (by kernel_rfl)) (by unfold Func.isWrapper; first | (rw [if_pos (by decide +kernel)]; kernel_rfl) | (rw [if_neg (by decide +kernel)]; exact ⟨rfl, rfl⟩))
    (fun os started H enc _ => lifted os started H enc)

/-- THE STATEMENT. -/
theorem proved : Rows.PlanGrowsSaid := over

#print axioms proved
end Go.Proofs.Ytnkoniagakhacaa.planGrows
