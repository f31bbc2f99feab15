/- Sets of blocks; contract of the reference's Need. -/
import Derived.Test.YtnkoniagakhacaaPn
import Derived.Deep.RegionHeld3
namespace Go.Proofs.Ytnkoniagakhacaa
open Go.RowKit Go.Deep Go.ChangeMaps
set_option maxRecDepth 100000
open Go.Proofs.Ytnkoniagakhacaa.IM in
theorem add_keys (S : List (Int × Value)) (x : Int) : keysL (addL S x) = if x ∈ keysL S then keysL S else keysL S ++ [x] := keys_upd S x _
open Go.Proofs.Ytnkoniagakhacaa.IM in
theorem len_keys (S : List (Int × Value)) : (keysL S).length = S.length := by simp [keysL]
open Go.Proofs.Ytnkoniagakhacaa.IM in
theorem add_len (S : List (Int × Value)) (x : Int) : S.length ≤ (addL S x).length ∧ (addL S x).length ≤ S.length + 1 := by
  rw [← len_keys, ← len_keys, add_keys]; split <;> simp
open Go.Proofs.Ytnkoniagakhacaa.IM in
theorem add_old (S : List (Int × Value)) (x y : Int) (h : y ∈ keysL S) : y ∈ keysL (addL S x) := by
  rw [add_keys]; split
  · exact h
  · simp [h]
open Go.Proofs.Ytnkoniagakhacaa.IM in
theorem add_new (S : List (Int × Value)) (x : Int) : x ∈ keysL (addL S x) := by
  rw [add_keys]; split
  · assumption
  · simp
open Go.Proofs.Ytnkoniagakhacaa.IM in
theorem addAll_len : ∀ (l : List Int) (S : List (Int × Value)), S.length ≤ (addAll S l).length ∧ (addAll S l).length ≤ S.length + l.length
  | [], S => by simp [addAll]
  | x :: l, S => by
    have h1 := add_len S x
    have h2 := addAll_len l (addL S x)
    show S.length ≤ (addAll (addL S x) l).length ∧ (addAll (addL S x) l).length ≤ S.length + (l.length + 1)
    omega
open Go.Proofs.Ytnkoniagakhacaa.IM in
theorem addAll_old : ∀ (l : List Int) (S : List (Int × Value)) (y : Int), y ∈ keysL S → y ∈ keysL (addAll S l)
  | [], _, _, h => h
  | x :: l, S, y, h => addAll_old l (addL S x) y (add_old S x y h)
open Go.Proofs.Ytnkoniagakhacaa.IM in
theorem addAll_new : ∀ (l : List Int) (S : List (Int × Value)), ∀ y ∈ l, y ∈ keysL (addAll S l)
  | x :: l, S, y, h => by
    rcases List.mem_cons.1 h with rfl | h
    · exact addAll_old l _ _ (add_new S _)
    · exact addAll_new l (addL S x) y h
open Go.Proofs.Ytnkoniagakhacaa.IM in
theorem addAll_same : ∀ (l : List Int) (S : List (Int × Value)), (∀ y ∈ l, y ∈ keysL S) → keysL (addAll S l) = keysL S
  | [], _, _ => rfl
  | x :: l, S, h => by
    have h1 : keysL (addL S x) = keysL S := by rw [add_keys, if_pos (h x (by simp))]
    have := addAll_same l (addL S x) (fun y hy => by rw [h1]; exact h y (List.mem_cons_of_mem _ hy))
    show keysL (addAll (addL S x) l) = keysL S
    rw [this, h1]
open Go.Proofs.Ytnkoniagakhacaa.IM in
theorem addAll_nodup : ∀ (l : List Int) (S : List (Int × Value)), (keysL S).Nodup → (keysL (addAll S l)).Nodup
  | [], _, h => h
  | x :: l, S, h => addAll_nodup l _ (nodup_upd h x _)
open Go.Proofs.Ytnkoniagakhacaa.IM in
theorem addAll_mem : ∀ (l : List Int) (S : List (Int × Value)) (y : Int), y ∈ keysL (addAll S l) → y ∈ keysL S ∨ y ∈ l
  | [], _, _, h => Or.inl h
  | x :: l, S, y, h => by
    rcases addAll_mem l (addL S x) y h with h | h
    · rw [add_keys] at h
      split at h
      · exact Or.inl h
      · rcases List.mem_append.1 h with h | h
        · exact Or.inl h
        · simp at h; exact Or.inr (by simp [h])
    · exact Or.inr (List.mem_cons_of_mem _ h)
theorem bound_len : ∀ (n : Nat) (l : List Int), l.Nodup → (∀ x ∈ l, 0 ≤ x ∧ x < n) → l.length ≤ n
  | 0, l, _, hb => by
    cases l with
    | nil => simp
    | cons x l => have := hb x (by simp); omega
  | n + 1, l, hn, hb => by
    by_cases hm : (n : Int) ∈ l
    · have h1 := List.length_erase_of_mem hm
      have ih := bound_len n (l.erase n) (hn.erase _) (fun x hx => by
        have h2 := (List.Nodup.mem_erase_iff hn).1 hx
        have h3 := hb x h2.2
        omega)
      omega
    · have := bound_len n l hn (fun x hx => by
        have h3 := hb x hx
        have : x ≠ n := fun e => hm (by rw [← e]; exact hx)
        omega)
      omega
open Go.Proofs.Ytnkoniagakhacaa.IM in
theorem need_nodup (P : Int) (l : List Int) : (keysL (needL P l)).Nodup := by
  have : ∀ (l : List Int) (S : List (Int × Value)), (keysL S).Nodup → (keysL (l.foldl (stepL P) S)).Nodup := by
    intro l
    induction l with
    | nil => intro S h; exact h
    | cons x l ih =>
      intro S h
      refine ih _ ?_
      unfold stepL
      split
      · exact addAll_nodup _ _ h
      · exact h
  exact this l [] (by simp [keysL])
open Go.Proofs.Ytnkoniagakhacaa.IM in
theorem need_bnd {P : Int} (hP : 1 ≤ P ∧ P ≤ 4096) (l : List Int) : ∀ y ∈ keysL (needL P l), 0 ≤ y ∧ y < hd P := by
  have hh : P ≤ hd P := by
    have := nod_le hP.1 hP.2
    unfold hd; have : 1 ≤ cnt P := by unfold cnt; omega
    omega
  have : ∀ (l : List Int) (S : List (Int × Value)), (∀ y ∈ keysL S, 0 ≤ y ∧ y < hd P) → ∀ y ∈ keysL (l.foldl (stepL P) S), 0 ≤ y ∧ y < hd P := by
    intro l
    induction l with
    | nil => intro S h; exact h
    | cons x l ih =>
      intro S h
      refine ih _ ?_
      unfold stepL
      split
      · rename_i hx
        intro y hy
        rcases addAll_mem _ _ y hy with h1 | h1
        · exact h y h1
        · rcases List.mem_cons.1 h1 with rfl | h1
          · omega
          · have := path_lt hP hx y h1; omega
      · exact h
  exact this l [] (by simp [keysL])
theorem need_le {P : Int} (hP : 1 ≤ P ∧ P ≤ 4096) (l : List Int) : ((needL P l).length : Int) ≤ hd P := by
  have h0 := hd_le hP
  have := bound_len (hd P).toNat _ (need_nodup P l) (fun y hy => by have := need_bnd hP l y hy; omega)
  rw [len_keys] at this
  omega
theorem need_app (P : Int) (l : List Int) (q : Int) : needL P (l ++ [q]) = stepL P (needL P l) q := by
  unfold needL; rw [List.foldl_append]; rfl
theorem need_more {P q : Int} (hq : 0 ≤ q ∧ q < P) (l : List Int) : (needL P l).length ≤ (needL P (l ++ [q])).length ∧ (needL P (l ++ [q])).length ≤ (needL P l).length + 2 + (levs (cnt P)).length := by
  rw [need_app]
  unfold stepL
  rw [if_pos hq]
  have h1 := addAll_len (q :: path P q) (needL P l)
  have h2 := path_len P q
  simp only [List.length_cons] at h1
  omega
theorem need_again {P q : Int} (hq : 0 ≤ q ∧ q < P) (l : List Int) : (needL P ((l ++ [q]) ++ [q])).length = (needL P (l ++ [q])).length := by
  rw [need_app P (l ++ [q]), need_app P l]
  unfold stepL
  rw [if_pos hq, if_pos hq, ← len_keys, ← len_keys, addAll_same _ _ (addAll_new _ _)]
/-- The reference's order. -/
def stepR (P : Int) (S : List (Int × Value)) (pg : Int) : List (Int × Value) := if 0 ≤ pg ∧ pg < P then addAll S (path P pg ++ [pg]) else S
def needR (P : Int) (l : List Int) : List (Int × Value) := l.foldl (stepR P) []
theorem needR_snoc (P : Int) {A : List Int} {i : Nat} (h : i < A.length) : needR P (A.take (i + 1)) = stepR P (needR P (A.take i)) (A.getD i 0) := by
  rw [take_snocI h]; unfold needR; rw [List.foldl_append]; rfl
theorem nodup_sub : ∀ (A B : List Int), A.Nodup → (∀ x ∈ A, x ∈ B) → A.length ≤ B.length
  | [], _, _, _ => by simp
  | a :: A, B, hn, h => by
    have h1 : a ∉ A ∧ A.Nodup := by simpa using hn
    have h2 := h a (by simp)
    have h3 := List.length_erase_of_mem h2
    have h4 := List.length_pos_of_mem h2
    have ih := nodup_sub A (B.erase a) h1.2 (fun x hx => by
      have hne : x ≠ a := fun e => h1.1 (by rw [← e]; exact hx)
      exact (List.mem_erase_of_ne hne).2 (h x (by simp [hx])))
    simp only [List.length_cons]
    omega
open Go.Proofs.Ytnkoniagakhacaa.IM in
theorem mem_addAll (l : List Int) (S : List (Int × Value)) (y : Int) : y ∈ keysL (addAll S l) ↔ y ∈ keysL S ∨ y ∈ l :=
  ⟨addAll_mem l S y, fun h => by rcases h with h | h; exact addAll_old l S y h; exact addAll_new l S y h⟩
open Go.Proofs.Ytnkoniagakhacaa.IM in
theorem both_mem (P : Int) : ∀ (l : List Int) (S T : List (Int × Value)), (∀ y, y ∈ keysL S ↔ y ∈ keysL T) → ∀ y, y ∈ keysL (l.foldl (stepL P) S) ↔ y ∈ keysL (l.foldl (stepR P) T)
  | [], _, _, h, y => h y
  | x :: l, S, T, h, y => by
    refine both_mem P l _ _ (fun z => ?_) y
    unfold stepL stepR
    split
    · rw [mem_addAll, mem_addAll, h z]; simp [or_comm]
    · exact h z
open Go.Proofs.Ytnkoniagakhacaa.IM in
theorem needR_nodup (P : Int) (l : List Int) : (keysL (needR P l)).Nodup := by
  have : ∀ (l : List Int) (S : List (Int × Value)), (keysL S).Nodup → (keysL (l.foldl (stepR P) S)).Nodup := by
    intro l
    induction l with
    | nil => intro S h; exact h
    | cons x l ih =>
      intro S h
      refine ih _ ?_
      unfold stepR
      split
      · exact addAll_nodup _ _ h
      · exact h
  exact this l [] (by simp [keysL])
/-- Both count the same. -/
theorem need_eq (P : Int) (l : List Int) : (needR P l).length = (needL P l).length := by
  have h := both_mem P l [] [] (fun _ => Iff.rfl)
  have h1 := nodup_sub _ _ (needR_nodup P l) (fun x hx => (h x).2 hx)
  have h2 := nodup_sub _ _ (need_nodup P l) (fun x hx => (h x).1 hx)
  rw [len_keys, len_keys] at h1 h2
  unfold needR needL at *
  omega
theorem infoBool : (Try.prog.info? 4).map (fun i => (i.zero, i.size, i.bytes)) = some (some (.bool false), 1, 1) := by kernel_rfl
/-- The row of flags says what is in the set. -/
def Flags (w : World) (q n : Nat) (S : List (Int × Value)) : Prop := ∃ cur, Blk w q 4 cur ∧ cur.size = n ∧ ∀ i, i < n → cur[i]? = some (.bool (decide ((i : Int) ∈ IM.keysL S)))
theorem flags_made {w : World} {q n base : Nat} (h : w.ownsRow base 4 1 (.slice (some ⟨q, 0, none⟩) n n) n (madeCells (Value.bool false).cells (n * 1)).toList) : Flags w q n [] := by
  obtain ⟨hl, ⟨e, -⟩ | ⟨g, cap, cur, e, hg, hh, hnc, hcm, hcs, ht⟩⟩ := h
  · cases e
  · cases e
    refine ⟨cur, hh, by omega, fun i hi => ?_⟩
    have h2 : cur.toList = (madeCells (Value.bool false).cells (n * 1)).toList := by
      rw [← ht, List.take_of_length_le (by simp; omega)]
    have h3 : cur = madeCells (Value.bool false).cells (n * 1) := by
      rw [← Array.toList_inj]; exact h2
    rw [h3]
    simp [madeCells, Value.cells, IM.keysL, hi, Nat.mod_one]
theorem Flags.cell {w : World} {q n : Nat} {S : List (Int × Value)} (h : Flags w q n S) {i : Nat} (hi : i < n) : w.cell? ⟨q, i, none⟩ = some (.bool (decide ((i : Int) ∈ IM.keysL S))) := by
  obtain ⟨cur, h1, h2, h3⟩ := h
  rw [h1.cell i]; exact h3 i hi
theorem Flags.froz {w : World} {q n : Nat} {S : List (Int × Value)} (h : Flags w q n S) (i : Nat) : w.frozen? ⟨q, i, none⟩ = false := by
  obtain ⟨cur, h1, h2, h3⟩ := h
  exact h1.froz i
theorem Flags.lt {w : World} {q n : Nat} {S : List (Int × Value)} (h : Flags w q n S) : q < w.heap.size := by
  obtain ⟨cur, h1, h2, h3⟩ := h
  exact h1.lt
theorem Flags.of_block {w w' : World} {q n : Nat} {S : List (Int × Value)} (h : Flags w q n S) (e : w'.heap[q]? = w.heap[q]?) : Flags w' q n S := by
  obtain ⟨cur, h1, h2, h3⟩ := h
  exact ⟨cur, by unfold Blk at h1 ⊢; rw [e]; exact h1, h2, h3⟩
theorem Flags.below {w w' : World} {q n : Nat} {S : List (Int × Value)} (h : Flags w q n S) (hB : Below w.heap.size w w') : Flags w' q n S := h.of_block (hB.block q h.lt)
theorem Flags.set {w : World} {q n : Nat} {S : List (Int × Value)} (h : Flags w q n S) (i : Nat) : Flags (w.setCell ⟨q, i, none⟩ (.bool true)) q n (addL S (i : Int)) := by
  obtain ⟨cur, h1, h2, h3⟩ := h
  refine ⟨_, h1.set i (.bool true), by simp [h2], fun j hj => ?_⟩
  rw [Array.getElem?_setIfInBounds]
  have hm : ((j : Int) ∈ IM.keysL (addL S (i : Int))) ↔ ((j : Int) ∈ IM.keysL S ∨ j = i) := by
    rw [add_keys]
    split
    · rename_i hi
      constructor
      · exact fun h => Or.inl h
      · rintro (h | rfl)
        · exact h
        · exact hi
    · rw [List.mem_append, List.mem_singleton]
      constructor
      · rintro (h | h)
        · exact Or.inl h
        · exact Or.inr (by omega)
      · rintro (h | h)
        · exact Or.inl h
        · exact Or.inr (by omega)
  by_cases hij : i = j
  · subst hij
    have hj' : i < cur.size := by rw [h2]; exact hj
    rw [decide_eq_true (hm.2 (Or.inr rfl))]
    simp [hj']
  · rw [if_neg hij, h3 j hj]
    have : ((j : Int) ∈ IM.keysL S) ↔ ((j : Int) ∈ IM.keysL (addL S (i : Int))) := by rw [hm]; constructor; exact Or.inl; rintro (h | h); exact h; omega
    simp only [this]
theorem addL_in {S : List (Int × Value)} {x : Int} (h : x ∈ IM.keysL S) : (addL S x).length = S.length := by
  rw [← len_keys, ← len_keys, add_keys, if_pos h]
theorem addL_out {S : List (Int × Value)} {x : Int} (h : ¬ x ∈ IM.keysL S) : (addL S x).length = S.length + 1 := by
  rw [← len_keys, ← len_keys, add_keys, if_neg h, List.length_append]; rfl
theorem flags_in {w : World} {q n : Nat} {S : List (Int × Value)} {x : Int} (h : Flags w q n S) (hx : x ∈ IM.keysL S) : Flags w q n (addL S x) := by
  obtain ⟨cur, h1, h2, h3⟩ := h
  refine ⟨cur, h1, h2, fun i hi => ?_⟩
  rw [add_keys, if_pos hx]; exact h3 i hi
end Go.Proofs.Ytnkoniagakhacaa
