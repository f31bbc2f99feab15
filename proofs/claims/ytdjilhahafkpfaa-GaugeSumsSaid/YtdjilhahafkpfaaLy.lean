/- A gauge: in whatever order numbers are added the same is told. -/
import Derived.Test.YtdjilhahafkpfaaLw
namespace Go.Proofs.Ytdjilhahafkpfaa
open Go.RowKit Go.Deep
structure Told where
  V : Int
  c : Nat
  o : Nat
  h : Nat
  l : Nat
  rn : Int
  rx : Int
def told0 : Told := ⟨0, 0, 0, 0, 0, 9223372036854775807, -9223372036854775808⟩
def stepT (T : Told) (x : Nat) : Told :=
  if FP.isNaN x = true then ⟨T.V, T.c, T.o + 1, T.h, T.l, T.rn, T.rx⟩
  else ⟨T.V + (if FP.isInf x = true then 0 else FP.num x), T.c + (if FP.isInf x = true then 0 else 1), T.o, T.h + (if FP.isInf x = true ∧ FP.sgn x = false then 1 else 0), T.l + (if FP.isInf x = true ∧ FP.sgn x = true then 1 else 0), min T.rn (FP.rank x), max T.rx (FP.rank x)⟩
theorem stepT_comm (T : Told) (x y : Nat) : stepT (stepT T x) y = stepT (stepT T y) x := by
  unfold stepT
  cases FP.isNaN x <;> cases FP.isNaN y <;> simp only [Bool.false_eq_true, if_false, if_true, Told.mk.injEq, true_and] <;> refine ⟨?_, ?_, ?_, ?_, ?_, ?_⟩ <;> omega
def tell (G : Gs) : Told := ⟨G.V, G.c, G.o, G.h, G.l, FP.rank G.mn, if G.c + G.h + G.l = 0 then -9223372036854775808 else FP.rank G.mx⟩
theorem tell0 : tell gs0 = told0 := by unfold tell told0; rw [show gs0.mn = 9221120237041090561 from rfl, FP.rank_dnan]; rfl
theorem tell_add {G : Gs} (h : Ended G) {x : Nat} (hx : x < 18446744073709551616) : tell (addG G x) = stepT (tell G) x := by
  cases hn : FP.isNaN x with
  | true => rw [addG_nan hn]; unfold stepT; rw [if_pos hn]; rfl
  | false =>
    obtain ⟨e1, e2, -, e4⟩ := addG_ends h hx hn
    have r1 : FP.rank (addG G x).mn = min (FP.rank G.mn) (FP.rank x) := by
      rw [e1]; unfold FP.ltB
      by_cases hl : FP.rank x < FP.rank G.mn
      · rw [if_pos (by simpa using hl)]; omega
      · rw [if_neg (by simpa using hl)]; omega
    have r2 : (if (addG G x).c + (addG G x).h + (addG G x).l = 0 then -9223372036854775808 else FP.rank (addG G x).mx) = max (if G.c + G.h + G.l = 0 then -9223372036854775808 else FP.rank G.mx) (FP.rank x) := by
      rw [if_neg (by omega), e2]
      by_cases hz : G.c + G.h + G.l = 0
      · rw [if_pos hz, (h.z hz).2, nanc]; have := FP.rank_bounds x; simp; omega
      · rw [if_neg hz, (h.p (by omega)).2]; unfold FP.ltB
        by_cases hl : FP.rank G.mx < FP.rank x
        · rw [if_pos (by simpa using hl)]; omega
        · rw [if_neg (by simpa using hl)]; omega
    unfold stepT
    rw [if_neg (by rw [hn]; simp)]
    show Told.mk _ _ _ _ _ _ _ = _
    rw [r1, r2]
    rcases kinds x with k | k | k | k
    · rw [hn] at k; cases k
    · rw [addG_lo k]; simp [k.2.1, k.2.2, tell, addL']
    · rw [addG_hi k]; simp [k.2.1, k.2.2, tell, addH]
    · rw [addG_fin k]; simp [k.2, tell, addF]
theorem tell_fold : ∀ (zs : List Nat) (G : Gs), Ended G → (∀ x ∈ zs, x < 18446744073709551616) → tell (zs.foldl addG G) = zs.foldl stepT (tell G)
  | [], G, _, _ => rfl
  | x :: zs, G, h, hw => by
    rw [List.foldl_cons, List.foldl_cons, ← tell_add h (hw x List.mem_cons_self)]
    exact tell_fold zs _ (endedOf [x] G h fun y hy => hw y (by simp at hy; rw [hy]; exact List.mem_cons_self)) fun y hy => hw y (List.mem_cons_of_mem _ hy)
theorem tell_perm {zs ys : List Nat} (hp : ys.Perm zs) (hw : ∀ x ∈ zs, x < 18446744073709551616) : tell (gsOf ys) = tell (gsOf zs) := by
  unfold gsOf
  rw [tell_fold zs gs0 ended0 hw, tell_fold ys gs0 ended0 fun x hx => hw x (hp.mem_iff.1 hx)]
  exact hp.foldl_eq' (fun x _ y _ T => stepT_comm T x y) _
/-- What two gauges that tell the same answer. -/
theorem tell_same {G H : Gs} (h : tell G = tell H) (hG : Ended G) (hH : Ended H) :
    G.c = H.c ∧ G.o = H.o ∧ G.h = H.h ∧ G.l = H.l ∧ sumOf G = sumOf H ∧ FP.sameB G.mn H.mn = true ∧ FP.sameB G.mx H.mx = true := by
  unfold tell at h
  simp only [Told.mk.injEq] at h
  obtain ⟨h1, h2, h3, h4, h5, h6, h7⟩ := h
  refine ⟨h2, h3, h4, h5, by unfold sumOf; rw [h1, h3, h4, h5], by unfold FP.sameB; simpa using h6, ?_⟩
  by_cases hz : G.c + G.h + G.l = 0
  · rw [(hG.z hz).2, (hH.z (by omega)).2]; exact FP.sameB_refl _
  · rw [if_neg hz, if_neg (by omega)] at h7
    unfold FP.sameB; simp; omega
/-- The numbers of a list, from a place backwards and round. -/
def turned (zs : List Nat) (a : Nat) : List Nat := (List.range zs.length).map fun i => zs.getD ((a + zs.length - i) % zs.length) 0
theorem turned_len (zs : List Nat) (a : Nat) : (turned zs a).length = zs.length := by simp [turned]
theorem turned_get {zs : List Nat} {a i : Nat} (hi : i < zs.length) : (turned zs a).getD i 0 = zs.getD ((a + zs.length - i) % zs.length) 0 := by
  unfold turned
  rw [List.getD_eq_getElem?_getD, List.getElem?_map, List.getElem?_range hi]; rfl
theorem turned_eq {zs : List Nat} {a : Nat} (ha : a < zs.length) : turned zs a = (zs.take (a + 1)).reverse ++ (zs.drop (a + 1)).reverse := by
  apply List.ext_getElem
  · simp [turned]; omega
  · intro i h1 h2
    have hi : i < zs.length := by simpa [turned] using h1
    have e := turned_get (zs := zs) (a := a) hi
    rw [List.getD_eq_getElem?_getD, List.getElem?_eq_getElem h1, Option.getD_some] at e
    rw [e]
    by_cases hia : i ≤ a
    · have em : (a + zs.length - i) % zs.length = a - i := by
        rw [show a + zs.length - i = (a - i) + zs.length by omega, Nat.add_mod_right, Nat.mod_eq_of_lt (by omega)]
      rw [em, List.getElem_append_left (by simp; omega), List.getElem_reverse, List.getElem_take, List.getD_eq_getElem?_getD, List.getElem?_eq_getElem (by omega), Option.getD_some]
      congr 1
      simp; omega
    · have em : (a + zs.length - i) % zs.length = a + zs.length - i := Nat.mod_eq_of_lt (by omega)
      rw [em, List.getElem_append_right (by simp; omega), List.getElem_reverse, List.getElem_drop, List.getD_eq_getElem?_getD, List.getElem?_eq_getElem (by omega), Option.getD_some]
      congr 1
      simp; omega
theorem turned_perm {zs : List Nat} {a : Nat} (ha : a < zs.length) : (turned zs a).Perm zs := by
  rw [turned_eq ha]
  have h := (List.reverse_perm (zs.take (a + 1))).append (List.reverse_perm (zs.drop (a + 1)))
  rwa [List.take_append_drop] at h
theorem turned_wf {zs : List Nat} {a : Nat} (ha : a < zs.length) (hw : ∀ x ∈ zs, x < 18446744073709551616) : ∀ x ∈ turned zs a, x < 18446744073709551616 := fun x hx => hw x ((turned_perm ha).mem_iff.1 hx)
end Go.Proofs.Ytdjilhahafkpfaa
