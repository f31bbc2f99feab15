/- Rows of tasks: passes of those awake stay near to one another. -/
import Derived.Test.YtpfdfbmoegajbaaGo
import Derived.Test.YtpfdfbmoegajbaaFph
namespace Go.Proofs.Ytpfdfbmoegajbaa
open Go.RowKit Go.Deep
set_option maxRecDepth 100000
/-- The pass of a task. -/
abbrev pas (T : List Tk) (i : Nat) : Nat := (T.getD i tk0).2.2
/-- Those awake are near to one another; no pass is beyond c thousands. -/
structure Near (c : Nat) (T : List Tk) : Prop where
  le : ∀ i, i < T.length → pas T i ≤ FP.bb c
  nr : ∀ i j, i < T.length → j < T.length → (T.getD i tk0).1 = true → (T.getD j tk0).1 = true → pas T i ≤ FP.rd (FP.val (pas T j) + FP.val 4652218415073722368) 0
theorem bb_inf {c : Nat} (hc : c < 1000) : FP.bb c < 9218868437227405312 := (FP.bb_spec hc 1074 rfl).2
theorem fa_rd' {c x y : Nat} (hc : c < 1000) (hx : x ≤ FP.bb c) (hy : y ≤ 4652218415073722368) : fa x y = FP.rd (FP.val x + FP.val y) 0 := fa_rd (by have := bb_inf hc; omega) (by omega)
theorem rd_mono_l {x x' : Nat} (h : x ≤ x') (y y' : Nat) (h' : y ≤ y') : FP.rd (FP.val x + FP.val y) 0 ≤ FP.rd (FP.val x' + FP.val y') 0 := FP.rd_mono (by have := FP.val_le h; have := FP.val_le h'; omega)
/-- The best one is least. -/
theorem bestF_least {T : List Tk} (hf : Fit T) : ∀ n, n ≤ T.length → awk T n ≠ [] → ∃ b : Nat, bestF T (awk T n) = b ∧ b < n ∧ (T.getD b tk0).1 = true ∧ ∀ j, j < n → (T.getD j tk0).1 = true → pas T b ≤ pas T j := by
  intro n
  induction n with
  | zero => intro _ h; exact absurd rfl h
  | succ n ih =>
    intro hn hne
    rw [bestF_succ]
    cases hN : (T.getD n tk0).1
    · have e : awk T (n + 1) = awk T n := by rw [awk_succ, hN]; simp
      rw [e] at hne
      obtain ⟨b, h1, h2, h3, h4⟩ := ih (by omega) hne
      refine ⟨b, by simpa using h1, by omega, h3, fun j hj hj2 => ?_⟩
      by_cases e : j = n
      · subst e; rw [hN] at hj2; cases hj2
      · exact h4 j (by omega) hj2
    · rw [if_pos rfl]
      by_cases h0 : awk T n = []
      · refine ⟨n, by rw [h0]; rfl, by omega, hN, fun j hj hj2 => ?_⟩
        by_cases e : j = n
        · subst e; exact Nat.le_refl _
        · exfalso
          have : (j : Int) ∈ awk T n := by
            unfold awk
            exact List.mem_map.2 ⟨j, List.mem_filter.2 ⟨List.mem_range.2 (by omega), hj2⟩, rfl⟩
          rw [h0] at this; cases this
      · obtain ⟨b, h1, h2, h3, h4⟩ := ih (by omega) h0
        rw [h1, nb_at, FP.ltB_pos (hf.at (by omega)).2 (hf.at (by omega)).2]
        by_cases hlt : (T.getD n tk0).2.2 < (T.getD b tk0).2.2
        · refine ⟨n, by rw [decide_eq_true hlt]; rfl, by omega, hN, fun j hj hj2 => ?_⟩
          by_cases e : j = n
          · subst e; exact Nat.le_refl _
          · have := h4 j (by omega) hj2
            show (T.getD n tk0).2.2 ≤ pas T j
            have h5 : (T.getD b tk0).2.2 = pas T b := rfl
            omega
        · refine ⟨b, by rw [decide_eq_false hlt]; rfl, by omega, h3, fun j hj hj2 => ?_⟩
          by_cases e : j = n
          · subst e; show (T.getD b tk0).2.2 ≤ (T.getD j tk0).2.2; omega
          · exact h4 j (by omega) hj2
theorem getD_set {T : List Tk} {i j : Nat} (t : Tk) (hj : j < T.length) : (T.set i t).getD j tk0 = if i = j then t else T.getD j tk0 := by
  rw [List.getD_eq_getElem?_getD, List.getElem?_set]
  by_cases h : i = j
  · subst h; rw [if_pos rfl, if_pos hj, if_pos rfl]; rfl
  · rw [if_neg h, if_neg h, List.getD_eq_getElem?_getD]
theorem Near.more {c d : Nat} {T : List Tk} (h : Near c T) (hc : c ≤ d) (hd : d < 1000) : Near d T := ⟨fun i hi => Nat.le_trans (h.le i hi) (FP.bb_le hc hd), h.nr⟩
/-- What leaves the passes, and wakes no one, leaves them near. -/
theorem Near.same {c : Nat} {T : List Tk} (h : Near c T) {i : Nat} (t : Tk) (hp : t.2.2 = pas T i) (ha : t.1 = true → (T.getD i tk0).1 = true) : Near c (T.set i t) := by
  have hl : (T.set i t).length = T.length := by simp
  have hg : ∀ j, j < T.length → pas (T.set i t) j = pas T j ∧ (((T.set i t).getD j tk0).1 = true → (T.getD j tk0).1 = true) := fun j hj => by
    unfold pas
    rw [getD_set t hj]
    by_cases e : i = j
    · subst e; rw [if_pos rfl]; exact ⟨hp, ha⟩
    · rw [if_neg e]; exact ⟨rfl, fun x => x⟩
  refine ⟨fun j hj => ?_, fun j k hj hk aj ak => ?_⟩
  · rw [hl] at hj; rw [(hg j hj).1]; exact h.le j hj
  · rw [hl] at hj hk
    rw [(hg j hj).1, (hg k hk).1]
    exact h.nr j k hj hk ((hg j hj).2 aj) ((hg k hk).2 ak)
/-- What brings one task between the others leaves them near. -/
theorem Near.put {c d : Nat} {T : List Tk} (h : Near c T) (hc : c ≤ d) (hd : d < 1000) {i : Nat} (t : Tk) (hb : t.2.2 ≤ FP.bb d)
    (h1 : ∀ j, j < T.length → j ≠ i → (T.getD j tk0).1 = true → t.2.2 ≤ FP.rd (FP.val (pas T j) + FP.val 4652218415073722368) 0)
    (h2 : ∀ j, j < T.length → j ≠ i → (T.getD j tk0).1 = true → pas T j ≤ FP.rd (FP.val t.2.2 + FP.val 4652218415073722368) 0) : Near d (T.set i t) := by
  have hl : (T.set i t).length = T.length := by simp
  have bi := bb_inf hd
  refine ⟨fun j hj => ?_, fun j k hj hk aj ak => ?_⟩
  · rw [hl] at hj
    unfold pas
    rw [getD_set t hj]
    by_cases e : i = j
    · rw [if_pos e]; exact hb
    · rw [if_neg e]; exact Nat.le_trans (h.le j hj) (FP.bb_le hc hd)
  · rw [hl] at hj hk
    rw [getD_set t hj] at aj
    rw [getD_set t hk] at ak
    unfold pas
    rw [getD_set t hj, getD_set t hk]
    by_cases ej : i = j
    · rw [if_pos ej]
      by_cases ek : i = k
      · rw [if_pos ek]; exact FP.le_rd_add _ _ (by omega)
      · rw [if_neg ek] at ak ⊢; exact h1 k hk (fun e => ek e.symm) ak
    · rw [if_neg ej] at aj ⊢
      by_cases ek : i = k
      · rw [if_pos ek]; exact h2 j hj (fun e => ej e.symm) aj
      · rw [if_neg ek] at ak ⊢; exact h.nr j k hj hk aj ak
theorem Near.next {c : Nat} {T : List Tk} (h : Near c T) (hf : Fit T) (hc : c < 900) : Near (c + 1) (nextT T) := by
  unfold nextT
  split
  · exact h.more (by omega) (by omega)
  · rename_i hne
    obtain ⟨b, h1, h2, h3, h4⟩ := bestF_least hf T.length (Nat.le_refl _) hne
    have eb : nextB T = b := by unfold nextB; rw [h1]; rfl
    rw [eb]
    have hw := hf.at h2
    have hq := (fq_spec hw.1.1 hw.1.2).2.1
    have e : fa (T.getD b tk0).2.2 (fq (T.getD b tk0).2.1) = FP.rd (FP.val (pas T b) + FP.val (fq (T.getD b tk0).2.1)) 0 := fa_rd' (c := c) (by omega) (h.le b h2) hq
    have bi := bb_inf (c := c) (by omega)
    have hle := h.le b h2
    refine h.put (by omega) (by omega) _ ?_ ?_ ?_
    · dsimp only; rw [e]; exact FP.bb_add hc (h.le b h2) hq
    · intro j hj hjb aj
      dsimp only
      rw [e]
      exact rd_mono_l (h4 j hj aj) _ _ hq
    · intro j hj hjb aj
      dsimp only
      rw [e]
      refine Nat.le_trans (h.nr j b hj h2 aj h3) (rd_mono_l (FP.le_rd_add _ _ (by omega)) _ _ (Nat.le_refl _))
theorem Near.wake {c : Nat} {T : List Tk} (h : Near c T) (hf : Fit T) (hc : c < 900) (i : Int) : Near (c + 1) (wakeA T i) := by
  unfold wakeA
  split
  · rename_i hh
    obtain ⟨k, rfl, hk⟩ := has_nat hh
    rw [Int.toNat_natCast]
    split
    · exact h.more (by omega) (by omega)
    · rename_i hna
      unfold wakeT
      split
      · rename_i hem
        have none_awake : ∀ j, j < T.length → (T.getD j tk0).1 = true → False := fun j hj aj => awk_ne hj aj hem
        exact h.put (by omega) (by omega) _ (Nat.le_trans (h.le k hk) (FP.bb_le (by omega) (by omega))) (fun j hj _ aj => (none_awake j hj aj).elim) (fun j hj _ aj => (none_awake j hj aj).elim)
      · rename_i hne
        have hpp := passes_pos hf (Nat.le_refl T.length)
        have hm := minF_pos hpp (passes_ne (T := T) hne)
        generalize FP.minF (passes T (awk T T.length)) = m at hm
        obtain ⟨y, hy, hye⟩ := List.mem_map.1 hm.1
        obtain ⟨l, rfl, hl, al⟩ := awk_mem hy
        have hml : pas T l = m := hye
        have hmle : ∀ j, j < T.length → (T.getD j tk0).1 = true → m ≤ pas T j := fun j hj aj => hm.2 _ (List.mem_map.2 ⟨(j : Int), by
          unfold awk
          exact List.mem_map.2 ⟨j, List.mem_filter.2 ⟨List.mem_range.2 hj, aj⟩, rfl⟩, rfl⟩)
        have hmb : m ≤ FP.bb c := by rw [← hml]; exact h.le l hl
        have bi := bb_inf (c := c) (by omega)
        have bi2 := bb_inf (c := c + 1) (by omega)
        have e : fa m 4652218415073722368 = FP.rd (FP.val m + FP.val 4652218415073722368) 0 := fa_rd' (c := c) (by omega) hmb (Nat.le_refl _)
        have hmf : m ≤ FP.rd (FP.val m + FP.val 4652218415073722368) 0 := FP.le_rd_add _ _ (by omega)
        have hfb : FP.rd (FP.val m + FP.val 4652218415073722368) 0 ≤ FP.bb (c + 1) := FP.bb_add hc hmb (Nat.le_refl _)
        have hpk := h.le k hk
        have hcl : FP.clampB (T.getD k tk0).2.2 m (fa m 4652218415073722368) = max m (min (T.getD k tk0).2.2 (FP.rd (FP.val m + FP.val 4652218415073722368) 0)) := by
          rw [e]; exact FP.clampB_pos (hf.at hk).2 hmf (by omega)
        rw [hcl]
        refine h.put (by omega) (by omega) _ ?_ ?_ ?_
        · dsimp only; omega
        · intro j hj _ aj
          dsimp only
          have h1 := rd_mono_l (hmle j hj aj) 4652218415073722368 _ (Nat.le_refl _)
          omega
        · intro j hj _ aj
          dsimp only
          have h1 := h.nr j l hj hl aj al
          rw [hml] at h1
          refine Nat.le_trans h1 (rd_mono_l ?_ _ _ (Nat.le_refl _))
          omega
  · exact h.more (by omega) (by omega)
theorem Near.act {c : Nat} {T : List Tk} (h : Near c T) (hf : Fit T) (hc : c < 900) (k t : Int) (x : Nat) : Near (c + 1) (actT T k t x) := by
  unfold actT
  split
  · unfold weightA
    split
    · exact Near.more (c := c) (Near.same h (i := t.toNat) _ rfl (fun e => e)) (by omega) (by omega)
    · exact h.more (by omega) (by omega)
  · split
    · exact h.wake hf hc t
    · split
      · unfold sleepA
        split
        · exact Near.more (c := c) (Near.same h (i := t.toNat) _ rfl (fun e => Bool.noConfusion e)) (by omega) (by omega)
        · exact h.more (by omega) (by omega)
      · split
        · exact h.more (by omega) (by omega)
        · exact h.next hf hc
theorem Near.fresh (n : Nat) : Near 0 (fresh n) := by
  have hz : ∀ i, pas (Proofs.Ytpfdfbmoegajbaa.fresh n) i = 0 := fun i => by
    unfold pas Proofs.Ytpfdfbmoegajbaa.fresh
    rw [List.getD_eq_getElem?_getD, List.getElem?_replicate]
    split <;> rfl
  refine ⟨fun i _ => by rw [hz]; omega, fun i j _ _ _ _ => by rw [hz]; omega⟩
/-- What the law tells of two of them. -/
theorem Near.far {c : Nat} {T : List Tk} (h : Near c T) (hc : c < 500) {i j : Nat} (hi : i < T.length) (hj : j < T.length) (ai : (T.getD i tk0).1 = true) (aj : (T.getD j tk0).1 = true) :
    ∃ r, floatBits .sub .f64 (pas T i) (pas T j) = some r ∧ r < 18446744073709551616 ∧ (FloatKind.f64.format.order r r != some .eq) = false ∧ (FloatKind.f64.format.order r 4652222813120233472 == some .gt) = false :=
  FP.near_sub hc (h.le j hj) (h.nr i j hi hj ai aj)
end Go.Proofs.Ytpfdfbmoegajbaa
