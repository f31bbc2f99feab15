/- Rows of tasks: who is next, in plain words; tasks of one weight. -/
import Derived.Test.YtpfdfbmoegajbaaGh
import Derived.Test.YtpfdfbmoegajbaaFpg
namespace Go.Proofs.Ytpfdfbmoegajbaa
open Go.RowKit Go.Deep
set_option maxRecDepth 100000
theorem nb_at (T : List Tk) (b i : Nat) : nb T (b : Int) (i : Int) = if FP.ltB (T.getD i tk0).2.2 (T.getD b tk0).2.2 then (i : Int) else (b : Int) := by
  unfold nb; rw [if_neg (by omega), Int.toNat_natCast, Int.toNat_natCast]
/-- The one that is next: none ahead of it is as near, none behind it nearer. -/
theorem bestF_eq {T : List Tk} (hf : Fit T) {b : Nat} (hb : b < T.length) (ha : (T.getD b tk0).1 = true) (h1 : ∀ j, j < b → (T.getD j tk0).1 = true → (T.getD b tk0).2.2 < (T.getD j tk0).2.2) (h2 : ∀ j, b < j → j < T.length → (T.getD j tk0).1 = true → (T.getD b tk0).2.2 ≤ (T.getD j tk0).2.2) : bestF T (awk T T.length) = b := by
  have hl : ∀ n, n ≤ b → bestF T (awk T n) = -1 ∨ ∃ c : Nat, bestF T (awk T n) = c ∧ c < n ∧ (T.getD c tk0).1 = true := by
    intro n hn
    by_cases hne : awk T n = []
    · left; rw [hne]; rfl
    · right
      obtain ⟨c, hc, hcl, hca, -⟩ := bestF_awk hne
      exact ⟨c, hc, hcl, hca⟩
  have step : ∀ n, bestF T (awk T (n + 1)) = if (T.getD n tk0).1 then nb T (bestF T (awk T n)) n else bestF T (awk T n) := by
    intro n
    rw [awk_succ]
    cases hN : (T.getD n tk0).1
    · simp
    · simp only [if_true]; unfold bestF; rw [List.foldl_append]; rfl
  have main : ∀ n, b < n → n ≤ T.length → bestF T (awk T n) = b := by
    intro n
    induction n with
    | zero => intro h; omega
    | succ n ih =>
      intro h hn
      rw [step n]
      by_cases e : n = b
      · subst e
        rw [ha, if_pos rfl]
        rcases hl n (Nat.le_refl _) with h3 | ⟨c, h3, hc, hca⟩
        · rw [h3]; rfl
        · rw [h3, nb_at, FP.ltB_pos (hf.at hb).2 (hf.at (by omega)).2, decide_eq_true (h1 c hc hca)]; rfl
      · rw [ih (by omega) (by omega)]
        cases hN : (T.getD n tk0).1
        · rfl
        · rw [if_pos rfl, nb_at, FP.ltB_pos (hf.at (by omega)).2 (hf.at hb).2, decide_eq_false (by have := h2 n (by omega) (by omega) hN; omega)]; rfl
  exact main T.length hb (Nat.le_refl _)
theorem awk_ne {T : List Tk} {b : Nat} (hb : b < T.length) (ha : (T.getD b tk0).1 = true) : awk T T.length ≠ [] := by
  have : (b : Int) ∈ awk T T.length := by
    unfold awk
    exact List.mem_map.2 ⟨b, List.mem_filter.2 ⟨List.mem_range.2 hb, ha⟩, rfl⟩
  intro h; rw [h] at this; cases this
theorem next_eq {T : List Tk} (hf : Fit T) {b : Nat} (hb : b < T.length) (ha : (T.getD b tk0).1 = true) (h1 : ∀ j, j < b → (T.getD j tk0).1 = true → (T.getD b tk0).2.2 < (T.getD j tk0).2.2) (h2 : ∀ j, b < j → j < T.length → (T.getD j tk0).1 = true → (T.getD b tk0).2.2 ≤ (T.getD j tk0).2.2) :
    nextK T = b ∧ nextOk T = true ∧ nextT T = T.set b ((T.getD b tk0).1, (T.getD b tk0).2.1, fa (T.getD b tk0).2.2 (fq (T.getD b tk0).2.1)) := by
  have e := bestF_eq hf hb ha h1 h2
  have hne := awk_ne hb ha
  have eb : nextB T = b := by unfold nextB; rw [e]; rfl
  refine ⟨?_, ?_, ?_⟩
  · unfold nextK; rw [if_neg hne, e]
  · unfold nextOk; simp [hne]
  · unfold nextT; rw [if_neg hne, eb]
/-! Tasks of one weight. -/
def sq (q : Nat) : Nat → Nat
  | 0 => 0
  | r + 1 => fa (sq q r) q
theorem sq_spec {q : Nat} (hq1 : 4557642822898941952 ≤ q) (hq2 : q ≤ 4652218415073722368) : ∀ r, r ≤ 300 → sq q r < 9218868437227405312 ∧ FP.val (sq q r) ≤ r * 2 ^ (53 + (q / 4503599627370496 - 1)) ∧ sq q r < sq q (r + 1)
  | 0, _ => by
    have h0 : FP.val (sq q 0) ≤ 0 * 2 ^ (53 + (q / 4503599627370496 - 1)) := by rw [show sq q 0 = 0 from rfl, FP.val_zero]; omega
    have g := FP.grow hq1 hq2 rfl (by omega) h0
    refine ⟨g.1, h0, ?_⟩
    show sq q 0 < fa (sq q 0) q
    rw [fa_rd g.1 (by omega)]; exact g.2.1
  | r + 1, h => by
    obtain ⟨i1, i2, i3⟩ := sq_spec hq1 hq2 r (by omega)
    have g := FP.grow hq1 hq2 rfl (by omega) i2
    have e : sq q (r + 1) = FP.rd (FP.val (sq q r) + FP.val q) 0 := fa_rd i1 (by omega)
    have h0 : FP.val (sq q (r + 1)) ≤ (r + 1) * 2 ^ (53 + (q / 4503599627370496 - 1)) := by rw [e]; exact g.2.2
    have g2 := FP.grow hq1 hq2 rfl h h0
    refine ⟨g2.1, h0, ?_⟩
    show sq q (r + 1) < fa (sq q (r + 1)) q
    rw [fa_rd g2.1 (by omega)]; exact g2.2.1
/-- In round r, when k have had their turn. -/
def roundT (n W r k : Nat) : List Tk := List.replicate k (true, W, sq (fq W) (r + 1)) ++ List.replicate (n - k) (true, W, sq (fq W) r)
theorem rep_getD (k n : Nat) (a b : Tk) (j : Nat) (hk : k ≤ n) (hj : j < n) : (List.replicate k a ++ List.replicate (n - k) b).getD j tk0 = if j < k then a else b := by
  rw [List.getD_eq_getElem?_getD]
  by_cases h : j < k
  · rw [List.getElem?_append_left (by simpa using h), List.getElem?_replicate, if_pos h, if_pos h]; rfl
  · rw [List.getElem?_append_right (by simpa using h), List.getElem?_replicate, List.length_replicate, if_pos (by omega), if_neg h]; rfl
theorem rep_set (k n : Nat) (a b c : Tk) (hk : k < n) : (List.replicate k a ++ List.replicate (n - k) b).set k c = List.replicate k a ++ c :: List.replicate (n - (k + 1)) b := by
  rw [List.set_append_right _ _ (by simp), List.length_replicate, Nat.sub_self, show n - k = (n - (k + 1)) + 1 by omega, List.replicate_succ, List.set_cons_zero]
theorem rep_cons (k n : Nat) (a b : Tk) : List.replicate k a ++ a :: List.replicate (n - (k + 1)) b = List.replicate (k + 1) a ++ List.replicate (n - (k + 1)) b := by
  rw [List.replicate_succ']; simp
theorem roundT_len {n W r k : Nat} (hk : k ≤ n) : (roundT n W r k).length = n := by unfold roundT; simp; omega
theorem roundT_end (n W r : Nat) : roundT n W r n = roundT n W (r + 1) 0 := by unfold roundT; simp
theorem roundT_fit {n W r k : Nat} (hW1 : 4562146422526312448 ≤ W) (hW2 : W ≤ 4652218415073722368) (hr : r ≤ 299) : Fit (roundT n W r k) := fun t ht => by
  have hq := fq_spec hW1 hW2
  have s1 := sq_spec hq.2.2 hq.2.1 r (by omega)
  have s2 := sq_spec hq.2.2 hq.2.1 (r + 1) (by omega)
  unfold roundT at ht
  rcases List.mem_append.1 ht with h | h
  · have := List.eq_of_mem_replicate h; subst this; exact ⟨⟨hW1, hW2⟩, by have := s2.1; dsimp only; omega⟩
  · have := List.eq_of_mem_replicate h; subst this; exact ⟨⟨hW1, hW2⟩, by have := s1.1; dsimp only; omega⟩
theorem roundT_next {n W r k : Nat} (hW1 : 4562146422526312448 ≤ W) (hW2 : W ≤ 4652218415073722368) (hr : r ≤ 299) (hk : k < n) :
    nextK (roundT n W r k) = k ∧ nextOk (roundT n W r k) = true ∧ nextT (roundT n W r k) = roundT n W r (k + 1) := by
  have hq := fq_spec hW1 hW2
  have s1 := sq_spec hq.2.2 hq.2.1 r (by omega)
  have hg : ∀ j, j < n → (roundT n W r k).getD j tk0 = if j < k then (true, W, sq (fq W) (r + 1)) else (true, W, sq (fq W) r) := fun j hj => rep_getD k n _ _ j (by omega) hj
  have gk := hg k hk
  rw [if_neg (Nat.lt_irrefl _)] at gk
  have h := next_eq (roundT_fit (n := n) (k := k) hW1 hW2 hr) (b := k) (by rw [roundT_len (by omega)]; exact hk) (by rw [gk])
    (fun j hj _ => by rw [gk, hg j (by omega), if_pos hj]; exact s1.2.2)
    (fun j hj hjl _ => by rw [roundT_len (by omega)] at hjl; rw [gk, hg j hjl, if_neg (by omega)]; exact Nat.le_refl _)
  refine ⟨h.1, h.2.1, ?_⟩
  rw [h.2.2, gk]
  unfold roundT
  rw [rep_set k n _ _ _ hk]
  exact rep_cons k n _ _
/-- When the first i have been given their weight and woken. -/
def setupT (n W i : Nat) : List Tk := List.replicate i (true, W, 0) ++ List.replicate (n - i) (false, 4607182418800017408, 0)
theorem setupT_zero (n W : Nat) : setupT n W 0 = fresh n := by unfold setupT fresh; simp
theorem setupT_end (n W : Nat) : setupT n W n = roundT n W 0 0 := by unfold setupT roundT; simp; exact Or.inr rfl
theorem setupT_len {n W i : Nat} (hi : i ≤ n) : (setupT n W i).length = n := by unfold setupT; simp; omega
theorem setupT_fit {n W i : Nat} (hW1 : 4562146422526312448 ≤ W) (hW2 : W ≤ 4652218415073722368) : Fit (setupT n W i) := fun t ht => by
  unfold setupT at ht
  rcases List.mem_append.1 ht with h | h
  · have := List.eq_of_mem_replicate h; subst this; exact ⟨⟨hW1, hW2⟩, Nat.zero_le _⟩
  · have := List.eq_of_mem_replicate h; subst this; exact ⟨⟨by decide, by decide⟩, by decide⟩
def wOf (x : Nat) : Nat := FP.clampB (if FP.isNaN x then 4607182418800017408 else x) 4562146422526312448 4652218415073722368
theorem wOf_in {x : Nat} (hx : x < 18446744073709551616) : 4562146422526312448 ≤ wOf x ∧ wOf x ≤ 4652218415073722368 := FP.clampB_in (by split <;> omega) (by decide) (by decide)
def midT (n W i : Nat) : List Tk := List.replicate i (true, W, 0) ++ (false, W, 0) :: List.replicate (n - (i + 1)) (false, 4607182418800017408, 0)
theorem setup_weight {n i : Nat} (x : Nat) (hi : i < n) : weightA (setupT n (wOf x) i) i x = midT n (wOf x) i ∧ code (setupT n (wOf x) i) i = 0 := by
  have hh : has (setupT n (wOf x) i) (i : Int) := by unfold has; rw [setupT_len (by omega)]; omega
  have gi : (setupT n (wOf x) i).getD i tk0 = (false, 4607182418800017408, 0) := by unfold setupT; rw [rep_getD i n _ _ i (by omega) hi, if_neg (Nat.lt_irrefl _)]
  constructor
  · unfold weightA
    rw [if_pos hh, Int.toNat_natCast, gi]
    unfold setupT midT
    rw [rep_set i n _ _ _ hi]; rfl
  · unfold code; rw [if_pos hh]
/-- Where all passes are nought a task wakes at nought. -/
theorem wake_zero {T : List Tk} {i : Nat} (hi : i < T.length) (hz : ∀ t ∈ T, t.2.2 = 0) (ha : (T.getD i tk0).1 = false) : wakeA T i = T.set i (true, (T.getD i tk0).2.1, 0) ∧ code T i = 0 := by
  have hh : has T (i : Int) := by unfold has; omega
  constructor
  · have hzi : (T.getD i tk0).2.2 = 0 := hz _ (by rw [List.getD_eq_getElem?_getD, List.getElem?_eq_getElem hi]; exact List.getElem_mem hi)
    unfold wakeA
    rw [if_pos hh, Int.toNat_natCast, ha, if_neg (by simp)]
    unfold wakeT
    rw [hzi]
    split
    · rfl
    · rename_i hne
      have hp : ∀ x ∈ passes T (awk T T.length), x = 0 := fun x hx => by
        obtain ⟨y, hy, rfl⟩ := List.mem_map.1 hx
        obtain ⟨j, rfl, hj, -⟩ := awk_mem hy
        exact hz _ (by rw [Int.toNat_natCast, List.getD_eq_getElem?_getD, List.getElem?_eq_getElem hj]; exact List.getElem_mem hj)
      have hm := minF_pos (fun x hx => by rw [hp x hx]; omega) (passes_ne (T := T) hne)
      rw [hp _ hm.1, show FP.clampB 0 0 (fa 0 4652218415073722368) = 0 by decide +kernel]
  · unfold code; rw [if_pos hh]
theorem midT_len {n W i : Nat} (hi : i < n) : (midT n W i).length = n := by unfold midT; simp; omega
theorem midT_fit {n W i : Nat} (hW1 : 4562146422526312448 ≤ W) (hW2 : W ≤ 4652218415073722368) : Fit (midT n W i) := fun t ht => by
  unfold midT at ht
  rcases List.mem_append.1 ht with h | h
  · have := List.eq_of_mem_replicate h; subst this; exact ⟨⟨hW1, hW2⟩, Nat.zero_le _⟩
  · rcases List.mem_cons.1 h with h | h
    · subst h; exact ⟨⟨hW1, hW2⟩, Nat.zero_le _⟩
    · have := List.eq_of_mem_replicate h; subst this; exact ⟨⟨by decide, by decide⟩, by decide⟩
theorem mid_wake {n W i : Nat} (hi : i < n) : wakeA (midT n W i) i = setupT n W (i + 1) ∧ code (midT n W i) i = 0 := by
  have gi : (midT n W i).getD i tk0 = (false, W, 0) := by
    unfold midT; rw [List.getD_eq_getElem?_getD, List.getElem?_append_right (by simp), List.length_replicate, Nat.sub_self]; rfl
  have hz : ∀ t ∈ midT n W i, t.2.2 = 0 := fun t ht => by
    unfold midT at ht
    rcases List.mem_append.1 ht with h | h
    · have := List.eq_of_mem_replicate h; subst this; rfl
    · rcases List.mem_cons.1 h with h | h
      · subst h; rfl
      · have := List.eq_of_mem_replicate h; subst this; rfl
  have h := wake_zero (i := i) (by rw [midT_len hi]; exact hi) hz (by rw [gi])
  refine ⟨?_, h.2⟩
  rw [h.1, gi]
  unfold midT setupT
  rw [List.set_append_right _ _ (by simp), List.length_replicate, Nat.sub_self, List.set_cons_zero]
  exact rep_cons i n _ _
end Go.Proofs.Ytpfdfbmoegajbaa
