/- Plain facts: the first and the last one of a list of numbers. -/
import Derived.Test.YtdjilhahafkpfaaFpd
namespace FP
def stepMin (m x : Nat) : Nat := if ltB x m then x else m
def stepMax (m x : Nat) : Nat := if ltB m x then x else m
def minF (l : List Nat) : Nat := l.foldl stepMin 9221120237041090561
def maxF : List Nat → Nat
  | [] => 9221120237041090561
  | x :: l => (x :: l).foldl stepMax x
theorem take_getD {α : Type} (l : List α) (k : Nat) (d : α) (h : k < l.length) : l.take (k + 1) = l.take k ++ [l.getD k d] := by
  rw [List.take_succ_eq_append_getElem h]; simp [List.getD, h]
theorem fold_snoc {α β : Type} (f : β → α → β) (z : β) (l : List α) (k : Nat) (d : α) (h : k < l.length) : (l.take (k + 1)).foldl f z = f ((l.take k).foldl f z) (l.getD k d) := by
  rw [take_getD l k d h, List.foldl_append]; rfl
theorem stepMin_lt {m x : Nat} (hm : m < 18446744073709551616) (hx : x < 18446744073709551616) : stepMin m x < 18446744073709551616 := by
  unfold stepMin; split
  · exact hx
  · exact hm
theorem stepMax_lt {m x : Nat} (hm : m < 18446744073709551616) (hx : x < 18446744073709551616) : stepMax m x < 18446744073709551616 := by
  unfold stepMax; split
  · exact hx
  · exact hm
theorem fold_lt {f : Nat → Nat → Nat} (hf : ∀ m x, m < 18446744073709551616 → x < 18446744073709551616 → f m x < 18446744073709551616) : ∀ (l : List Nat) (z : Nat), z < 18446744073709551616 → (∀ n ∈ l, n < 18446744073709551616) → l.foldl f z < 18446744073709551616
  | [], z, hz, _ => hz
  | x :: l, z, hz, h => fold_lt hf l (f z x) (hf z x hz (h x (by simp))) (fun n hn => h n (List.mem_cons_of_mem _ hn))
theorem getD_lt {l : List Nat} (h : ∀ n ∈ l, n < 18446744073709551616) (k : Nat) : l.getD k 0 < 18446744073709551616 := by
  by_cases hk : k < l.length
  · have : l.getD k 0 = l[k] := by simp [List.getD, hk]
    rw [this]; exact h _ (List.getElem_mem hk)
  · have : l.getD k 0 = 0 := by simp [List.getD, hk]
    rw [this]; omega
theorem take_lt {l : List Nat} (h : ∀ n ∈ l, n < 18446744073709551616) (k : Nat) : ∀ n ∈ l.take k, n < 18446744073709551616 := fun n hn => h n (List.mem_of_mem_take hn)
theorem minF_lt {l : List Nat} (h : ∀ n ∈ l, n < 18446744073709551616) : minF l < 18446744073709551616 := fold_lt (fun _ _ => stepMin_lt) l _ (by omega) h
theorem maxF_lt : ∀ {l : List Nat}, (∀ n ∈ l, n < 18446744073709551616) → maxF l < 18446744073709551616
  | [], _ => by show 9221120237041090561 < 18446744073709551616; omega
  | x :: l, h => fold_lt (fun _ _ => stepMax_lt) (x :: l) x (h x (by simp)) h

/-! Ranks. -/
theorem rank_stepMin (m x : Nat) : rank (stepMin m x) = if rank x < rank m then rank x else rank m := by
  unfold stepMin ltB
  by_cases h : rank x < rank m <;> simp [h]
theorem rank_stepMax (m x : Nat) : rank (stepMax m x) = if rank m < rank x then rank x else rank m := by
  unfold stepMax ltB
  by_cases h : rank m < rank x <;> simp [h]
theorem fold_min_spec : ∀ (l : List Nat) (z : Nat), (rank (l.foldl stepMin z) ≤ rank z ∧ ∀ x ∈ l, rank (l.foldl stepMin z) ≤ rank x) ∧ (rank (l.foldl stepMin z) = rank z ∨ ∃ x ∈ l, rank (l.foldl stepMin z) = rank x)
  | [], z => by simp
  | y :: l, z => by
    obtain ⟨⟨h1, h2⟩, h3⟩ := fold_min_spec l (stepMin z y)
    have hs := rank_stepMin z y
    simp only [List.foldl_cons]
    refine ⟨⟨?_, ?_⟩, ?_⟩
    · split at hs <;> omega
    · intro x hx
      rcases List.mem_cons.1 hx with rfl | hx
      · split at hs <;> omega
      · exact h2 x hx
    · rcases h3 with h3 | ⟨x, hx, h3⟩
      · rw [hs] at h3
        split at h3
        · exact Or.inr ⟨y, by simp, h3⟩
        · exact Or.inl h3
      · exact Or.inr ⟨x, List.mem_cons_of_mem _ hx, h3⟩
theorem fold_max_spec : ∀ (l : List Nat) (z : Nat), (rank z ≤ rank (l.foldl stepMax z) ∧ ∀ x ∈ l, rank x ≤ rank (l.foldl stepMax z)) ∧ (rank (l.foldl stepMax z) = rank z ∨ ∃ x ∈ l, rank (l.foldl stepMax z) = rank x)
  | [], z => by simp
  | y :: l, z => by
    obtain ⟨⟨h1, h2⟩, h3⟩ := fold_max_spec l (stepMax z y)
    have hs := rank_stepMax z y
    simp only [List.foldl_cons]
    refine ⟨⟨?_, ?_⟩, ?_⟩
    · split at hs <;> omega
    · intro x hx
      rcases List.mem_cons.1 hx with rfl | hx
      · split at hs <;> omega
      · exact h2 x hx
    · rcases h3 with h3 | ⟨x, hx, h3⟩
      · rw [hs] at h3
        split at h3
        · exact Or.inr ⟨y, by simp, h3⟩
        · exact Or.inl h3
      · exact Or.inr ⟨x, List.mem_cons_of_mem _ hx, h3⟩
theorem rank_dnan : rank 9221120237041090561 = 9223372036854775807 := by decide +kernel
/-- The first one: no element is ahead of it; it is one of them, if there are any. -/
theorem min_le {l : List Nat} {x : Nat} (h : x ∈ l) : rank (minF l) ≤ rank x := (fold_min_spec l _).1.2 x h
theorem min_mem {l : List Nat} (h : l ≠ []) : ∃ x ∈ l, rank (minF l) = rank x := by
  rcases (fold_min_spec l 9221120237041090561).2 with h1 | h1
  · obtain ⟨x, r, rfl⟩ := List.exists_cons_of_ne_nil h
    refine ⟨x, by simp, ?_⟩
    have h2 := min_le (l := x :: r) (x := x) (by simp)
    have h3 := (rank_bounds x).2
    unfold minF at h2 ⊢
    rw [h1, rank_dnan] at h2 ⊢
    omega
  · exact h1
theorem max_ge {l : List Nat} {x : Nat} (h : x ∈ l) : rank x ≤ rank (maxF l) := by
  cases l with
  | nil => cases h
  | cons y l => exact (fold_max_spec (y :: l) y).1.2 x h
theorem max_mem {l : List Nat} (h : l ≠ []) : ∃ x ∈ l, rank (maxF l) = rank x := by
  cases l with
  | nil => exact absurd rfl h
  | cons y l =>
    rcases (fold_max_spec (y :: l) y).2 with h1 | h1
    · exact ⟨y, by simp, h1⟩
    · exact h1
theorem min_perm {l m : List Nat} (h : ∀ x, x ∈ l ↔ x ∈ m) : rank (minF l) = rank (minF m) := by
  by_cases hl : l = []
  · have hm : m = [] := by
      cases m with
      | nil => rfl
      | cons y m => have := (h y).2 (by simp); rw [hl] at this; cases this
    rw [hl, hm]
  · have hm : m ≠ [] := by
      intro e
      obtain ⟨x, r, rfl⟩ := List.exists_cons_of_ne_nil hl
      have := (h x).1 (by simp); rw [e] at this; cases this
    obtain ⟨x, hx, e1⟩ := min_mem hl
    obtain ⟨y, hy, e2⟩ := min_mem hm
    have a := min_le ((h x).1 hx)
    have b := min_le ((h y).2 hy)
    omega
theorem max_perm {l m : List Nat} (h : ∀ x, x ∈ l ↔ x ∈ m) : rank (maxF l) = rank (maxF m) := by
  by_cases hl : l = []
  · have hm : m = [] := by
      cases m with
      | nil => rfl
      | cons y m => have := (h y).2 (by simp); rw [hl] at this; cases this
    rw [hl, hm]
  · have hm : m ≠ [] := by
      intro e
      obtain ⟨x, r, rfl⟩ := List.exists_cons_of_ne_nil hl
      have := (h x).1 (by simp); rw [e] at this; cases this
    obtain ⟨x, hx, e1⟩ := max_mem hl
    obtain ⟨y, hy, e2⟩ := max_mem hm
    have a := max_ge ((h x).1 hx)
    have b := max_ge ((h y).2 hy)
    omega
def hasB (l : List Nat) (m : Nat) : Bool := l.any fun x => sameB x m
theorem has_snoc (l : List Nat) (m k : Nat) (h : k < l.length) : hasB (l.take (k + 1)) m = (hasB (l.take k) m || sameB (l.getD k 0) m) := by
  rw [take_getD l k 0 h]; simp [hasB]
theorem has_min {l : List Nat} (h : l ≠ []) : hasB l (minF l) = true := by
  obtain ⟨x, hx, e⟩ := min_mem h
  simp only [hasB, List.any_eq_true]
  exact ⟨x, hx, by simp [sameB, e]⟩
theorem has_max {l : List Nat} (h : l ≠ []) : hasB l (maxF l) = true := by
  obtain ⟨x, hx, e⟩ := max_mem h
  simp only [hasB, List.any_eq_true]
  exact ⟨x, hx, by simp [sameB, e]⟩
theorem rev_take (l : List Nat) (k : Nat) (h : k < l.length) : l.reverse.take (k + 1) = l.reverse.take k ++ [l.getD (l.length - 1 - k) 0] := by
  rw [take_getD l.reverse k 0 (by simpa using h)]
  congr 2
  simp only [List.getD]
  rw [List.getElem?_reverse h]
theorem getD_mem {l : List Nat} {k : Nat} (h : k < l.length) : l.getD k 0 ∈ l := by
  have : l.getD k 0 = l[k] := by simp [List.getD, h]
  rw [this]; exact List.getElem_mem h
end FP
