/- Plain: the places of the blocks, one behind the other. -/
import Derived.Test.YtnkoniagakhacaaPm
namespace Go.Proofs.Ytnkoniagakhacaa
open Go.RowKit Go.Deep
set_option maxRecDepth 100000
/-- No level is greater than what stands below wants. -/
def Ex : Int → Int → List Int → Prop
  | _, _, [] => True
  | fan, n, m :: l => fan * (m - 1) < n ∧ Ex 8 m l
theorem ex_levs : ∀ n : Int, 1 ≤ n → Ex 8 n (levs n) := by
  intro n
  refine levs_induct (Q := fun n => 1 ≤ n → Ex 8 n (levs n)) (fun n ih h1 => ?_) n
  by_cases h : 1 < (n + 8 - 1) / 8
  · rw [levs_cons h]
    exact ⟨by omega, ih h (by omega)⟩
  · rw [levs_one h]
    exact ⟨by omega, trivial⟩
theorem ex_all {P : Int} (h1 : 1 ≤ P) : Ex 16 P (cnt P :: levs (cnt P)) := ⟨by unfold cnt; omega, ex_levs _ (by unfold cnt; omega)⟩
theorem par_ok : ∀ (l : List Int) (fan bs n b : Int), Good fan n l → (fan = 8 ∨ fan = 16) → bs ≤ b → b < bs + lsum (n :: l) - 1 →
    ∃ x a, par fan bs b (n :: l) = (x, a, 0) ∧ b < x ∧ x < bs + lsum (n :: l) ∧ bs + n ≤ x ∧ 0 ≤ a ∧ a < 16 ∧ (bs + n ≤ b ∨ fan = 8 → a < 8)
  | [], fan, bs, n, b, hg, hf, h0, h1 => by
    have : n = 1 := hg
    simp only [lsum] at h1
    omega
  | m :: l, fan, bs, n, b, hg, hf, h0, h1 => by
    by_cases hb : b - bs < n
    · rw [par_hit hb (by simp)]
      have hd := div_lt (o := b - bs) (by omega) hb hg.2.2.1 hf
      have hs := good_sum hg.2.2.2
      simp only [lsum] at h1 ⊢
      refine ⟨_, _, rfl, by omega, by omega, by omega, ?_, ?_, ?_⟩
      · rcases hf with rfl | rfl <;> omega
      · rcases hf with rfl | rfl <;> omega
      · intro h
        rcases hf with rfl | rfl <;> omega
    · rw [par_miss hb]
      simp only [lsum] at h1 ⊢
      obtain ⟨x, a, e, h2, h3, h4, h5, h6, h7⟩ := par_ok l 8 (bs + n) m b hg.2.2.2 (Or.inl rfl) (by omega) (by simp only [lsum]; omega)
      simp only [lsum] at h3
      have h8 := good_pos hg.2.2.2
      exact ⟨x, a, e, h2, by omega, by omega, h5, h6, fun _ => h7 (Or.inr rfl)⟩
theorem div_next {o fan : Int} (h : 0 ≤ o) (hf : fan = 8 ∨ fan = 16) : ((o + 1) / fan = o / fan ∧ (o + 1) % fan = o % fan + 1) ∨ ((o + 1) / fan = o / fan + 1 ∧ (o + 1) % fan = 0) := by
  rcases hf with rfl | rfl <;> omega
theorem par_next : ∀ (l : List Int) (fan bs n b x a : Int), Good fan n l → Ex fan n l → (fan = 8 ∨ fan = 16) → bs ≤ b → b + 1 < bs + lsum (n :: l) - 1 →
    par fan bs b (n :: l) = (x, a, 0) → par fan bs (b + 1) (n :: l) = (x, a + 1, 0) ∨ par fan bs (b + 1) (n :: l) = (x + 1, 0, 0)
  | [], fan, bs, n, b, x, a, hg, he, hf, h0, h1, hp => by
    have : n = 1 := hg
    simp only [lsum] at h1
    omega
  | m :: l, fan, bs, n, b, x, a, hg, he, hf, h0, h1, hp => by
    by_cases hb : b - bs < n
    · rw [par_hit hb (by simp)] at hp
      simp only [Prod.mk.injEq] at hp
      obtain ⟨rfl, rfl, -⟩ := hp
      by_cases hb1 : b + 1 - bs < n
      · rw [par_hit hb1 (by simp), show b + 1 - bs = b - bs + 1 by omega]
        rcases div_next (o := b - bs) (by omega) hf with ⟨e1, e2⟩ | ⟨e1, e2⟩
        · left; rw [e1, e2]
        · right; rw [e1, e2, show bs + n + ((b - bs) / fan + 1) = bs + n + (b - bs) / fan + 1 by omega]
      · rw [par_miss hb1]
        right
        have hm := hg.2.2.1
        have hx := he.1
        simp only [lsum] at h1
        have hl : l ≠ [] := by
          intro e
          subst e
          have : m = 1 := hg.2.2.2
          simp only [lsum] at h1
          omega
        have hmp := good_pos hg.2.2.2
        rw [par_hit (by omega) hl]
        simp only [Prod.mk.injEq]
        have e1 : b + 1 - (bs + n) = 0 := by omega
        rw [e1]
        refine ⟨?_, by decide, trivial⟩
        rcases hf with rfl | rfl <;> omega
    · rw [par_miss hb] at hp
      rw [par_miss (by omega)]
      simp only [lsum] at h1
      exact par_next l 8 (bs + n) m b x a hg.2.2.2 he.2 (Or.inl rfl) (by omega) (by simp only [lsum]; omega) hp
theorem par_last : ∀ (l : List Int) (fan bs n b : Int), Good fan n l → Ex fan n l → (fan = 8 ∨ fan = 16) → bs ≤ b → b = bs + lsum (n :: l) - 2 →
    (par fan bs b (n :: l)).1 = bs + lsum (n :: l) - 1
  | [], fan, bs, n, b, hg, he, hf, h0, h1 => by
    have : n = 1 := hg
    simp only [lsum] at h1
    omega
  | m :: l, fan, bs, n, b, hg, he, hf, h0, h1 => by
    have hs := good_sum hg.2.2.2
    have hmp := good_pos hg.2.2.2
    simp only [lsum] at h1 ⊢
    by_cases hb : b - bs < n
    · rw [par_hit hb (by simp)]
      have hl : l = [] := by
        by_cases e : l = []
        · exact e
        · have := hs.2 e; omega
      subst hl
      have hm1 : m = 1 := hg.2.2.2
      simp only [lsum] at h1 ⊢
      have hm := hg.2.2.1
      rcases hf with rfl | rfl <;> omega
    · rw [par_miss hb]
      have := par_last l 8 (bs + n) m b hg.2.2.2 he.2 (Or.inl rfl) (by omega) (by simp only [lsum]; omega)
      simp only [lsum] at this
      omega
/-- The blocks of a plan. -/
theorem place_ok {P b : Int} (hP : 1 ≤ P ∧ P ≤ 4096) (h0 : 0 ≤ b) (h1 : b < hd P - 1) : ∃ x a, parent P b = (x, a, 0) ∧ b < x ∧ x < hd P ∧ P ≤ x ∧ 0 ≤ a ∧ a < 16 ∧ (P ≤ b → a < 8) := by
  have hs := lsum_all P
  obtain ⟨x, a, e, h2, h3, h4, h5, h6, h7⟩ := par_ok (cnt P :: levs (cnt P)) 16 0 P b (good_all hP.1) (Or.inr rfl) h0 (by unfold allL at hs; omega)
  unfold allL at hs
  exact ⟨x, a, by unfold parent allL; rw [if_neg (by omega), e], h2, by omega, by omega, h5, h6, fun h => h7 (Or.inl (by omega))⟩
theorem place_next {P b x a : Int} (hP : 1 ≤ P ∧ P ≤ 4096) (h0 : 0 ≤ b) (h1 : b + 1 < hd P - 1) (hp : parent P b = (x, a, 0)) : parent P (b + 1) = (x, a + 1, 0) ∨ parent P (b + 1) = (x + 1, 0, 0) := by
  have hs := lsum_all P
  unfold allL at hs
  unfold parent allL at hp ⊢
  rw [if_neg (by omega)] at hp ⊢
  exact par_next _ 16 0 P b x a (good_all hP.1) (ex_all hP.1) (Or.inr rfl) h0 (by omega) hp
theorem place_zero {P : Int} (hP : 1 ≤ P ∧ P ≤ 4096) : parent P 0 = (P, 0, 0) := by
  unfold parent allL
  rw [if_neg (by omega), par_hit (by omega) (by simp)]
  simp
theorem place_last {P : Int} (hP : 1 ≤ P ∧ P ≤ 4096) : (parent P (hd P - 2)).1 = hd P - 1 := by
  have hs := lsum_all P
  have h := hd_le hP
  unfold allL at hs
  unfold parent allL
  rw [if_neg (by omega)]
  have := par_last (cnt P :: levs (cnt P)) 16 0 P (hd P - 2) (good_all hP.1) (ex_all hP.1) (Or.inr rfl) (by omega) (by omega)
  omega
theorem place_top {P : Int} (hP : 1 ≤ P ∧ P ≤ 4096) : parent P (hd P - 1) = (0, 0, 5) := by
  have hs := lsum_all P
  have h := hd_le hP
  have gen : ∀ (l : List Int) (fan bs n b : Int), Good fan n l → b = bs + lsum (n :: l) - 1 → par fan bs b (n :: l) = (0, 0, 5) := by
    intro l
    induction l with
    | nil =>
      intro fan bs n b hg hb
      have : n = 1 := hg
      simp only [lsum] at hb
      exact par_top (by omega)
    | cons m l ih =>
      intro fan bs n b hg hb
      have hs := good_sum hg.2.2.2
      have hmp := good_pos hg.2.2.2
      simp only [lsum] at hb
      rw [par_miss (by omega)]
      exact ih 8 (bs + n) m b hg.2.2.2 (by simp only [lsum]; omega)
  unfold allL at hs
  unfold parent allL
  rw [if_neg (by omega)]
  exact gen _ 16 0 P _ (good_all hP.1) (by omega)
/-- One bit more. -/
theorem bits_and (m : Nat) (h : m ≤ 16) : bits .and .i64 (((2 : Int) ^ m - 1) / 2 ^ m) 1 = 0 := by
  have : ∀ m, m ≤ 16 → bits .and .i64 (((2 : Int) ^ m - 1) / 2 ^ m) 1 = 0 := by decide +kernel
  exact this m h
theorem bits_or (m : Nat) (h : m ≤ 16) : bits .or .i64 ((2 : Int) ^ m - 1) (2 ^ m) = 2 ^ (m + 1) - 1 := by
  have : ∀ m, m ≤ 16 → bits .or .i64 ((2 : Int) ^ m - 1) (2 ^ m) = 2 ^ (m + 1) - 1 := by decide +kernel
  exact this m h
end Go.Proofs.Ytnkoniagakhacaa
