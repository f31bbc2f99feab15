/- Rows of tasks: what each call makes of them, plainly; Next and Wake with no condition but that tasks fit. -/
import Derived.Test.YtpfdfbmoegajbaaGf
import Derived.Test.YtpfdfbmoegajbaaFpf
namespace Go.Proofs.Ytpfdfbmoegajbaa
open Go.RowKit Go.Deep
set_option maxRecDepth 100000
/-- Weights lie in their bounds, passes are numbers and not negative. -/
def Fit (T : List Tk) : Prop := ∀ t ∈ T, (4562146422526312448 ≤ t.2.1 ∧ t.2.1 ≤ 4652218415073722368) ∧ t.2.2 ≤ 9218868437227405312
def fq (w : Nat) : Nat := (floatBits .quo .f64 4607182418800017408 w).getD 0
def fa (x y : Nat) : Nat := (floatBits .add .f64 x y).getD 0
theorem fq_spec {w : Nat} (h1 : 4562146422526312448 ≤ w) (h2 : w ≤ 4652218415073722368) : floatBits .quo .f64 4607182418800017408 w = some (fq w) ∧ fq w ≤ 4652218415073722368 ∧ 4557642822898941952 ≤ fq w := by
  obtain ⟨q, h, a, b⟩ := FP.div_one h1 h2
  have h' : floatBits .quo .f64 4607182418800017408 w = some q := h
  unfold fq
  rw [h']
  exact ⟨rfl, a, b⟩
theorem fa_spec {x y : Nat} (h1 : x ≤ 9218868437227405312) (h2 : y ≤ 9218868437227405312) : floatBits .add .f64 x y = some (fa x y) ∧ fa x y ≤ 9218868437227405312 := by
  obtain ⟨q, h, a⟩ := FP.add_nn h1 h2
  have h' : floatBits .add .f64 x y = some q := h
  unfold fa
  rw [h']
  exact ⟨rfl, a⟩
theorem fa_rd {x y : Nat} (h1 : x < 9218868437227405312) (h2 : y < 9218868437227405312) : fa x y = FP.rd (FP.val x + FP.val y) 0 := by
  have h' : floatBits .add .f64 x y = some _ := FP.add_pos h1 h2
  unfold fa
  rw [h']; rfl
theorem Fit.at {T : List Tk} (h : Fit T) {i : Nat} (hi : i < T.length) : (4562146422526312448 ≤ (T.getD i tk0).2.1 ∧ (T.getD i tk0).2.1 ≤ 4652218415073722368) ∧ (T.getD i tk0).2.2 ≤ 9218868437227405312 :=
  h _ (by rw [List.getD_eq_getElem?_getD, List.getElem?_eq_getElem hi]; exact List.getElem_mem hi)
theorem Fit.set {T : List Tk} (h : Fit T) (i : Nat) {t : Tk} (ht : (4562146422526312448 ≤ t.2.1 ∧ t.2.1 ≤ 4652218415073722368) ∧ t.2.2 ≤ 9218868437227405312) : Fit (T.set i t) := fun s hs => by
  rcases mem_set_of hs with rfl | hs
  · exact ht
  · exact h s hs
theorem Fit.fresh (n : Nat) : Fit (fresh n) := fun t ht => by
  have := List.eq_of_mem_replicate ht
  subst this
  exact ⟨⟨by decide, by decide⟩, by decide⟩
/-- The best of some is one of them. -/
theorem bestF_mem (T : List Tk) : ∀ (L : List Int) (b : Int), (L.foldl (nb T) b = b) ∨ L.foldl (nb T) b ∈ L
  | [], b => Or.inl rfl
  | x :: L, b => by
    rw [List.foldl_cons]
    rcases bestF_mem T L (nb T b x) with h | h
    · rw [h]
      unfold nb
      split
      · exact Or.inr List.mem_cons_self
      · split
        · exact Or.inr List.mem_cons_self
        · exact Or.inl rfl
    · exact Or.inr (List.mem_cons_of_mem _ h)
theorem foldl_nb_nonneg (T : List Tk) : ∀ (L : List Int) (b : Int), (∀ x ∈ L, 0 ≤ x) → (0 ≤ b ∨ L ≠ []) → 0 ≤ L.foldl (nb T) b
  | [], b, _, h => by rcases h with h | h; exact h; exact absurd rfl h
  | x :: L, b, hL, _ => by
    rw [List.foldl_cons]
    refine foldl_nb_nonneg T L _ (fun y hy => hL y (List.mem_cons_of_mem _ hy)) (Or.inl ?_)
    have hx := hL x List.mem_cons_self
    unfold nb
    split
    · exact hx
    · split
      · exact hx
      · omega
theorem bestF_awk {T : List Tk} {n : Nat} (h : awk T n ≠ []) : ∃ b : Nat, bestF T (awk T n) = (b : Int) ∧ b < n ∧ (T.getD b tk0).1 = true ∧ (b : Int) ∈ awk T n := by
  have h0 : 0 ≤ bestF T (awk T n) := foldl_nb_nonneg T _ _ (fun x hx => by obtain ⟨i, rfl, -⟩ := awk_mem hx; omega) (Or.inr h)
  rcases bestF_mem T (awk T n) (-1) with h1 | h1
  · unfold bestF at h0; omega
  · obtain ⟨i, e, hi, ht⟩ := awk_mem h1
    exact ⟨i, e, hi, ht, e ▸ h1⟩
/-- What Next answers, and what it makes of the tasks. -/
def nextB (T : List Tk) : Nat := (bestF T (awk T T.length)).toNat
def nextK (T : List Tk) : Int := if awk T T.length = [] then 0 else bestF T (awk T T.length)
def nextOk (T : List Tk) : Bool := decide (awk T T.length ≠ [])
def nextT (T : List Tk) : List Tk := if awk T T.length = [] then T else T.set (nextB T) ((T.getD (nextB T) tk0).1, (T.getD (nextB T) tk0).2.1, fa (T.getD (nextB T) tk0).2.2 (fq (T.getD (nextB T) tk0).2.1))
def has (T : List Tk) (i : Int) : Prop := 0 ≤ i ∧ i < (T.length : Int)
instance (T : List Tk) (i : Int) : Decidable (has T i) := by unfold has; infer_instance
def code (T : List Tk) (i : Int) : Int := if has T i then 0 else 1
def wakeA (T : List Tk) (i : Int) : List Tk := if has T i then (if (T.getD i.toNat tk0).1 then T else wakeT T i.toNat (fa (FP.minF (passes T (awk T T.length))) 4652218415073722368)) else T
def sleepA (T : List Tk) (i : Int) : List Tk := if has T i then T.set i.toNat (false, (T.getD i.toNat tk0).2) else T
def weightA (T : List Tk) (i : Int) (x : Nat) : List Tk := if has T i then T.set i.toNat ((T.getD i.toNat tk0).1, FP.clampB (if FP.isNaN x then 4607182418800017408 else x) 4562146422526312448 4652218415073722368, (T.getD i.toNat tk0).2.2) else T
theorem nextT_length (T : List Tk) : (nextT T).length = T.length := by unfold nextT; split <;> simp
theorem wakeA_length (T : List Tk) (i : Int) : (wakeA T i).length = T.length := by unfold wakeA; split; split; rfl; unfold wakeT; simp; rfl
theorem sleepA_length (T : List Tk) (i : Int) : (sleepA T i).length = T.length := by unfold sleepA; split <;> simp
theorem weightA_length (T : List Tk) (i : Int) (x : Nat) : (weightA T i x).length = T.length := by unfold weightA; split <;> simp
theorem passes_pos {T : List Tk} (h : Fit T) {n : Nat} (hn : n ≤ T.length) : ∀ x ∈ passes T (awk T n), x ≤ 9218868437227405312 := fun x hx => by
  obtain ⟨y, hy, rfl⟩ := List.mem_map.1 hx
  obtain ⟨i, rfl, hi, -⟩ := awk_mem hy
  exact (h.at (i := i) (by omega)).2
theorem minF_pos {L : List Nat} (h : ∀ x ∈ L, x ≤ 9218868437227405312) (hne : L ≠ []) : FP.minF L ∈ L ∧ ∀ x ∈ L, FP.minF L ≤ x := by
  obtain ⟨x, hx, he⟩ := FP.min_mem hne
  have hw : FP.minF L < 18446744073709551616 := FP.minF_lt fun n hn => by have := h n hn; omega
  have hxl := h x hx
  have hrx := FP.rank_pos hxl
  have e : x = FP.minF L := FP.rank_inj (by omega) hw (by unfold FP.isNaN; rw [FP.rung_pos (by omega)]; simp; omega) he.symm
  refine ⟨e ▸ hx, fun y hy => ?_⟩
  have h1 := FP.min_le hy
  have hyl := h y hy
  rw [← e, hrx, FP.rank_pos hyl] at h1
  omega
theorem passes_ne {T : List Tk} {L : List Int} (h : L ≠ []) : passes T L ≠ [] := by unfold passes; simpa using h
theorem Fit.next {T : List Tk} (h : Fit T) : Fit (nextT T) := by
  unfold nextT
  split
  · exact h
  · rename_i hne
    obtain ⟨b, hb, hbl, -, -⟩ := bestF_awk hne
    have e : nextB T = b := by unfold nextB; rw [hb]; rfl
    rw [e]
    have hf := h.at hbl
    have hq := fq_spec hf.1.1 hf.1.2
    exact h.set _ ⟨hf.1, (fa_spec hf.2 (by omega)).2⟩
theorem Fit.wakeT {T : List Tk} (h : Fit T) {i : Nat} (hi : i < T.length) : Fit (wakeT T i (fa (FP.minF (passes T (awk T T.length))) 4652218415073722368)) := by
  have hf := h.at hi
  unfold Proofs.Ytpfdfbmoegajbaa.wakeT
  refine h.set _ ⟨hf.1, ?_⟩
  dsimp only
  split
  · exact hf.2
  · rename_i hne
    have hm := minF_pos (passes_pos h (Nat.le_refl _)) (passes_ne (T := T) hne)
    have hml := passes_pos h (Nat.le_refl _) _ hm.1
    have ha := fa_spec hml (show 4652218415073722368 ≤ 9218868437227405312 by omega)
    unfold FP.clampB
    split
    · exact hml
    · split
      · exact ha.2
      · exact hf.2
theorem has_nat {T : List Tk} {i : Int} (h : has T i) : ∃ j : Nat, i = j ∧ j < T.length := ⟨i.toNat, by unfold has at h; omega, by unfold has at h; omega⟩
theorem Fit.wake {T : List Tk} (h : Fit T) (i : Int) : Fit (wakeA T i) := by
  unfold wakeA
  split
  · rename_i hi
    split
    · exact h
    · exact h.wakeT (by unfold has at hi; omega)
  · exact h
theorem Fit.sleep {T : List Tk} (h : Fit T) (i : Int) : Fit (sleepA T i) := by
  unfold sleepA
  split
  · rename_i hi
    exact h.set _ (h.at (by unfold has at hi; omega))
  · exact h
theorem Fit.weight {T : List Tk} (h : Fit T) (i : Int) {x : Nat} (hx : x < 18446744073709551616) : Fit (weightA T i x) := by
  unfold weightA
  split
  · rename_i hi
    exact h.set _ ⟨FP.clampB_in (by split <;> omega) (by decide) (by decide), (h.at (by unfold has at hi; omega)).2⟩
  · exact h
theorem RowAt.glt {w : World} {p g cap : Nat} {T : List Tk} (h : RowAt w p g cap T) : g < w.heap.size := World.block_lt_of_cell? w _ (h.task (i := 0) (by have := h.n1; omega)).1
theorem not_has {T : List Tk} {i : Int} (h : ¬ has T i) : i < 0 ∨ (T.length : Int) ≤ i := by unfold has at h; omega
abbrev OnlyG (g : Nat) (w w' : World) : Prop := Fr (fun q => q = g) w w'
theorem onlyG_set {g : Nat} {w w1 : World} (h : Below w.heap.size w w1) (j : Nat) (v : Value) : OnlyG g w (w1.setCell ⟨g, j, none⟩ v) := (Fr.of_below (S := fun q => q = g) h).setCell (Or.inl rfl) _
theorem next_any (w : World) (p g cap : Nat) (T : List Tk) (h : RowAt w p g cap T) (hf : Fit T) :
    Calls Try.prog 13 #[.pointer (some ⟨p, 0, none⟩)] w fun e w' => e = .returned (.tuple #[.int .i64 (nextK T), .bool (nextOk T)]) ∧ RowAt w' p g cap (nextT T) ∧ OnlyG g w w' := by
  by_cases hne : awk T T.length = []
  · have e1 : nextK T = 0 := by unfold nextK; rw [if_pos hne]
    have e2 : nextOk T = false := by unfold nextOk; rw [hne]; rfl
    have e3 : nextT T = T := by unfold nextT; rw [if_pos hne]
    rw [e1, e2, e3]
    have HAW := Lib.hid (awake_row w p g cap T h)
    rw [hne] at HAW
    have H := Lib.hid h
    clear hne hf h e1 e2 e3
    go_enter Try.func13, Try.ntmps13
    go_wp2_with (go_at_call 17; refine HAW.out.mono ?_; rintro e w2 ⟨v, rfl, hown, hB⟩; obtain ⟨va, vc, rfl⟩ := own_shape' hown)
    have HB := Lib.hid hB
    clear hown hB
    refine wp_loop_rounds 1 ?_
    rw [rounds_succ]
    go_wp2
    go_ret2
    exact ⟨rfl, H.out.below HB.out, Fr.of_below HB.out⟩
  · obtain ⟨b, hb, hbl, -, -⟩ := bestF_awk hne
    have ft := hf.at hbl
    have hq := fq_spec ft.1.1 ft.1.2
    have hs := fa_spec ft.2 (show fq (T.getD b tk0).2.1 ≤ 9218868437227405312 by omega)
    have eb : nextB T = b := by unfold nextB; rw [hb]; rfl
    refine (next_row w p g cap T h _ _ b hb hbl hq.1 hs.1).mono ?_
    rintro e w' ⟨rfl, w1, hB, rfl⟩
    refine ⟨?_, ?_, onlyG_set hB _ _⟩
    · have e1 : nextK T = (b : Int) := by unfold nextK; rw [if_neg hne, hb]
      have e2 : nextOk T = true := by unfold nextOk; simp [hne]
      rw [e1, e2]
    · unfold nextT
      rw [if_neg hne, eb]
      exact (h.below hB).pass hbl _ (by omega)
theorem wake_any (w : World) (p g cap : Nat) (T : List Tk) (h : RowAt w p g cap T) (hf : Fit T) (i : Int) :
    Calls Try.prog 12 #[.pointer (some ⟨p, 0, none⟩), .int .i64 i] w fun e w' => e = .returned (.int .i64 (code T i)) ∧ RowAt w' p g cap (wakeA T i) ∧ OnlyG g w w' := by
  unfold code wakeA
  by_cases hi : has T i
  · obtain ⟨j, rfl, hj⟩ := has_nat hi
    rw [if_pos hi, if_pos hi, Int.toNat_natCast]
    by_cases ha : (T.getD j tk0).1 = true
    · rw [if_pos ha]
      refine (wake_on w p g cap T h j hj ha).mono ?_
      rintro e w' ⟨rfl, rfl⟩
      exact ⟨rfl, h, Fr.refl _ _⟩
    · rw [if_neg ha]
      have hl : fa (FP.minF (passes T (awk T T.length))) 4652218415073722368 < 18446744073709551616 ∧ (awk T T.length ≠ [] → floatBits .add .f64 (FP.minF (passes T (awk T T.length))) 4652218415073722368 = some (fa (FP.minF (passes T (awk T T.length))) 4652218415073722368)) := by
        by_cases hne : awk T T.length = []
        · rw [hne]
          exact ⟨by rw [show passes T [] = [] from rfl]; decide +kernel, fun h => absurd rfl h⟩
        · have hm := minF_pos (passes_pos hf (Nat.le_refl _)) (passes_ne (T := T) hne)
          have hml := passes_pos hf (Nat.le_refl _) _ hm.1
          have ha := fa_spec hml (show 4652218415073722368 ≤ 9218868437227405312 by omega)
          exact ⟨by omega, fun _ => ha.1⟩
      exact wake_in w p g cap T h j hj (by simpa using ha) _ hl.1 hl.2
  · rw [if_neg hi, if_neg hi]
    refine (wake_out w p g cap T h i (not_has hi)).mono ?_
    rintro e w' ⟨rfl, rfl⟩
    exact ⟨rfl, h, Fr.refl _ _⟩
theorem sleep_any (w : World) (p g cap : Nat) (T : List Tk) (h : RowAt w p g cap T) (i : Int) :
    Calls Try.prog 20 #[.pointer (some ⟨p, 0, none⟩), .int .i64 i] w fun e w' => e = .returned (.int .i64 (code T i)) ∧ RowAt w' p g cap (sleepA T i) ∧ OnlyG g w w' := by
  unfold code sleepA
  by_cases hi : has T i
  · obtain ⟨j, rfl, hj⟩ := has_nat hi
    rw [if_pos hi, if_pos hi, Int.toNat_natCast]
    refine (sleep_in w p g cap T h j hj).mono ?_
    rintro e w' ⟨rfl, rfl⟩
    exact ⟨rfl, h.awake hj false, onlyG_set (Below.refl _ _) _ _⟩
  · rw [if_neg hi, if_neg hi]
    refine (sleep_out w p g cap T h i (not_has hi)).mono ?_
    rintro e w' ⟨rfl, rfl⟩
    exact ⟨rfl, h, Fr.refl _ _⟩
theorem weight_any (w : World) (p g cap : Nat) (T : List Tk) (h : RowAt w p g cap T) (i : Int) (x : Nat) (hx : x < 18446744073709551616) :
    Calls Try.prog 11 #[.pointer (some ⟨p, 0, none⟩), .int .i64 i, .float .f64 x] w fun e w' => e = .returned (.int .i64 (code T i)) ∧ RowAt w' p g cap (weightA T i x) ∧ OnlyG g w w' := by
  unfold code weightA
  by_cases hi : has T i
  · obtain ⟨j, rfl, hj⟩ := has_nat hi
    rw [if_pos hi, if_pos hi, Int.toNat_natCast]
    refine (weight_in w p g cap T h j hj x hx).mono ?_
    rintro e w' ⟨rfl, rfl⟩
    exact ⟨rfl, h.weight hj _ (FP.clampB_lt (by split <;> omega) (by decide) (by decide)), onlyG_set (Below.refl _ _) _ _⟩
  · rw [if_neg hi, if_neg hi]
    refine (weight_out w p g cap T h i x (not_has hi)).mono ?_
    rintro e w' ⟨rfl, rfl⟩
    exact ⟨rfl, h, Fr.refl _ _⟩
theorem pass_any (w : World) (p g cap : Nat) (T : List Tk) (h : RowAt w p g cap T) (i : Int) :
    Calls Try.prog 21 #[.pointer (some ⟨p, 0, none⟩), .int .i64 i] w fun e w' => e = .returned (.float .f64 (if has T i then (T.getD i.toNat tk0).2.2 else 0)) ∧ w = w' := by
  by_cases hi : has T i
  · obtain ⟨j, rfl, hj⟩ := has_nat hi
    rw [if_pos hi, Int.toNat_natCast]
    exact pass_in w p g cap T h j hj
  · rw [if_neg hi]
    exact pass_out w p g cap T h i (not_has hi)
end Go.Proofs.Ytpfdfbmoegajbaa
