/- Plain: levels, places; contracts of Top and Parent. -/
import Derived.Test.YtnkoniagakhacaaPc
import Derived.Deep.QuietTactic
namespace Go.Proofs.Ytnkoniagakhacaa
open Go.RowKit Go.Deep
set_option maxRecDepth 100000
theorem levs_induct {Q : Int → Prop} (h : ∀ n, (1 < (n + 8 - 1) / 8 → Q ((n + 8 - 1) / 8)) → Q n) : ∀ n, Q n := by
  have : ∀ k : Nat, ∀ n : Int, n.toNat ≤ k → Q n := by
    intro k
    induction k with
    | zero => intro n hn; exact h n fun h1 => absurd h1 (by omega)
    | succ k ih => intro n hn; exact h n fun h1 => ih _ (by omega)
  exact fun n => this n.toNat n (Nat.le_refl _)
theorem levs_ne (n : Int) : levs n ≠ [] := by rw [levs]; split <;> simp
/-- Each level but the last has a block at least, the last one has one; each is as great as what stands below wants. -/
def Good : Int → Int → List Int → Prop
  | _, n, [] => n = 1
  | fan, n, m :: l => 1 ≤ n ∧ m ≤ n ∧ n ≤ fan * m ∧ Good 8 m l
theorem good_levs : ∀ n : Int, 1 ≤ n → Good 8 n (levs n) := by
  intro n
  refine levs_induct (Q := fun n => 1 ≤ n → Good 8 n (levs n)) (fun n ih h1 => ?_) n
  by_cases h : 1 < (n + 8 - 1) / 8
  · rw [levs_cons h]
    exact ⟨h1, by omega, by omega, ih h (by omega)⟩
  · rw [levs_one h]
    exact ⟨h1, by omega, by omega, by show _ = _; omega⟩
theorem good_pos {fan n : Int} {l : List Int} (h : Good fan n l) : 1 ≤ n := by
  cases l with
  | nil => have : n = 1 := h; omega
  | cons m l => exact h.1
theorem good_sum : ∀ {fan n : Int} {l : List Int}, Good fan n l → 0 ≤ lsum l ∧ (l ≠ [] → 1 ≤ lsum l)
  | _, _, [], _ => ⟨Int.le_refl _, fun h => absurd rfl h⟩
  | _, n, m :: l, h => by
    have h1 := good_pos h.2.2.2
    have h2 := good_sum h.2.2.2
    simp only [lsum]
    exact ⟨by omega, fun _ => by omega⟩
def allL (P : Int) : List Int := P :: cnt P :: levs (cnt P)
theorem good_all {P : Int} (h1 : 1 ≤ P) : Good 16 P (cnt P :: levs (cnt P)) := by
  have : 1 ≤ cnt P := by unfold cnt; omega
  exact ⟨h1, by unfold cnt; omega, by unfold cnt; omega, good_levs _ this⟩
theorem lsum_all (P : Int) : lsum (allL P) = hd P := by unfold allL hd nod; simp only [lsum]; omega
/-- All elements are within bounds. -/
theorem good_le : ∀ {fan n : Int} {l : List Int}, Good fan n l → ∀ x ∈ n :: l, 1 ≤ x ∧ x ≤ n
  | _, n, [], h, x, hx => by
    have h1 := good_pos h
    simp at hx; subst hx; omega
  | _, n, m :: l, h, x, hx => by
    rcases List.mem_cons.1 hx with rfl | hx
    · exact ⟨h.1, Int.le_refl _⟩
    · have := good_le h.2.2.2 x hx
      have := h.2.1
      omega
theorem levs_short : ∀ n : Int, n ≤ 256 → (levs n).length ≤ 3 := by
  intro n hn
  rw [levs]
  split
  · rw [levs]
    split
    · rw [levs]
      split
      · omega
      · simp
    · simp
  · simp
theorem nod_le {P : Int} (h : 1 ≤ P) (h2 : P ≤ 4096) : 1 ≤ nod P ∧ nod P ≤ 96 := by
  have hc : 1 ≤ cnt P ∧ cnt P ≤ 256 := by unfold cnt; omega
  have hg := good_levs (cnt P) hc.1
  have hs := good_sum hg
  refine ⟨hs.2 (levs_ne _), ?_⟩
  unfold nod
  have hl := levs_short (cnt P) hc.2
  have hle : ∀ x ∈ levs (cnt P), x ≤ 32 := by
    cases hL : levs (cnt P) with
    | nil => simp
    | cons m l =>
      rw [hL] at hg
      intro x hx
      have := good_le hg.2.2.2 x hx
      have h3 : m = (cnt P + 8 - 1) / 8 := by
        rw [levs] at hL
        split at hL <;> simp at hL <;> exact hL.1.symm
      omega
  generalize levs (cnt P) = l at hl hle
  match l, hl, hle with
  | [], _, _ => simp [lsum]
  | [a], _, hle => have := hle a (by simp); simp [lsum]; omega
  | [a, b], _, hle => have := hle a (by simp); have := hle b (by simp); simp [lsum]; omega
  | [a, b, c], _, hle => have := hle a (by simp); have := hle b (by simp); have := hle c (by simp); simp [lsum]; omega
/-- The place of a block: its block, where in it, the answer's number. -/
def par (fan bs blk : Int) : List Int → Int × Int × Int
  | [] => (0, 0, 1)
  | n :: l => if blk - bs < n then (if l = [] then (0, 0, 5) else (bs + n + (blk - bs) / fan, (blk - bs) % fan, 0)) else par 8 (bs + n) blk l
def parent (P blk : Int) : Int × Int × Int := if blk < 0 then (0, 0, 1) else par 16 0 blk (allL P)
theorem par_miss {fan bs blk n : Int} {l : List Int} (h : ¬ blk - bs < n) : par fan bs blk (n :: l) = par 8 (bs + n) blk l := by rw [par, if_neg h]
theorem par_hit {fan bs blk n : Int} {l : List Int} (h : blk - bs < n) (hl : l ≠ []) : par fan bs blk (n :: l) = (bs + n + (blk - bs) / fan, (blk - bs) % fan, 0) := by rw [par, if_pos h, if_neg hl]
theorem par_top {fan bs blk n : Int} (h : blk - bs < n) : par fan bs blk [n] = (0, 0, 5) := by rw [par, if_pos h, if_pos rfl]
/-- A slice's ints: a row of its own, read. -/
theorem isI_own {w : World} {base : Nat} {e : TypeId} {v : Value} {L : List Int} (h : w.ownsRow base e 1 v L.length (ints L)) (hb : ∀ n ∈ L, -9223372036854775808 ≤ n ∧ n ≤ 9223372036854775807) : ∃ a cap, v = .slice a L.length cap ∧ IsI w a L.length cap L ∧ (∀ x, a = some x → base ≤ x.block) := by
  obtain ⟨hl, ⟨rfl, h0⟩ | ⟨g, cap, cur, rfl, hg, hh, hnc, hcm, hcs, ht⟩⟩ := h
  · exact ⟨none, 0, by rw [h0], ⟨rfl, by omega, by unfold maxLen; omega, hb, Or.inl (List.length_eq_zero_iff.1 h0)⟩, fun _ h => by cases h⟩
  · refine ⟨_, cap, rfl, ⟨rfl, hnc, hcm, hb, Or.inr ⟨g, 0, rfl, (Array.getElem?_eq_some_iff.1 hh).1, fun i hi => ?_⟩⟩, fun x hx => by cases hx; exact hg⟩
    have h2 : (ints L)[i]? = some (.int .i64 (L.getD i 0)) := by simp [ints, List.getD, hi]
    rw [← ht, List.getElem?_take_of_lt (by omega)] at h2
    simp only [World.cell?, hh, Nat.zero_add]
    simpa using h2
theorem IsI.below {w w' : World} {a : Option Addr} {len cap : Nat} {zs : List Int} (h : IsI w a len cap zs) {B : Nat} (hb : Below B w w') (ha : ∀ x, a = some x → x.block < B) : IsI w' a len cap zs := by
  refine ⟨h.hlen, h.hcap, h.hmax, h.wf, ?_⟩
  rcases h.at_ with e | ⟨b, off, rfl, hlt, hc⟩
  · exact Or.inl e
  · have hb' := ha _ rfl
    exact Or.inr ⟨b, off, rfl, Nat.lt_of_lt_of_le hlt hb.size, fun i hi => (hb.cell (p := ⟨b, off + i, none⟩) hb').trans (hc i hi)⟩
theorem IsI.same {w w' : World} {a : Option Addr} {len cap : Nat} {zs : List Int} (h : IsI w a len cap zs) (hb : Below w.heap.size w w') : IsI w' a len cap zs := by
  refine ⟨h.hlen, h.hcap, h.hmax, h.wf, ?_⟩
  rcases h.at_ with e | ⟨b, off, rfl, hlt, hc⟩
  · exact Or.inl e
  · exact Or.inr ⟨b, off, rfl, Nat.lt_of_lt_of_le hlt hb.size, fun i hi => (hb.cell (p := ⟨b, off + i, none⟩) hlt).trans (hc i hi)⟩
theorem levs_wf {P : Int} (h : 1 ≤ P ∧ P ≤ 4096) : ∀ n ∈ levs (cnt P), -9223372036854775808 ≤ n ∧ n ≤ 9223372036854775807 := by
  intro n hn
  have := good_le (good_all h.1) n (by simp [hn])
  omega
theorem top_any (w : World) (v0 v1 v2 v3 v4 v6 v7 v8 v9 : Value) (h : Int) (hh : 0 ≤ h ∧ h ≤ 1000000) : Calls Try.prog 17 #[.agg #[v0, v1, v2, v3, v4, .int .i64 h, v6, v7, v8, v9]] w fun e w' => e = .returned (.int .i64 (h - 1)) ∧ Below w.heap.size w w' := by
  have e1 : wrap64 (h - 1) = h - 1 := IntWalk.wrap64_in _ (by omega)
  go_enter Try.func17, Try.ntmps17
  go_wp2
  go_ret
  exact ⟨rfl, (Below.refl _ _).alloc (Nat.le_refl _) _⟩
end Go.Proofs.Ytnkoniagakhacaa
