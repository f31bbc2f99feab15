/- A gauge: numbers added one behind the other; the document's example. -/
import Derived.Test.YtdjilhahafkpfaaLr
namespace Go.Proofs.Ytdjilhahafkpfaa
open Go.RowKit Go.Deep
set_option maxRecDepth 100000
theorem below_chain2 {W0 w w' : World} (h : Below W0.heap.size W0 w) (k : Below w.heap.size w w') : Below W0.heap.size W0 w' := below_chain h k
def topV : Int := FP.val 9218868437227405312
def addG (G : Gs) (x : Nat) : Gs := if FP.isNaN x then addN G else if FP.isInf x then (if FP.sgn x then addL' G else addH G) else addF G x
structure Held (k : Nat) (G : Gs) : Prop where
  c : G.c ≤ k
  o : G.o ≤ k
  h : G.h ≤ k
  l : G.l ≤ k
  mn : G.mn < 18446744073709551616
  mx : G.mx < 18446744073709551616
  v : -(k * topV) ≤ G.V ∧ G.V ≤ k * topV
theorem topV_pos : 0 < topV := by unfold topV; have := FP.val_inf_pos; omega
theorem topV_lim {k : Nat} (hk : k ≤ 1000) : (k : Int) * topV < 4294967296 ^ 69 := by
  obtain ⟨f, hf⟩ : ∃ f, f = 2046 := ⟨_, rfl⟩
  have h1 : FP.val 9218868437227405312 = 4503599627370496 * 2 ^ f := by rw [hf]; exact FP.val_inf
  have h2 : k * FP.val 9218868437227405312 < 4294967296 ^ 69 := by
    have e : (4294967296 : Nat) ^ 69 = 2 ^ (f + 162) := by
      obtain ⟨g, hg⟩ : ∃ g, g = 69 := ⟨_, rfl⟩
      rw [← hg, show (4294967296 : Nat) = 2 ^ 32 by decide, ← Nat.pow_mul, show 32 * g = f + 162 by omega]
    rw [e, h1, ← Nat.mul_assoc, Nat.pow_add, Nat.mul_comm (2 ^ f)]
    have h3 : (2 : Nat) ^ 162 = 5846006549323611672814739330865132078623730171904 := by decide
    rw [h3]
    exact Nat.mul_lt_mul_of_pos_right (by omega) (Nat.two_pow_pos f)
  unfold topV
  have e : ((4294967296 : Int) ^ 69) = ((4294967296 ^ 69 : Nat) : Int) := by rw [Int.natCast_pow]; rfl
  rw [e, ← Int.natCast_mul]
  exact Int.ofNat_lt.2 h2
theorem Held.lim {k : Nat} {G : Gs} (h : Held k G) (hk : k ≤ 1000) : Lim G.V := by
  have := topV_lim hk
  have h2 := h.v
  unfold Lim
  generalize (k : Int) * topV = T at *
  generalize (4294967296 : Int) ^ 69 = B at *
  omega
theorem Held.ok {k : Nat} {G : Gs} (h : Held k G) (hk : k ≤ 1000) : GsOk G := ⟨by have := h.c; omega, by have := h.o; omega, by have := h.h; omega, by have := h.l; omega, h.mn, h.mx⟩
theorem held0 : Held 0 gs0 := ⟨by decide, by decide, by decide, by decide, by decide, by decide, by simp [gs0]⟩
theorem mnOf_lt {G : Gs} {x : Nat} (h : G.mn < 18446744073709551616) (hx : x < 18446744073709551616) : mnOf G x < 18446744073709551616 :=
  FP.minF_lt (by intro n hn; simp at hn; rcases hn with rfl | rfl <;> assumption)
theorem num_bound {x : Nat} (hf : FP.rung x < 9218868437227405312) : -topV ≤ FP.num x ∧ FP.num x ≤ topV := by
  have := FP.num_lt_inf hf
  unfold topV; omega
theorem Held.add {k : Nat} {G : Gs} (h : Held k G) {x : Nat} (hx : x < 18446744073709551616) : Held (k + 1) (addG G x) := by
  obtain ⟨hc, ho, hh, hl, hmn, hmx, hv⟩ := h
  have hm := mnOf_lt hmn hx
  have hm1 := mnOf_lt (x := 9218868437227405312) hmn (by decide)
  have hm2 := mnOf_lt (x := 18442240474082181120) hmn (by decide)
  have hp := topV_pos
  have hk1 : ((k + 1 : Nat) : Int) * topV = k * topV + topV := by rw [Int.natCast_add, Int.add_mul]; simp
  unfold addG
  split
  · exact ⟨by show G.c ≤ _; omega, by show G.o + 1 ≤ _; omega, by show G.h ≤ _; omega, by show G.l ≤ _; omega, hmn, hmx, by rw [hk1]; show _ ≤ G.V ∧ G.V ≤ _; omega⟩
  · split
    · split
      · exact ⟨by show G.c ≤ _; omega, by show G.o ≤ _; omega, by show G.h ≤ _; omega, by show G.l + 1 ≤ _; omega, hm2, by show (if _ then _ else _) < _; split; decide; exact hmx, by rw [hk1]; show _ ≤ G.V ∧ G.V ≤ _; omega⟩
      · exact ⟨by show G.c ≤ _; omega, by show G.o ≤ _; omega, by show G.h + 1 ≤ _; omega, by show G.l ≤ _; omega, hm1, by show (if _ then _ else _) < _; split; decide; exact hmx, by rw [hk1]; show _ ≤ G.V ∧ G.V ≤ _; omega⟩
    · rename_i hn hi
      have hf : FP.rung x < 9218868437227405312 := by unfold FP.isNaN at hn; unfold FP.isInf at hi; simp at hn hi; omega
      have hb := num_bound hf
      exact ⟨by show G.c + 1 ≤ _; omega, by show G.o ≤ _; omega, by show G.h ≤ _; omega, by show G.l ≤ _; omega, hm, by show (if _ then _ else _) < _; split; exact hx; exact hmx, by rw [hk1]; show _ ≤ G.V + FP.num x ∧ G.V + FP.num x ≤ _; omega⟩
theorem inf_word {x : Nat} (hx : x < 18446744073709551616) (hi : FP.isInf x = true) : x = if FP.sgn x then 18442240474082181120 else 9218868437227405312 := by
  have h : x % 9223372036854775808 = 9218868437227405312 := by unfold FP.isInf FP.rung at hi; simpa using hi
  by_cases hs : 9223372036854775808 ≤ x
  · rw [FP.sgn_true hs hx]; simp; omega
  · rw [FP.sgn_false (by omega)]; simp; omega
theorem gadd_any (w : World) (p : Nat) (G : Gs) (k : Nat) (hG : GA w p G) (hH : Held k G) (hk : k ≤ 1000) (x : Nat) (hx : x < 18446744073709551616) :
    Calls Try.prog 13 #[.pointer (some ⟨p, 0, none⟩), .float .f64 x] w fun e w' => e = .returned (.tuple #[]) ∧ GA w' p (addG G x) ∧ Fr (fun q => q = p) w w' := by
  unfold addG
  cases hn : FP.isNaN x with
  | true => rw [if_pos rfl]; exact add_nan w p G hG (hH.ok hk) x hn
  | false =>
    rw [if_neg (by simp)]
    cases hi : FP.isInf x with
    | true =>
      have e := inf_word hx hi
      rw [if_pos rfl]
      cases hs : FP.sgn x with
      | true =>
        rw [hs, if_pos rfl] at e
        subst e
        exact add_low w p G hG (hH.ok hk)
      | false =>
        rw [hs, if_neg (by simp)] at e
        subst e
        exact add_high w p G hG (hH.ok hk)
    | false =>
      rw [if_neg (by simp)]
      have hf : FP.rung x < 9218868437227405312 := by unfold FP.isNaN at hn; unfold FP.isInf at hi; simp at hn hi; omega
      exact add_fin w p G hG (hH.ok hk) (hH.lim hk) x hx hf
def gsOf (zs : List Nat) : Gs := zs.foldl addG gs0
theorem gsOf_snoc (zs : List Nat) (x : Nat) : gsOf (zs ++ [x]) = addG (gsOf zs) x := by unfold gsOf; rw [List.foldl_append]; rfl
theorem held_fold : ∀ (zs : List Nat) (k : Nat) (G : Gs), Held k G → (∀ x ∈ zs, x < 18446744073709551616) → Held (k + zs.length) (zs.foldl addG G)
  | [], k, G, h, _ => h
  | x :: zs, k, G, h, hw => by
    have := held_fold zs (k + 1) (addG G x) (h.add (hw x List.mem_cons_self)) fun y hy => hw y (List.mem_cons_of_mem _ hy)
    rw [List.foldl_cons, List.length_cons, show k + (zs.length + 1) = k + 1 + zs.length by omega]; exact this
theorem heldOf {zs : List Nat} (hw : ∀ x ∈ zs, x < 18446744073709551616) : Held zs.length (gsOf zs) := by
  have := held_fold zs 0 gs0 held0 hw
  rwa [Nat.zero_add] at this
theorem IsF.one {W w : World} {a : Option Addr} {len cap : Nat} {zs : List Nat} (h : IsF W a len cap zs) (hB : Below W.heap.size W w) {i : Nat} (hi : i < zs.length) : ∃ b off, a = some ⟨b, off, none⟩ ∧ w.cell? ⟨b, off + i, none⟩ = some (.float .f64 (zs.getD i 0)) := by
  rcases h.at_ with e | ⟨b, off, e, hb, hc⟩
  · rw [e] at hi; simp at hi
  · exact ⟨b, off, e, (hB.cell (p := ⟨b, off + i, none⟩) hb).trans (hc i hi)⟩
theorem take_snocN {A : List Nat} {i : Nat} (h : i < A.length) : A.take (i + 1) = A.take i ++ [A.getD i 0] := by
  rw [List.take_add_one]; simp [List.getD, h]
set_option maxHeartbeats 1000000 in
theorem of_any (w : World) (a : Option Addr) (len cap : Nat) (zs : List Nat) (hI : IsF w a len cap zs) (hl : len ≤ 900) :
    Calls Try.prog 16 #[.slice a len cap] w fun e w' => e = .returned (.pointer (some ⟨w.heap.size, 0, none⟩)) ∧ GA w' w.heap.size (gsOf zs) ∧ Below w.heap.size w w' := by
  obtain rfl := hI.hlen
  have hcap := hI.hcap
  have hmax := hI.hmax
  have HI := Lib.hid hI
  have HW := Lib.hid hI.wf
  clear hI
  unfold maxLen at hmax
  go_enter Try.func16, Try.ntmps16
  go_wp2_with (go_at_call 11; refine (gnew _).mono ?_; rintro e w1 ⟨rfl, hg, hb⟩)
  have HG := Lib.hid hg
  have HB := Lib.hid hb
  obtain ⟨p, hp⟩ : ∃ p, p = w.heap.size := ⟨_, rfl⟩
  rw [← hp] at HG ⊢
  have HPp := Lib.hid hp
  clear hg hb hp
  go_loopw [4] (fun iv wr => ∃ i : Nat, iv = .int .i64 i ∧ i ≤ zs.length ∧ Hid (GA wr p (gsOf (zs.take i))) ∧ Hid (Below w.heap.size w wr)) (fun iv _ => zs.length - (intOf iv).toNat)
  case atStart => exact ⟨0, rfl, by omega, HG, HB⟩
  case round =>
    obtain ⟨i, rfl, i1, hG, hB⟩ := hrel
    have hi0 : (0 : Int) ≤ (i : Int) := Int.natCast_nonneg _
    by_cases hlt : i < zs.length
    · have hlt' : (i : Int) < (zs.length : Int) := by omega
      obtain ⟨b, off, rfl, hc⟩ := HI.out.one hB.out hlt
      have hH : Held i (gsOf (zs.take i)) := by
        have := heldOf (zs := zs.take i) fun x hx => HW.out x (List.mem_of_mem_take hx)
        rwa [List.length_take, Nat.min_eq_left i1] at this
      have hx : zs.getD i 0 < 18446744073709551616 := FP.getD_lt HW.out i
      have HA := Lib.hid (gadd_any wr p _ i hG.out hH (by omega) (zs.getD i 0) hx)
      rw [← gsOf_snoc, ← take_snocN hlt] at HA
      generalize zs.getD i 0 = x at hc HA
      clear hH hx hG
      go_wp2_with (go_at_call 13; refine HA.out.mono ?_; rintro e w2 ⟨rfl, h2, f2⟩; replace h2 := Lib.hid h2; replace f2 := Lib.hid f2)
      go_roundw
      case rel => exact ⟨i + 1, by go_num, by omega, h2, hB.out.trans (f2.out.below hB.out.size fun q hq => by rw [hq, HPp.out]; exact Nat.le_refl _)⟩
      case measure => simp only [intOf]; omega
    · obtain rfl : i = zs.length := by omega
      rw [List.take_length] at hG
      go_wp2
      go_ret
      exact ⟨by rw [← HPp.out]; rfl, by rw [← HPp.out]; exact hG.out, hB.out⟩
theorem of_ex (w : World) (a : Option Addr) (len cap : Nat) (zs : List Nat) (hI : IsF w a len cap zs) (hl : len ≤ 900) :
    Calls Try.prog 16 #[.slice a len cap] w fun e w' => ∃ p, w.heap.size ≤ p ∧ e = .returned (.pointer (some ⟨p, 0, none⟩)) ∧ GA w' p (gsOf zs) ∧ Below w.heap.size w w' :=
  (of_any w a len cap zs hI hl).mono fun _ _ h => ⟨_, Nat.le_refl _, h.1, h.2⟩
theorem run_fquo {x y r : Nat} (h : floatBits .quo .f64 x y = some r) (t : TypeId) (w : World) : (binOp .quo t (.float .f64 x) (.float .f64 y)).run Try.prog w = .ok (.float .f64 r) w := run_float_arith w .quo t .f64 x y r h
theorem rate13 (w : World) : Calls Try.prog 17 #[.int .i64 1, .int .i64 3] w fun e w' => e = .returned (.float .f64 4598175219545276416) ∧ w = w' := by
  have hq : floatBits .quo .f64 (floatOfInt .f64 1) (floatOfInt .f64 4) = some 4598175219545276416 := by decide +kernel
  have hqq := fun t w => run_fquo hq t w
  clear hq
  go_enter Try.func17, Try.ntmps17
  go_wp2
  go_ret
  exact ⟨rfl, rfl⟩
theorem isF_alloc (w : World) (zs : List Nat) (hw : ∀ x ∈ zs, x < 18446744073709551616) (n : Nat) (hn : n = zs.length) (hl : n ≤ 1000) : IsF (w.alloc (.cells (zs.map (Value.float .f64)).toArray 23)) (some ⟨w.heap.size, 0, none⟩) n n zs := by
  refine ⟨hn, Nat.le_refl _, by unfold maxLen; omega, hw, Or.inr ⟨w.heap.size, 0, rfl, by simp, fun i hi => ?_⟩⟩
  rw [World.cell?_alloc_new]
  simp [List.getD, hi]
theorem example_sum : sumOf (gsOf [4845873199050653696, 4607182418800017408, 14069245235905429504]) = 4607182418800017408 := by decide +kernel
theorem awake_ok (w : World) : Calls Try.prog 10 #[] w fun e w' => e = .returned (.bool true) ∧ Below w.heap.size w w' := by
  have hw : ∀ x ∈ [4845873199050653696, 4607182418800017408, 14069245235905429504], x < 18446744073709551616 := by decide
  have hI : IsF (w.alloc (.cells #[.float .f64 4845873199050653696, .float .f64 4607182418800017408, .float .f64 14069245235905429504] 23)) (some ⟨w.heap.size, 0, none⟩) 3 3 [4845873199050653696, 4607182418800017408, 14069245235905429504] := isF_alloc w _ hw 3 rfl (by omega)
  have HO := Lib.hid (of_ex _ _ _ _ _ hI (by omega))
  have hlim : Lim (gsOf [4845873199050653696, 4607182418800017408, 14069245235905429504]).V := (heldOf hw).lim (by simp)
  have HS := Lib.hid fun w' p hg => gsum_any w' p (gsOf [4845873199050653696, 4607182418800017408, 14069245235905429504]) hg hlim
  rw [example_sum] at HS
  have o1 : (FloatKind.f64.format.order 4607182418800017408 4607182418800017408 == some Ordering.eq) = true := by decide +kernel
  have o2 : (FloatKind.f64.format.order 4598175219545276416 4598175219545276416 == some Ordering.eq) = true := by decide +kernel
  clear hI hw hlim
  generalize gsOf [4845873199050653696, 4607182418800017408, 14069245235905429504] = G at HO HS
  go_enter Try.func10, Try.ntmps10
  go_wp2_with (first | (go_at_call 16; refine HO.out.mono ?_; rintro e w2 ⟨p, hp, rfl, hg, hb2⟩; have HG := Lib.hid hg; have HB2 := Lib.hid hb2; clear hg hb2 hp) | (go_at_call 15; refine (HS.out _ _ HG.out).mono ?_; rintro e w3 ⟨rfl, hb3⟩) | (go_at_call 17; refine (rate13 _).mono ?_; rintro e w' ⟨rfl, rfl⟩))
  go_ret
  exact ⟨rfl, below_chain (below_chain ((Below.refl _ _).alloc (Nat.le_refl _) _) HB2.out) hb3⟩
end Go.Proofs.Ytdjilhahafkpfaa
