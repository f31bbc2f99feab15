/- Contract of plan.Path. -/
import Derived.Test.YtnkoniagakhacaaPe
namespace Go.Proofs.Ytnkoniagakhacaa
open Go.RowKit Go.Deep
set_option maxRecDepth 100000
/-- What stands above an offset of a level. -/
def pth (fan bs o n : Int) : List Int → List Int
  | [] => []
  | m :: l => (bs + n + o / fan) :: pth 8 (bs + n) (o / fan) m l
def path (P page : Int) : List Int := pth 16 0 page P (cnt P :: levs (cnt P))
theorem div_lt {o n m fan : Int} (h1 : 0 ≤ o) (h2 : o < n) (h3 : n ≤ fan * m) (hf : fan = 8 ∨ fan = 16) : 0 ≤ o / fan ∧ o / fan < m := by
  rcases hf with rfl | rfl <;> omega
theorem pth_len : ∀ (l : List Int) (fan bs o n : Int), (pth fan bs o n l).length = l.length
  | [], _, _, _, _ => rfl
  | m :: l, _, _, _, _ => by simp [pth, pth_len l]
theorem pth_lt : ∀ (l : List Int) (fan bs o n : Int), Good fan n l → (fan = 8 ∨ fan = 16) → 0 ≤ bs → 0 ≤ o → o < n → ∀ x ∈ pth fan bs o n l, bs + n ≤ x ∧ x < bs + n + lsum l
  | [], _, _, _, _, _, _, _, _, _, x, hx => by simp [pth] at hx
  | m :: l, fan, bs, o, n, hg, hf, hb, h0, h1, x, hx => by
    have hd := div_lt h0 h1 hg.2.2.1 hf
    have hs := good_sum hg.2.2.2
    have hn := hg.1
    simp only [pth, List.mem_cons] at hx
    simp only [lsum]
    rcases hx with rfl | hx
    · omega
    · have := pth_lt l 8 (bs + n) (o / fan) m hg.2.2.2 (Or.inl rfl) (by omega) hd.1 hd.2 x hx
      omega
theorem path_len (P page : Int) : (path P page).length = (levs (cnt P)).length + 1 := by unfold path; rw [pth_len]; rfl
theorem path_lt {P page : Int} (hP : 1 ≤ P ∧ P ≤ 4096) (hp : 0 ≤ page ∧ page < P) : ∀ x ∈ path P page, P ≤ x ∧ x < hd P := by
  intro x hx
  have := pth_lt _ 16 0 page P (good_all hP.1) (Or.inr rfl) (Int.le_refl _) hp.1 hp.2 x hx
  have h2 := lsum_all P
  unfold allL at h2
  simp only [lsum] at h2 this
  omega
theorem own_below {w w' : World} {base : Nat} {e : TypeId} {sz : Nat} {v : Value} {n : Nat} {xs : List Value} (h : w.ownsRow base e sz v n xs) (hb : Below w.heap.size w w') : w'.ownsRow base e sz v n xs := by
  obtain ⟨hl, h | ⟨g, cap, cur, rfl, hg, hh, r⟩⟩ := h
  · exact ⟨hl, Or.inl h⟩
  · exact ⟨hl, Or.inr ⟨g, cap, cur, rfl, hg, by rw [hb.block g (Array.getElem?_eq_some_iff.1 hh).1]; exact hh, r⟩⟩
theorem own_shape' {w : World} {base : Nat} {e : TypeId} {sz : Nat} {v : Value} {n : Nat} {xs : List Value} (h : w.ownsRow base e sz v n xs) : ∃ a c, v = .slice a n c := by
  obtain ⟨-, ⟨rfl, h0⟩ | ⟨g, cap, cur, rfl, -⟩⟩ := h
  · exact ⟨_, _, by rw [h0]⟩
  · exact ⟨_, _, rfl⟩
theorem path_out (w : World) (P page : Int) (v1 v2 v3 v4 v5 v6 v7 v8 v9 : Value) (h : ¬ (0 ≤ page ∧ page < P)) :
    Calls Try.prog 18 #[.agg #[.int .i64 P, v1, v2, v3, v4, v5, v6, v7, v8, v9], .int .i64 page] w fun e w' => e = .returned (.tuple #[.slice none 0 0, .int .i64 1]) ∧ Below w.heap.size w w' := by
  by_cases h0 : page < 0
  · clear h
    go_enter Try.func18, Try.ntmps18
    go_wp2
    go_ret2
    exact ⟨rfl, (Below.refl _ _).alloc (Nat.le_refl _) _⟩
  · have h1 : P ≤ page := by omega
    clear h
    go_enter Try.func18, Try.ntmps18
    go_wp2
    go_ret2
    exact ⟨rfl, (Below.refl _ _).alloc (Nat.le_refl _) _⟩
set_option maxHeartbeats 2000000 in
theorem path_in (w : World) (P B page : Int) (hP : 1 ≤ P ∧ P ≤ 4096) (hB : 1 ≤ B ∧ B ≤ 256) (hp : 0 ≤ page ∧ page < P) (a : Option Addr) (cap : Nat) (hI : IsI w a (levs (cnt P)).length cap (levs (cnt P))) :
    Calls Try.prog 18 #[planV P B (.slice a (levs (cnt P)).length cap), .int .i64 page] w fun e w' => ∃ v, e = .returned (.tuple #[v, .int .i64 0]) ∧ w'.ownsRow (w.heap.size + 1) 3 1 v (path P page).length (ints (path P page)) ∧ Below w.heap.size w w' := by
  have hg := good_all hP.1
  have hn := nod_le hP.1 hP.2
  have hc : 1 ≤ cnt P ∧ cnt P ≤ 256 := by unfold cnt; omega
  have hs := levs_short (cnt P) hc.2
  have hsum := lsum_all P
  have hhd : 0 ≤ hd P ∧ hd P ≤ 1000000 := by unfold hd; omega
  have hal : (allL P).length = (levs (cnt P)).length + 2 := rfl
  have HI := Lib.hid hI; clear hI
  have HG := Lib.hid hg; clear hg
  have HSUM := Lib.hid hsum; clear hsum
  obtain ⟨i0, hi, hz0, hz1, hz2⟩ := info_parts infoIntP
  go_enter Try.func18, Try.ntmps18
  go_wp2
  have HAL := Lib.hid hal; clear hal
  go_loopw [6, 7, 23] (fun u v t wr => ∃ (i : Nat) (L : List Int) (at_ fan bs o n : Int) (l : List Int), v = .int .i64 at_ ∧ t = .int .i64 i ∧ Hid ((allL P).drop i = n :: l) ∧ Hid (Good fan n l) ∧ (fan = 8 ∨ fan = 16) ∧ 0 ≤ bs ∧ bs + lsum (n :: l) = hd P ∧ 0 ≤ o ∧ o < n ∧ at_ = bs + o
      ∧ Hid (∀ b, bs ≤ b → par 16 0 b (allL P) = par fan bs b (n :: l)) ∧ Hid (path P page = L ++ pth fan bs o n l) ∧ L.length = i ∧ i ≤ 5 ∧ wr.ownsRow (w.heap.size + 1) 3 1 u L.length (ints L)
      ∧ Blk wr w.heap.size 24 #[.int .i64 P, .int .i64 B, .int .i64 (cnt P), .slice a (levs (cnt P)).length cap, .int .i64 (nod P), .int .i64 (hd P), .int .i64 (hds B), .int .i64 (hd P + hds B), .int .i64 (hd P + hds B + B), .int .i64 (hd P + hds B + B + B)] ∧ Below w.heap.size w wr)
    (fun _ _ t => fun _ => 10 - (intOf t).toNat)
  case atStart =>
    refine ⟨0, [], page, 16, 0, page, P, cnt P :: levs (cnt P), rfl, rfl, rfl, HG, Or.inr rfl, Int.le_refl _, by have := HSUM.out; unfold allL at this; omega, hp.1, hp.2, by omega, fun b _ => rfl, rfl, rfl, by omega, ⟨rfl, Or.inl ⟨rfl, rfl⟩⟩, heap_alloc_new w _, (Below.refl _ _).alloc (Nat.le_refl _) _⟩
  case round =>
    obtain ⟨i, L, at_, fan, bs, o, n, l, rfl, rfl, HD, HGd, hf, b0, hsm, o0, o1, rfl, HP, HPA, rfl, i5, hown, hb, hB⟩ := hrel
    have hdl : (allL P).length - L.length = l.length + 1 := by
      have := congrArg List.length HD.out
      rw [List.length_drop] at this
      exact this
    have hal' := HAL.out
    obtain ⟨va, vc, rfl⟩ := own_shape' hown
    obtain ⟨p0, p1, p2, p3, p4, p5, p6, p7, p8, p9⟩ := hb.ten
    have lt0 := hb.lt
    have hi0 : (0 : Int) ≤ (L.length : Int) := Int.natCast_nonneg _
    cases l with
    | nil =>
      have hlt : ¬ ((L.length : Int) < ((levs (cnt P)).length : Int) + 1) := by simp only [List.length_nil] at hdl; omega
      have hpl : path P page = L := by rw [HPA.out]; simp [pth]
      have HPL := Lib.hid hpl; clear hpl
      clear hal' hdl
      go_wp2
      go_ret2
      exact ⟨.slice va L.length vc, rfl, by rw [HPL.out]; exact hown, hB⟩
    | cons m l =>
      have hlt : (L.length : Int) < ((levs (cnt P)).length : Int) + 1 := by simp only [List.length_cons] at hdl; omega
      have hg := HGd.out
      have hd := div_lt o0 o1 hg.2.2.1 hf
      have hgs := good_sum hg.2.2.2
      have hpar : parent P (bs + o) = (bs + n + o / fan, o % fan, 0) := by
        have h1 := HP.out (bs + o) (by omega)
        rw [par_hit (by omega) (by simp), show bs + o - bs = o by omega] at h1
        unfold parent
        rw [if_neg (by omega), h1]
      simp only [lsum] at hsm
      have HPA2 : Hid (path P page = (L ++ [bs + n + o / fan]) ++ pth 8 (bs + n) (o / fan) m l) := by unfold Hid; rw [HPA.out]; simp [pth]
      have HP2 : Hid (∀ b, bs + n ≤ b → par 16 0 b (allL P) = par 8 (bs + n) b (m :: l)) := fun b hbb => by rw [HP.out b (by omega), par_miss (by omega)]
      have HD2 : Hid ((allL P).drop (L.length + 1) = m :: l) := by
        have := congrArg List.tail HD.out
        rw [List.tail_drop] at this
        exact this
      have HGd2 : Hid (Good 8 m l) := hg.2.2.2
      have h1n := hg.1
      have HPar := Lib.hid hpar
      have hlen : (L.length : Int) + 1 ≤ 5 := by omega
      have hc3 : L.length + 1 ≤ maxLen := by unfold maxLen; omega
      have hc4 : (L.length + 1) * 8 ≤ 140737488355328 := by omega
      have Hrow : Hid (∀ k, (Value.slice va L.length vc).ownBlock = some k → w.heap.size ≤ k) := fun k hk => by have := own_base hown hk; omega
      have Hne0 : Hid (some w.heap.size ≠ (Value.slice va L.length vc).ownBlock) := fun h => by have := own_base hown h.symm; omega
      clear hpar hg HPA HP HD HGd hal' hdl
      obtain ⟨at', hat⟩ : ∃ x, x = bs + n + o / fan := ⟨_, rfl⟩
      rw [← hat] at HPar HPA2
      have hr0 : bs + n ≤ at' ∧ at' < bs + n + m := by omega
      have Hat := Lib.hid hat; clear hat
      go_wp2_with (first | (go_at_call 15; refine (parent_any _ P B _ hP (by omega) (by omega) a cap (HI.out.same hB)).mono ?_; rw [HPar.out]; rintro e w3 ⟨rfl, hBp⟩; have hown3 := own_below hown hBp; have hb3 := hb.below hBp lt0; have hB3 := below_chain hB hBp; have lt3 := hb3.lt) | (at_builtin; go_must (refine wpList_append_own _ rfl _ _ 22 rfl (w.heap.size + 1) 3 i0 (.int .i64 0) 1 8 Try.underlying22 hi hz0 hz1 hz2 rfl (by decide) _ _ _ rfl ((hown3.alloc _).alloc _) ⟨_, 0, none⟩ 1 1 [.int .i64 at'] rfl rfl (World.news_of_block (cs := #[.int .i64 at']) (t := 3) (fr := (0, 0)) (heap_alloc_new' _ _ _ (by simp))) (by simp [Value.oneCell']) hc3 hc4 (by simp; omega) ?_); intro v' w4 hown4 hgrow4 hnil4))
      have hz3 := hB3.size
      have hb4 := ((hb3.alloc _).alloc _).grown hgrow4 Hne0.out
      have hB4 := ((hB3.alloc hB3.size _).alloc (by simp; omega) _).grown hgrow4 (by simp; omega) Hrow.out
      go_roundw
      case rel =>
        exact ⟨L.length + 1, L ++ [at'], at', 8, bs + n, o / fan, m, l, rfl, by go_num, HD2, HGd2, Or.inl rfl, by omega, by simp only [lsum]; omega, hd.1, hd.2, Hat.out, HP2, HPA2, by simp, by omega, by unfold ints; rw [List.map_append, List.length_append]; exact hown4, hb4, hB4⟩
      case measure => simp only [intOf]; omega
end Go.Proofs.Ytnkoniagakhacaa
