/- Rows of tasks: who is awake; rows that are none. -/
import Derived.Test.YtpfdfbmoegajbaaGc
namespace Go.Proofs.Ytpfdfbmoegajbaa
open Go.RowKit Go.Deep
set_option maxRecDepth 100000
theorem infoIntG : (Try.prog.info? 3).map (fun i => (i.zero, i.size, i.bytes)) = some (some (.int .i64 0), 1, 8) := by kernel_rfl
def ints (L : List Int) : List Value := L.map (.int .i64)
/-- Those of the first n that are awake. -/
def awk (T : List Tk) (n : Nat) : List Int := ((List.range n).filter fun (i : Nat) => (T.getD i tk0).1).map fun (i : Nat) => (i : Int)
theorem awk_succ (T : List Tk) (n : Nat) : awk T (n + 1) = awk T n ++ (if (T.getD n tk0).1 then [(n : Int)] else []) := by
  unfold awk
  rw [List.range_succ, List.filter_append, List.map_append]
  have e : List.filter (fun (i : Nat) => (T.getD i tk0).1) [n] = if (T.getD n tk0).1 then [n] else [] := by
    rw [List.filter_cons]; rfl
  rw [e]
  split <;> rfl
theorem awk_le (T : List Tk) (n : Nat) : (awk T n).length ≤ n := by
  unfold awk
  rw [List.length_map]
  have := List.length_filter_le (fun i => (T.getD i tk0).1) (List.range n)
  simpa using this
theorem awk_mem {T : List Tk} {n : Nat} {x : Int} (h : x ∈ awk T n) : ∃ i : Nat, x = (i : Int) ∧ i < n ∧ (T.getD i tk0).1 = true := by
  unfold awk at h
  obtain ⟨i, hi, rfl⟩ := List.mem_map.1 h
  have := List.mem_filter.1 hi
  exact ⟨i, rfl, by simpa using this.1, this.2⟩
theorem awake_nil (w : World) : Calls Try.prog 17 #[.pointer none] w fun e w' => e = .returned (.slice none 0 0) ∧ w = w' := by
  go_enter Try.func17, Try.ntmps17
  go_wp2
  go_ret
  exact ⟨rfl, rfl⟩
set_option maxHeartbeats 1000000 in
theorem awake_row (w : World) (p g cap : Nat) (T : List Tk) (h : RowAt w p g cap T) : Calls Try.prog 17 #[.pointer (some ⟨p, 0, none⟩)] w fun e w' => ∃ v, e = .returned v ∧ w'.ownsRow w.heap.size 3 1 v (awk T T.length).length (ints (awk T T.length)) ∧ Below w.heap.size w w' := by
  have H := Lib.hid h
  have c0 := h.c0
  have h8 := h.n8
  have hcap := h.hc
  have hmx := h.hm
  obtain ⟨cur, hb, -⟩ := h.blk
  have hgl := hb.lt
  clear hb h
  obtain ⟨i0, hi, hz0, hz1, hz2⟩ := info_parts infoIntG
  unfold maxLen at hmx
  go_enter Try.func17, Try.ntmps17
  go_wp2
  go_loopw [3, 13] (fun u t wr => ∃ i : Nat, t = .int .i64 i ∧ i ≤ T.length ∧ wr.ownsRow w.heap.size 3 1 u (awk T i).length (ints (awk T i)) ∧ Below w.heap.size w wr) (fun _ t _ => T.length - (intOf t).toNat)
  case atStart => exact ⟨0, rfl, Nat.zero_le _, ⟨rfl, Or.inl ⟨rfl, rfl⟩⟩, Below.refl _ _⟩
  case round =>
    obtain ⟨i, rfl, j1, hown, hB⟩ := hrel
    have hk0 : (0 : Int) ≤ (i : Int) := Int.natCast_nonneg _
    have hal := awk_le T i
    by_cases hlt : i < T.length
    · have hlt' : (i : Int) < (T.length : Int) := by omega
      obtain ⟨a0, a1, a2⟩ := (H.out.below hB).task hlt
      have HS := Lib.hid (awk_succ T i)
      generalize T.getD i tk0 = t at a0 a1 a2 HS
      obtain ⟨tb, tw, tp⟩ := t
      simp only at a0 a1 a2
      generalize awk T i = A at hown HS hal
      obtain ⟨va, vc, rfl⟩ := own_shape' hown
      have Hr : Hid (∀ k, (Value.slice va A.length vc).ownBlock = some k → w.heap.size ≤ k) := fun k hk => own_baseB hown hk
      have hBs := hB.size
      cases tb with
      | false =>
        have HS' : Hid (awk T (i + 1) = A) := by unfold Hid; rw [HS.out]; simp
        clear HS
        go_wp2
        go_roundw
        case rel => exact ⟨i + 1, by go_num, by omega, by rw [HS'.out]; exact hown.alloc _, hB.alloc hB.size _⟩
        case measure => simp only [intOf]; omega
      | true =>
        have HS' : Hid (awk T (i + 1) = A ++ [(i : Int)]) := by unfold Hid; rw [HS.out]; simp
        clear HS
        go_wp2_with (at_builtin; go_must (refine wpList_append_own _ rfl _ _ 42 rfl w.heap.size 3 i0 (.int .i64 0) 1 8 Try.underlying42 hi hz0 hz1 hz2 rfl (by decide) _ _ _ rfl ((hown.alloc _).alloc _) ⟨_, 0, none⟩ 1 1 [.int .i64 (i : Int)] rfl rfl (World.news_of_block (cs := #[.int .i64 (i : Int)]) (t := 3) (fr := (0, 0)) (heap_alloc_new' _ _ _ (by simp))) (by simp [Value.oneCell']) (by unfold maxLen; omega) (by omega) (by simp; omega) ?_); intro v4 w4 hown4 hgrow4 hnil4)
        have hB4 := ((hB.alloc hB.size _).alloc (by simp; omega) _).grown hgrow4 (by simp; omega) Hr.out
        go_roundw
        case rel => exact ⟨i + 1, by go_num, by omega, by rw [HS'.out]; unfold ints; rw [List.map_append, List.length_append]; exact hown4, hB4⟩
        case measure => simp only [intOf]; omega
    · obtain rfl : i = T.length := by omega
      obtain ⟨va, vc, rfl⟩ := own_shape' hown
      go_wp2
      go_ret
      exact ⟨_, rfl, hown, hB⟩
theorem wake_nil (i : Int) (w : World) : Calls Try.prog 12 #[.pointer none, .int .i64 i] w fun e w' => e = .returned (.int .i64 5) ∧ w = w' := by
  go_enter Try.func12, Try.ntmps12
  go_wp2_with (go_at_call 24; refine (find_nil _ _).mono ?_; rintro e w' ⟨rfl, rfl⟩)
  go_ret
  exact ⟨rfl, rfl⟩
theorem fpick_nil (i : Int) (w : World) : Calls Try.prog 18 #[.pointer none, .int .i64 i] w fun e w' => e = .returned (.tuple #[.int .i64 0, .bool false]) ∧ w = w' := by
  go_enter Try.func18, Try.ntmps18
  go_wp2_with (go_at_call 17; refine (awake_nil _).mono ?_; rintro e w' ⟨rfl, rfl⟩)
  go_ret2
  exact ⟨rfl, rfl⟩
theorem next_nil (w : World) : Calls Try.prog 13 #[.pointer none] w fun e w' => e = .returned (.tuple #[.int .i64 0, .bool false]) ∧ w = w' := by
  go_enter Try.func13, Try.ntmps13
  go_wp2_with (go_at_call 17; refine (awake_nil _).mono ?_; rintro e w' ⟨rfl, rfl⟩)
  refine wp_loop_rounds 1 ?_
  rw [rounds_succ]
  go_wp2
  go_ret2
  exact ⟨rfl, rfl⟩
end Go.Proofs.Ytpfdfbmoegajbaa
