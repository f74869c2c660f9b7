/- slices.Index and Contains at pairs and dies, byDie. No condition but that the slices read as lists. -/
import Derived.Test.YtnaoiochfdipiaaCovF
import Derived.Test.YtnaoiochfdipiaaDelL
namespace Go.Proofs.Ytnaoiochfdipiaa
open Go.RowKit Go.Shelf Go.Maps

theorem firstI_mem {α : Type} [DecidableEq α] (y : α) (xs : List α) : decide (0 ≤ firstI (fun z => decide (z = y)) xs) = decide (y ∈ xs) := by
  by_cases h : xs.all (fun x => !(fun z => decide (z = y)) x) = true
  · rw [firstI_miss h, decide_eq_false (by omega), decide_eq_false]
    intro hm
    have := List.all_eq_true.1 h y hm
    simp at this
  · obtain ⟨i, x, h1, h2, h3⟩ := first_hit h
    rw [firstI_hit h1 h2 h3, decide_eq_true (by omega), decide_eq_true]
    simp only [decide_eq_true_eq] at h3
    rw [← h3]
    exact List.mem_of_getElem? h1
set_option maxHeartbeats 2000000 in
set_option maxRecDepth 100000 in
theorem indexP_ok (v : Value) (xs : List Pair) (y : Pair) (w : World) (h : Pairs w v xs) :
    Calls Try.prog 56 #[v, valP y] w fun e w' => e = .returned (.int .i64 (firstI (fun z => decide (z = y)) xs)) ∧ Below w.heap.size w w' := by
  obtain ⟨A, c, rfl, _, _, hc⟩ := h.cells
  obtain ⟨W, hW, Hz, hwW, hlt0, hc1⟩ := boxed w #[.int .i64 y.a, .int .i64 y.b] 48
  have b0 := hc1 0 _ rfl; have b1 := hc1 1 _ rfl
  clear hc1
  go_enter Try.func56, Try.ntmps56
  go_wp2_with fail
  clear hW
  go_loopw [8] (fun i wr => ∃ k : Nat, k ≤ xs.length ∧ i = .int .i64 k ∧ Hid ((xs.take k).all (fun x => !decide (x = y)) = true) ∧ Below W.heap.size W wr) (fun i _ => xs.length - (intOf i).toNat)
  case atStart => exact ⟨0, Nat.zero_le _, rfl, by show _ = _; simp, Below.refl _ _⟩
  case round =>
    obtain ⟨k, hk, rfl, Hr, hb⟩ := hrel
    by_cases hlt : k < xs.length
    · obtain ⟨b, o, rfl, _, hcb⟩ := hc k hlt
      obtain ⟨x, hx⟩ := get_of_lt hlt
      have hw := below_trans hwW hb
      obtain ⟨e0, e1⟩ := hcb wr hw k x hx
      have m0 := Later.cell_all e0; have m1 := Later.cell_all e1
      have n0 := Later.cell_all (cell_later hb b0); have n1 := Later.cell_all (cell_later hb b1)
      have hl1 : (k : Int) < (xs.length : Int) := by omega
      have hl0 : (0 : Int) ≤ (k : Int) := by omega
      have Hx := Lib.hid hx; clear hx hc hcb e0 e1
      by_cases h1 : y.a = x.a
      · have d1 : (y.a = x.a) = True := eq_true h1
        by_cases h2 : y.b = x.b
        · have d2 : (y.b = x.b) = True := eq_true h2
          have hp := firstI_hit (p := fun z => decide (z = y)) Hx.out Hr.out (by cases x; cases y; simp_all)
          have Hp := Lib.hid hp; clear hp h1 h2
          go_wp2_with fail
          refine wp_region_later (by kernel_rfl) (by kernel_rfl) ?_
          repeat (go_big_quiet_step (first | fail))
          refine wpQuiet_nil ?_
          intro _ hw'
          obtain ⟨xq, hw''⟩ := hw'
          subst hw''
          have hba := xq.h
          generalize xq.to = wa at hba ⊢
          clear m0 m1 n0 n1
          have hb' := below_trans hb hba
          go_wp2_with fail
          go_ret
          exact ⟨ret_i64 Hp.out.symm, below_trans hwW hb'⟩
        · have d2 : (y.b = x.b) = False := eq_false h2
          have hn := all_snoc (p := fun z => !decide (z = y)) Hx.out Hr.out (by simp; intro e; subst e; exact h2 rfl)
          have Hn := Lib.hid hn; clear hn h1 h2
          go_wp2_with fail
          refine wp_region_later (by kernel_rfl) (by kernel_rfl) ?_
          repeat (go_big_quiet_step (first | fail))
          refine wpQuiet_nil ?_
          intro _ hw'
          obtain ⟨xq, hw''⟩ := hw'
          subst hw''
          have hba := xq.h
          generalize xq.to = wa at hba ⊢
          clear m0 m1 n0 n1
          have hb' := below_trans hb hba
          go_wp2_with fail
          refine ⟨?rel, ?measure⟩
          case rel => exact ⟨k + 1, by omega, by go_num, Hn.out, hb'⟩
          case measure => first | (simp [intOf]; done) | (simp [intOf]; omega)
      · have d1 : (y.a = x.a) = False := eq_false h1
        have hn := all_snoc (p := fun z => !decide (z = y)) Hx.out Hr.out (by simp; intro e; subst e; exact h1 rfl)
        have Hn := Lib.hid hn; clear hn h1
        go_wp2_with fail
        refine wp_region_later (by kernel_rfl) (by kernel_rfl) ?_
        repeat (go_big_quiet_step (first | fail))
        refine wpQuiet_nil ?_
        intro _ hw'
        obtain ⟨xq, hw''⟩ := hw'
        subst hw''
        have hba := xq.h
        generalize xq.to = wa at hba ⊢
        clear m0 m1 n0 n1
        have hb' := below_trans hb hba
        go_wp2_with fail
        refine ⟨?rel, ?measure⟩
        case rel => exact ⟨k + 1, by omega, by go_num, Hn.out, hb'⟩
        case measure => first | (simp [intOf]; done) | (simp [intOf]; omega)
    · have Hm : Hid (firstI (fun z => decide (z = y)) xs = -1) := firstI_miss (all_end hlt Hr.out)
      go_wp2_with fail
      go_ret
      exact ⟨ret_i64 Hm.out.symm, below_trans hwW hb⟩
theorem containsP_ok (v : Value) (xs : List Pair) (y : Pair) (w : World) (h : Pairs w v xs) :
    Calls Try.prog 38 #[v, valP y] w fun e w' => e = .returned (.bool (decide (y ∈ xs))) ∧ Below w.heap.size w w' := by
  obtain ⟨W, hW, Hz, hwW, hlt0, hc1⟩ := boxed w #[.int .i64 y.a, .int .i64 y.b] 48
  have b0 := hc1 0 _ rfl; have b1 := hc1 1 _ rfl
  clear hc1
  have HC := Lib.hid (indexP_ok v xs y W (h.below hwW))
  obtain ⟨R, hR⟩ : ∃ R, firstI (fun z => decide (z = y)) xs = R := ⟨_, rfl⟩
  have hd : decide (0 ≤ R) = decide (y ∈ xs) := by rw [← hR]; exact firstI_mem y xs
  rw [hR] at HC
  clear hR
  generalize decide (y ∈ xs) = D at hd ⊢
  have Hd := Lib.hid hd; clear hd
  go_enter Try.func38, Try.ntmps38
  go_wp2_with fail
  clear hW
  refine HC.out.mono ?_
  rintro e w1 ⟨rfl, hb1⟩
  go_wp2_with fail
  go_ret
  exact ⟨by rw [← Hd.out]; rfl, below_trans hwW hb1⟩
set_option maxHeartbeats 2000000 in
set_option maxRecDepth 100000 in
theorem indexD_ok (v : Value) (xs : List Die) (y : Die) (w : World) (h : Dies w v xs) :
    Calls Try.prog 50 #[v, valD y] w fun e w' => e = .returned (.int .i64 (firstI (fun z => decide (z = y)) xs)) ∧ Below w.heap.size w w' := by
  obtain ⟨A, c, rfl, _, _, hc⟩ := h.cells
  obtain ⟨W, hW, Hz, hwW, hlt0, hc1⟩ := boxed w #[.int .i64 y.side, .int .i64 y.num] 46
  have b0 := hc1 0 _ rfl; have b1 := hc1 1 _ rfl
  clear hc1
  go_enter Try.func50, Try.ntmps50
  go_wp2_with fail
  clear hW
  go_loopw [8] (fun i wr => ∃ k : Nat, k ≤ xs.length ∧ i = .int .i64 k ∧ Hid ((xs.take k).all (fun x => !decide (x = y)) = true) ∧ Below W.heap.size W wr) (fun i _ => xs.length - (intOf i).toNat)
  case atStart => exact ⟨0, Nat.zero_le _, rfl, by show _ = _; simp, Below.refl _ _⟩
  case round =>
    obtain ⟨k, hk, rfl, Hr, hb⟩ := hrel
    by_cases hlt : k < xs.length
    · obtain ⟨b, o, rfl, _, hcb⟩ := hc k hlt
      obtain ⟨x, hx⟩ := get_of_lt hlt
      have hw := below_trans hwW hb
      obtain ⟨e0, e1⟩ := hcb wr hw k x hx
      have m0 := Later.cell_all e0; have m1 := Later.cell_all e1
      have n0 := Later.cell_all (cell_later hb b0); have n1 := Later.cell_all (cell_later hb b1)
      have hl1 : (k : Int) < (xs.length : Int) := by omega
      have hl0 : (0 : Int) ≤ (k : Int) := by omega
      have Hx := Lib.hid hx; clear hx hc hcb e0 e1
      by_cases h1 : y.side = x.side
      · have d1 : (y.side = x.side) = True := eq_true h1
        by_cases h2 : y.num = x.num
        · have d2 : (y.num = x.num) = True := eq_true h2
          have hp := firstI_hit (p := fun z => decide (z = y)) Hx.out Hr.out (by cases x; cases y; simp_all)
          have Hp := Lib.hid hp; clear hp h1 h2
          go_wp2_with fail
          refine wp_region_later (by kernel_rfl) (by kernel_rfl) ?_
          repeat (go_big_quiet_step (first | fail))
          refine wpQuiet_nil ?_
          intro _ hw'
          obtain ⟨xq, hw''⟩ := hw'
          subst hw''
          have hba := xq.h
          generalize xq.to = wa at hba ⊢
          clear m0 m1 n0 n1
          have hb' := below_trans hb hba
          go_wp2_with fail
          go_ret
          exact ⟨ret_i64 Hp.out.symm, below_trans hwW hb'⟩
        · have d2 : (y.num = x.num) = False := eq_false h2
          have hn := all_snoc (p := fun z => !decide (z = y)) Hx.out Hr.out (by simp; intro e; subst e; exact h2 rfl)
          have Hn := Lib.hid hn; clear hn h1 h2
          go_wp2_with fail
          refine wp_region_later (by kernel_rfl) (by kernel_rfl) ?_
          repeat (go_big_quiet_step (first | fail))
          refine wpQuiet_nil ?_
          intro _ hw'
          obtain ⟨xq, hw''⟩ := hw'
          subst hw''
          have hba := xq.h
          generalize xq.to = wa at hba ⊢
          clear m0 m1 n0 n1
          have hb' := below_trans hb hba
          go_wp2_with fail
          refine ⟨?rel, ?measure⟩
          case rel => exact ⟨k + 1, by omega, by go_num, Hn.out, hb'⟩
          case measure => first | (simp [intOf]; done) | (simp [intOf]; omega)
      · have d1 : (y.side = x.side) = False := eq_false h1
        have hn := all_snoc (p := fun z => !decide (z = y)) Hx.out Hr.out (by simp; intro e; subst e; exact h1 rfl)
        have Hn := Lib.hid hn; clear hn h1
        go_wp2_with fail
        refine wp_region_later (by kernel_rfl) (by kernel_rfl) ?_
        repeat (go_big_quiet_step (first | fail))
        refine wpQuiet_nil ?_
        intro _ hw'
        obtain ⟨xq, hw''⟩ := hw'
        subst hw''
        have hba := xq.h
        generalize xq.to = wa at hba ⊢
        clear m0 m1 n0 n1
        have hb' := below_trans hb hba
        go_wp2_with fail
        refine ⟨?rel, ?measure⟩
        case rel => exact ⟨k + 1, by omega, by go_num, Hn.out, hb'⟩
        case measure => first | (simp [intOf]; done) | (simp [intOf]; omega)
    · have Hm : Hid (firstI (fun z => decide (z = y)) xs = -1) := firstI_miss (all_end hlt Hr.out)
      go_wp2_with fail
      go_ret
      exact ⟨ret_i64 Hm.out.symm, below_trans hwW hb⟩
theorem containsD_ok (v : Value) (xs : List Die) (y : Die) (w : World) (h : Dies w v xs) :
    Calls Try.prog 30 #[v, valD y] w fun e w' => e = .returned (.bool (decide (y ∈ xs))) ∧ Below w.heap.size w w' := by
  obtain ⟨W, hW, Hz, hwW, hlt0, hc1⟩ := boxed w #[.int .i64 y.side, .int .i64 y.num] 46
  have b0 := hc1 0 _ rfl; have b1 := hc1 1 _ rfl
  clear hc1
  have HC := Lib.hid (indexD_ok v xs y W (h.below hwW))
  obtain ⟨R, hR⟩ : ∃ R, firstI (fun z => decide (z = y)) xs = R := ⟨_, rfl⟩
  have hd : decide (0 ≤ R) = decide (y ∈ xs) := by rw [← hR]; exact firstI_mem y xs
  rw [hR] at HC
  clear hR
  generalize decide (y ∈ xs) = D at hd ⊢
  have Hd := Lib.hid hd; clear hd
  go_enter Try.func30, Try.ntmps30
  go_wp2_with fail
  clear hW
  refine HC.out.mono ?_
  rintro e w1 ⟨rfl, hb1⟩
  go_wp2_with fail
  go_ret
  exact ⟨by rw [← Hd.out]; rfl, below_trans hwW hb1⟩
end Go.Proofs.Ytnaoiochfdipiaa
