/- The reference of chapter 19: has, IsCover. Condition: the arguments read as a graph and dies. -/
import Derived.Test.YtnaoiochfdipiaaCovG
import Derived.Test.YtnaoiochfdipiaaBase
namespace Go.Proofs.Ytnaoiochfdipiaa
open Go.RowKit Go.Shelf Go.Maps

set_option maxHeartbeats 2000000 in
set_option maxRecDepth 100000 in
theorem hasD_ok (v : Value) (xs : List Die) (y : Die) (w : World) (h : Dies w v xs) :
    Calls Try.prog 34 #[v, valD y] w fun e w' => e = .returned (.bool (decide (y ∈ xs))) ∧ Below w.heap.size w w' := by
  obtain ⟨A, c, rfl, _, _, hc⟩ := h.cells
  obtain ⟨W, hW, Hz, hwW, hlt0, hc1⟩ := boxed w #[.int .i64 y.side, .int .i64 y.num] 46
  have b0 := hc1 0 _ rfl; have b1 := hc1 1 _ rfl
  clear hc1
  go_enter Try.func34, Try.ntmps34
  go_wp2_with fail
  clear hW
  go_loopw [5] (fun i wr => ∃ k : Nat, k ≤ xs.length ∧ i = .int .i64 k ∧ Hid (∀ x ∈ xs.take k, x ≠ y) ∧ Below W.heap.size W wr) (fun i _ => xs.length - (intOf i).toNat)
  case atStart => exact ⟨0, Nat.zero_le _, rfl, fun x hx => absurd hx (by simp), Below.refl _ _⟩
  case round =>
    obtain ⟨k, hk, rfl, Hr, hb⟩ := hrel
    by_cases hlt : k < xs.length
    · obtain ⟨b, o, rfl, _, hcb⟩ := hc k hlt
      obtain ⟨x, hx⟩ := get_of_lt hlt
      have hw := below_trans hwW hb
      obtain ⟨e0, e1⟩ := hcb wr hw k x hx
      have m0 := Later.cell_all e0; have m1 := Later.cell_all e1
      have n0 := Later.cell_all (cell_later hb b0); have n1 := Later.cell_all (cell_later hb b1)
      have hl1 : (k : Int) < (xs.length : Int) := by omega
      have hl0 : (0 : Int) ≤ (k : Int) := by omega
      have Hx := Lib.hid hx; clear hx hc hcb e0 e1
      by_cases h1 : x.side = y.side
      · have d1 : (x.side = y.side) = True := eq_true h1
        by_cases h2 : x.num = y.num
        · have d2 : (x.num = y.num) = True := eq_true h2
          have Hp : Hid (decide (y ∈ xs) = true) := Lib.hid (by rw [decide_eq_true_eq]; have := List.mem_of_getElem? Hx.out; cases x; cases y; simp_all)
          clear h1 h2
          go_wp2_with fail
          refine wp_region_later (by kernel_rfl) (by kernel_rfl) ?_
          repeat (go_big_quiet_step (first | fail))
          refine wpQuiet_nil ?_
          intro _ hw'
          obtain ⟨xq, hw''⟩ := hw'
          subst hw''
          have hba := xq.h
          generalize xq.to = wa at hba ⊢
          clear m0 m1 n0 n1
          go_wp2_with fail
          go_ret
          exact ⟨ret_bool Hp.out.symm, below_trans hwW (below_trans hb hba)⟩
        · have d2 : (x.num = y.num) = False := eq_false h2
          have Hn := Lib.hid (mem_snoc (P := fun z => z ≠ y) Hx.out Hr.out (fun e => h2 (by rw [e])))
          clear h1 h2
          go_wp2_with fail
          refine wp_region_later (by kernel_rfl) (by kernel_rfl) ?_
          repeat (go_big_quiet_step (first | fail))
          refine wpQuiet_nil ?_
          intro _ hw'
          obtain ⟨xq, hw''⟩ := hw'
          subst hw''
          have hba := xq.h
          generalize xq.to = wa at hba ⊢
          clear m0 m1 n0 n1
          go_wp2_with fail
          refine ⟨?rel, ?measure⟩
          case rel => exact ⟨k + 1, by omega, by go_num, Hn.out, below_trans hb hba⟩
          case measure => first | (simp [intOf]; done) | (simp [intOf]; omega)
      · have d1 : (x.side = y.side) = False := eq_false h1
        have Hn := Lib.hid (mem_snoc (P := fun z => z ≠ y) Hx.out Hr.out (fun e => h1 (by rw [e])))
        clear h1
        go_wp2_with fail
        refine wp_region_later (by kernel_rfl) (by kernel_rfl) ?_
        repeat (go_big_quiet_step (first | fail))
        refine wpQuiet_nil ?_
        intro _ hw'
        obtain ⟨xq, hw''⟩ := hw'
        subst hw''
        have hba := xq.h
        generalize xq.to = wa at hba ⊢
        clear m0 m1 n0 n1
        go_wp2_with fail
        refine ⟨?rel, ?measure⟩
        case rel => exact ⟨k + 1, by omega, by go_num, Hn.out, below_trans hb hba⟩
        case measure => first | (simp [intOf]; done) | (simp [intOf]; omega)
    · have Hm : Hid (decide (y ∈ xs) = false) := Lib.hid (by rw [decide_eq_false_iff_not]; intro hm; exact Hr.out y (by rw [List.take_of_length_le (by omega)]; exact hm) rfl)
      go_wp2_with fail
      go_ret
      exact ⟨ret_bool Hm.out.symm, below_trans hwW hb⟩

set_option maxHeartbeats 8000000 in
set_option maxRecDepth 100000 in
theorem IsCover_ok19 (g : Graph) (v u : Value) (l : List Die) (w : World) (h : GraphAt w v g) (hl : Dies w u l) :
    Calls Try.prog 14 #[v, u] w fun e w' => e = .returned (.bool (isCovB g l)) ∧ Below w.heap.size w w' := by
  have h0 := h
  obtain ⟨v1, v2, v3, rfl, ho, hr, hk⟩ := h
  obtain ⟨A1, c1, rfl, _, _, _⟩ := ho.cells
  obtain ⟨A2, c2, rfl, _, _, _⟩ := hr.cells
  obtain ⟨A3, c3, rfl, _, _, hck⟩ := hk.cells
  obtain ⟨A, c, rfl, _, _, hcl⟩ := hl.cells
  obtain ⟨W, hW, Hz, hwW, hlt0, hc0⟩ := boxed w #[.slice A1 g.obv.length c1, .slice A2 g.rev.length c2, .slice A3 g.links.length c3] 25
  have a0 := hc0 0 _ rfl; have a1 := hc0 1 _ rfl; have a2 := hc0 2 _ rfl
  clear hc0
  go_enter Try.func14, Try.ntmps14
  go_wp2_with fail
  refine (Graph_ok _ _ _ (h0.below hwW)).mono ?_
  rintro e w1 ⟨rfl, hb1⟩
  clear hW
  have b0 := cell_later hb1 a0; have b1 := cell_later hb1 a1; have b2 := cell_later hb1 a2
  have hw1 := below_trans hwW hb1
  clear a0 a1 a2
  cases hg : graphB g
  · have HN : Hid (isCovB g l = false) := Lib.hid (isCovB_no fun hp => by have := hp.1; rw [hg] at this; cases this)
    go_wp2_with fail
    go_ret
    exact ⟨ret_bool HN.out.symm, hw1⟩
  have HC := Lib.hid (isCov_iff hg (l := l))
  have HD := Lib.hid (diesG_mem hg)
  have ho1 := ho.below hw1; have hr1 := hr.below hw1
  clear hg
  go_wp2_with fail
  go_loopw [5] (fun i wr => ∃ k : Nat, k ≤ l.length ∧ i = .int .i64 k ∧ Hid (∀ j < k, OkAt (diesG g) ltD l j) ∧ Below w1.heap.size w1 wr) (fun i _ => l.length - (intOf i).toNat)
  case atStart => exact ⟨0, Nat.zero_le _, rfl, fun j hj => absurd hj (by omega), Below.refl _ _⟩
  case round =>
    obtain ⟨k, hk, rfl, Hall, hb⟩ := hrel
    have hwr := below_trans hw1 hb
    by_cases hlt : k < l.length
    · obtain ⟨b, o, rfl, _, hcb⟩ := hcl k hlt
      obtain ⟨x, hx⟩ := get_of_lt hlt
      obtain ⟨e0, e1⟩ := hcb wr hwr k x hx
      have m0 := Later.cell_all e0; have m1 := Later.cell_all e1
      have n0 := Later.cell_all (cell_later hb b0); have n1 := Later.cell_all (cell_later hb b1); have n2 := Later.cell_all (cell_later hb b2)
      have hl1 : (k : Int) < (l.length : Int) := by omega
      have hl0 : (0 : Int) ≤ (k : Int) := by omega
      have HO := Lib.hid (fun y : Later wr => Has_ok (.slice A1 g.obv.length c1) g.obv x.num y.to (ho1.below (below_trans hb y.h)))
      have HR := Lib.hid (fun y : Later wr => Has_ok (.slice A2 g.rev.length c2) g.rev x.num y.to (hr1.below (below_trans hb y.h)))
      have HI := Lib.hid (fun y : Later wr => In_ok x.side 0 1 y.to)
      have HDx := Lib.hid (HD.out x)
      clear e0 e1
      cases hm : dieIn g x
      · have Hno := Lib.hid (okAt_no (lt := ltD) hx (.inl (fun e => by have := HDx.out.1 e; rw [hm] at this; cases this)))
        by_cases s0 : x.side = 0
        · have hh : hasB g.obv x.num = false := by simpa [dieIn, s0] using hm
          rw [hh] at HO
          rw [s0] at m0
          clear hm hx hcb hcl hh
          go_wp2_with fail
          refine wp_region_later (by kernel_rfl) (by kernel_rfl) ?_
          repeat (go_big_quiet_step (first | (go_at_call 32; with_reducible exact calls_later_same (HO.out _))))
          refine wpQuiet_nil ?_
          intro _ hw'
          obtain ⟨xq, hw''⟩ := hw'
          subst hw''
          have hba := xq.h
          generalize xq.to = wa at hba ⊢
          go_wp2_with fail
          go_ret
          exact ⟨ret_bool (isCovB_no fun hp => Hno.out ((HC.out).1 hp).1).symm, below_trans hwr hba⟩
        have d0 : (x.side == 0) = false := by simpa using s0
        by_cases s1 : x.side = 1
        · have hh : hasB g.rev x.num = false := by simpa [dieIn, s1] using hm
          rw [hh] at HR
          rw [s1] at m0
          clear hm hx hcb hcl hh
          go_wp2_with fail
          refine wp_region_later (by kernel_rfl) (by kernel_rfl) ?_
          repeat (go_big_quiet_step (first | (go_at_call 32; with_reducible exact calls_later_same (HR.out _))))
          refine wpQuiet_nil ?_
          intro _ hw'
          obtain ⟨xq, hw''⟩ := hw'
          subst hw''
          have hba := xq.h
          generalize xq.to = wa at hba ⊢
          go_wp2_with fail
          go_ret
          exact ⟨ret_bool (isCovB_no fun hp => Hno.out ((HC.out).1 hp).1).symm, below_trans hwr hba⟩
        have d1 : (x.side == 1) = false := by simpa using s1
        have hi : inB x.side 0 1 = false := by simp only [inB]; simp; omega
        rw [hi] at HI
        clear hm hx hcb hcl hi
        go_wp2_with fail
        refine wp_region_later (by kernel_rfl) (by kernel_rfl) ?_
        repeat (go_big_quiet_step (first | (go_at_call 33; with_reducible exact calls_later_same (HI.out _))))
        refine wpQuiet_nil ?_
        intro _ hw'
        obtain ⟨xq, hw''⟩ := hw'
        subst hw''
        have hba := xq.h
        generalize xq.to = wa at hba ⊢
        go_wp2_with fail
        go_ret
        exact ⟨ret_bool (isCovB_no fun hp => Hno.out ((HC.out).1 hp).1).symm, below_trans hwr hba⟩
      have Hmem := Lib.hid (HDx.out.2 hm)
      clear HDx
      by_cases s0 : x.side = 0
      · have hh : hasB g.obv x.num = true := by simpa [dieIn, s0] using hm
        have hi : inB x.side 0 1 = true := by rw [s0]; rfl
        rw [hh] at HO
        rw [hi, s0] at HI
        rw [s0] at m0
        clear hm hh hi s0
        go_wp2_with fail
        refine wp_region_later (by kernel_rfl) (by kernel_rfl) ?_
        repeat (go_big_quiet_step (first | (go_at_call 32; with_reducible exact calls_later_same (HO.out _)) | (go_at_call 33; with_reducible exact calls_later_same (HI.out _))))
        refine wpQuiet_nil ?_
        intro _ hw'
        obtain ⟨xq, hw''⟩ := hw'
        subst hw''
        have hba := xq.h
        generalize xq.to = wa at hba ⊢
        clear n0 n1 n2
        have hbA := below_trans hb hba
        have hwA := below_trans hwr hba
        by_cases hk0 : 0 < k
        · obtain ⟨y, hy⟩ := get_of_lt (show k - 1 < l.length by omega)
          obtain ⟨f0', f1'⟩ := hcb wa hwA (k - 1) y hy
          obtain ⟨g0', g1'⟩ := hcb wa hwA k x hx
          have f0 := Later.cell_all f0'; have f1 := Later.cell_all f1'
          have g0 := Later.cell_all g0'; have g1 := Later.cell_all g1'
          have d5 : decide ((0 : Int) < (k : Int)) = true := by simp; omega
          have Hno' := Lib.hid (fun h => okAt_no (D := diesG g) (lt := ltD) hx (.inr ⟨y, hk0, hy, h⟩))
          have Hok' := Lib.hid (fun h => okAt_yes (D := diesG g) (lt := ltD) hx Hmem.out (.inr ⟨y, hy, h⟩))
          clear hy hcb hcl hx m0 m1 f0' f1' g0' g1'
          by_cases q1 : x.side < y.side
          · have d1 : decide (x.side < y.side) = true := decide_eq_true q1
            have Hno := Lib.hid (Hno'.out (by unfold ltD; omega))
            clear q1 Hno' Hok'
            go_wp2_with fail
            refine wp_region_later (by kernel_rfl) (by kernel_rfl) ?_
            repeat (go_big_quiet_step (first | fail))
            refine wpQuiet_nil ?_
            intro _ hw'
            obtain ⟨xq, hw''⟩ := hw'
            subst hw''
            have hbb := xq.h
            generalize xq.to = wb at hbb ⊢
            go_wp2_with fail
            go_ret
            exact ⟨ret_bool (isCovB_no fun hp => Hno.out ((HC.out).1 hp).1).symm, below_trans hwA hbb⟩
          · have d1 : decide (x.side < y.side) = false := decide_eq_false q1
            by_cases q2 : x.side = y.side
            · have d2 : (x.side == y.side) = true := by simpa using q2
              by_cases q3 : x.num ≤ y.num
              · have d3 : decide (x.num ≤ y.num) = true := decide_eq_true q3
                have Hno := Lib.hid (Hno'.out (by unfold ltD; omega))
                clear q1 q2 q3 Hno' Hok'
                go_wp2_with fail
                refine wp_region_later (by kernel_rfl) (by kernel_rfl) ?_
                repeat (go_big_quiet_step (first | fail))
                refine wpQuiet_nil ?_
                intro _ hw'
                obtain ⟨xq, hw''⟩ := hw'
                subst hw''
                have hbb := xq.h
                generalize xq.to = wb at hbb ⊢
                go_wp2_with fail
                go_ret
                exact ⟨ret_bool (isCovB_no fun hp => Hno.out ((HC.out).1 hp).1).symm, below_trans hwA hbb⟩
              · have d3 : decide (x.num ≤ y.num) = false := decide_eq_false q3
                have Hok := Lib.hid (Hok'.out (by unfold ltD; omega))
                clear q1 q2 q3 Hno' Hok'
                go_wp2_with fail
                refine wp_region_later (by kernel_rfl) (by kernel_rfl) ?_
                repeat (go_big_quiet_step (first | fail))
                refine wpQuiet_nil ?_
                intro _ hw'
                obtain ⟨xq, hw''⟩ := hw'
                subst hw''
                have hbb := xq.h
                generalize xq.to = wb at hbb ⊢
                go_wp2_with fail
                refine ⟨?rel, ?measure⟩
                case rel => exact ⟨k + 1, by omega, by go_num, okAt_snoc Hall.out Hok.out, below_trans hbA hbb⟩
                case measure => first | (simp [intOf]; done) | (simp [intOf]; omega)
            · have d2 : (x.side == y.side) = false := by simpa using q2
              have Hok := Lib.hid (Hok'.out (by unfold ltD; omega))
              clear q1 q2 Hno' Hok'
              go_wp2_with fail
              refine wp_region_later (by kernel_rfl) (by kernel_rfl) ?_
              repeat (go_big_quiet_step (first | fail))
              refine wpQuiet_nil ?_
              intro _ hw'
              obtain ⟨xq, hw''⟩ := hw'
              subst hw''
              have hbb := xq.h
              generalize xq.to = wb at hbb ⊢
              go_wp2_with fail
              refine ⟨?rel, ?measure⟩
              case rel => exact ⟨k + 1, by omega, by go_num, okAt_snoc Hall.out Hok.out, below_trans hbA hbb⟩
              case measure => first | (simp [intOf]; done) | (simp [intOf]; omega)
        · have d5 : decide ((0 : Int) < (k : Int)) = false := by simp; omega
          have Hok := Lib.hid (okAt_yes (D := diesG g) (lt := ltD) hx Hmem.out (.inl (show k = 0 by omega)))
          clear hx hcb hcl m0 m1
          go_wp2_with fail
          refine wp_region_later (by kernel_rfl) (by kernel_rfl) ?_
          repeat (go_big_quiet_step (first | fail))
          refine wpQuiet_nil ?_
          intro _ hw'
          obtain ⟨xq, hw''⟩ := hw'
          subst hw''
          have hbb := xq.h
          generalize xq.to = wb at hbb ⊢
          go_wp2_with fail
          refine ⟨?rel, ?measure⟩
          case rel => exact ⟨k + 1, by omega, by go_num, okAt_snoc Hall.out Hok.out, below_trans hbA hbb⟩
          case measure => first | (simp [intOf]; done) | (simp [intOf]; omega)
      · have s1 : x.side = 1 := by
          simp only [dieIn, Bool.or_eq_true, Bool.and_eq_true, beq_iff_eq] at hm
          rcases hm with h | h
          · exact absurd h.1 s0
          · exact h.1
        have hh : hasB g.rev x.num = true := by simpa [dieIn, s1] using hm
        have hi : inB x.side 0 1 = true := by rw [s1]; rfl
        rw [hh] at HR
        rw [hi, s1] at HI
        rw [s1] at m0
        have d0 : (x.side == 0) = false := by simpa using s0
        clear hm hh hi s0 s1
        go_wp2_with fail
        refine wp_region_later (by kernel_rfl) (by kernel_rfl) ?_
        repeat (go_big_quiet_step (first | (go_at_call 32; with_reducible exact calls_later_same (HR.out _)) | (go_at_call 33; with_reducible exact calls_later_same (HI.out _))))
        refine wpQuiet_nil ?_
        intro _ hw'
        obtain ⟨xq, hw''⟩ := hw'
        subst hw''
        have hba := xq.h
        generalize xq.to = wa at hba ⊢
        clear n0 n1 n2
        have hbA := below_trans hb hba
        have hwA := below_trans hwr hba
        by_cases hk0 : 0 < k
        · obtain ⟨y, hy⟩ := get_of_lt (show k - 1 < l.length by omega)
          obtain ⟨f0', f1'⟩ := hcb wa hwA (k - 1) y hy
          obtain ⟨g0', g1'⟩ := hcb wa hwA k x hx
          have f0 := Later.cell_all f0'; have f1 := Later.cell_all f1'
          have g0 := Later.cell_all g0'; have g1 := Later.cell_all g1'
          have d5 : decide ((0 : Int) < (k : Int)) = true := by simp; omega
          have Hno' := Lib.hid (fun h => okAt_no (D := diesG g) (lt := ltD) hx (.inr ⟨y, hk0, hy, h⟩))
          have Hok' := Lib.hid (fun h => okAt_yes (D := diesG g) (lt := ltD) hx Hmem.out (.inr ⟨y, hy, h⟩))
          clear hy hcb hcl hx m0 m1 f0' f1' g0' g1'
          by_cases q1 : x.side < y.side
          · have d1 : decide (x.side < y.side) = true := decide_eq_true q1
            have Hno := Lib.hid (Hno'.out (by unfold ltD; omega))
            clear q1 Hno' Hok'
            go_wp2_with fail
            refine wp_region_later (by kernel_rfl) (by kernel_rfl) ?_
            repeat (go_big_quiet_step (first | fail))
            refine wpQuiet_nil ?_
            intro _ hw'
            obtain ⟨xq, hw''⟩ := hw'
            subst hw''
            have hbb := xq.h
            generalize xq.to = wb at hbb ⊢
            go_wp2_with fail
            go_ret
            exact ⟨ret_bool (isCovB_no fun hp => Hno.out ((HC.out).1 hp).1).symm, below_trans hwA hbb⟩
          · have d1 : decide (x.side < y.side) = false := decide_eq_false q1
            by_cases q2 : x.side = y.side
            · have d2 : (x.side == y.side) = true := by simpa using q2
              by_cases q3 : x.num ≤ y.num
              · have d3 : decide (x.num ≤ y.num) = true := decide_eq_true q3
                have Hno := Lib.hid (Hno'.out (by unfold ltD; omega))
                clear q1 q2 q3 Hno' Hok'
                go_wp2_with fail
                refine wp_region_later (by kernel_rfl) (by kernel_rfl) ?_
                repeat (go_big_quiet_step (first | fail))
                refine wpQuiet_nil ?_
                intro _ hw'
                obtain ⟨xq, hw''⟩ := hw'
                subst hw''
                have hbb := xq.h
                generalize xq.to = wb at hbb ⊢
                go_wp2_with fail
                go_ret
                exact ⟨ret_bool (isCovB_no fun hp => Hno.out ((HC.out).1 hp).1).symm, below_trans hwA hbb⟩
              · have d3 : decide (x.num ≤ y.num) = false := decide_eq_false q3
                have Hok := Lib.hid (Hok'.out (by unfold ltD; omega))
                clear q1 q2 q3 Hno' Hok'
                go_wp2_with fail
                refine wp_region_later (by kernel_rfl) (by kernel_rfl) ?_
                repeat (go_big_quiet_step (first | fail))
                refine wpQuiet_nil ?_
                intro _ hw'
                obtain ⟨xq, hw''⟩ := hw'
                subst hw''
                have hbb := xq.h
                generalize xq.to = wb at hbb ⊢
                go_wp2_with fail
                refine ⟨?rel, ?measure⟩
                case rel => exact ⟨k + 1, by omega, by go_num, okAt_snoc Hall.out Hok.out, below_trans hbA hbb⟩
                case measure => first | (simp [intOf]; done) | (simp [intOf]; omega)
            · have d2 : (x.side == y.side) = false := by simpa using q2
              have Hok := Lib.hid (Hok'.out (by unfold ltD; omega))
              clear q1 q2 Hno' Hok'
              go_wp2_with fail
              refine wp_region_later (by kernel_rfl) (by kernel_rfl) ?_
              repeat (go_big_quiet_step (first | fail))
              refine wpQuiet_nil ?_
              intro _ hw'
              obtain ⟨xq, hw''⟩ := hw'
              subst hw''
              have hbb := xq.h
              generalize xq.to = wb at hbb ⊢
              go_wp2_with fail
              refine ⟨?rel, ?measure⟩
              case rel => exact ⟨k + 1, by omega, by go_num, okAt_snoc Hall.out Hok.out, below_trans hbA hbb⟩
              case measure => first | (simp [intOf]; done) | (simp [intOf]; omega)
        · have d5 : decide ((0 : Int) < (k : Int)) = false := by simp; omega
          have Hok := Lib.hid (okAt_yes (D := diesG g) (lt := ltD) hx Hmem.out (.inl (show k = 0 by omega)))
          clear hx hcb hcl m0 m1
          go_wp2_with fail
          refine wp_region_later (by kernel_rfl) (by kernel_rfl) ?_
          repeat (go_big_quiet_step (first | fail))
          refine wpQuiet_nil ?_
          intro _ hw'
          obtain ⟨xq, hw''⟩ := hw'
          subst hw''
          have hbb := xq.h
          generalize xq.to = wb at hbb ⊢
          go_wp2_with fail
          refine ⟨?rel, ?measure⟩
          case rel => exact ⟨k + 1, by omega, by go_num, okAt_snoc Hall.out Hok.out, below_trans hbA hbb⟩
          case measure => first | (simp [intOf]; done) | (simp [intOf]; omega)
    · have Hal := Lib.hid (okAt_all hlt Hall.out)
      clear Hall hcl
      have d0 := cell_later hb b0; have d1 := cell_later hb b1; have d2 := cell_later hb b2
      obtain ⟨wp, hwp⟩ : ∃ z, z = wr := ⟨_, rfl⟩
      subst hwp
      have HbP := Lib.hid hb
      clear b0 b1 b2
      go_wp2_with fail
      go_loopw [6] (fun i wq => ∃ k : Nat, k ≤ g.links.length ∧ i = .int .i64 k ∧ Hid (∀ x ∈ g.links.take k, (⟨0, x.obv⟩ : Die) ∈ l ∨ (⟨1, x.rev⟩ : Die) ∈ l) ∧ Below wp.heap.size wp wq) (fun i _ => g.links.length - (intOf i).toNat)
      case atStart => exact ⟨0, Nat.zero_le _, rfl, fun x hx => absurd hx (by simp), Below.refl _ _⟩
      case round =>
        clear hlt hk
        obtain ⟨k, hk, rfl, Hall, hbq⟩ := hrel
        have hwq := below_trans hwr hbq
        have n0 := cell_later hbq d0; have n1 := cell_later hbq d1; have n2 := cell_later hbq d2
        by_cases hlt : k < g.links.length
        · obtain ⟨b, o, rfl, _, hcb⟩ := hck k hlt
          obtain ⟨x, hx⟩ := get_of_lt hlt
          obtain ⟨e0, e1, e2⟩ := hcb _ hwq k x hx
          have HC1 := Lib.hid (hasD_ok (.slice A l.length c) l ⟨0, x.obv⟩ _ (hl.below hwq))
          clear hcb hck
          cases h1 : decide ((⟨0, x.obv⟩ : Die) ∈ l)
          · rw [h1] at HC1
            have hn1 : (⟨0, x.obv⟩ : Die) ∉ l := by simpa using h1
            have Hx := Lib.hid hx; have Hn1 := Lib.hid hn1
            clear hx hn1 h1
            go_wp2_with fail
            refine HC1.out.mono ?_
            rintro e w3 ⟨rfl, hb3⟩
            have hbX := below_trans hwq hb3
            have f0 := cell_later hb3 e0; have f1 := cell_later hb3 e1; have f2 := cell_later hb3 e2
            have q0 := cell_later hb3 n0; have q1 := cell_later hb3 n1; have q2 := cell_later hb3 n2
            have HC2 := Lib.hid (hasD_ok (.slice A l.length c) l ⟨1, x.rev⟩ w3 (hl.below hbX))
            clear HC1
            cases h2 : decide ((⟨1, x.rev⟩ : Die) ∈ l)
            · rw [h2] at HC2
              have HN : Hid (isCovB g l = false) := Lib.hid (isCovB_no fun hp => by
                rcases (HC.out.1 hp).2 x (List.mem_of_getElem? Hx.out) with h | h
                · exact Hn1.out h
                · simp [h] at h2)
              clear h2
              go_wp2_with fail
              refine HC2.out.mono ?_
              rintro e w4 ⟨rfl, hb4⟩
              go_wp2_with fail
              go_ret
              exact ⟨ret_bool HN.out.symm, below_trans hbX hb4⟩
            · rw [h2] at HC2
              have Ha := Lib.hid (mem_snoc (P := fun x : Link => (⟨0, x.obv⟩ : Die) ∈ l ∨ (⟨1, x.rev⟩ : Die) ∈ l) Hx.out Hall.out (.inr (by simpa using h2)))
              clear h2
              go_wp2_with fail
              refine HC2.out.mono ?_
              rintro e w4 ⟨rfl, hb4⟩
              go_wp2_with fail
              refine ⟨?rel, ?measure⟩
              case rel => exact ⟨k + 1, by omega, by go_num, Ha.out, below_trans hbq (below_trans hb3 hb4)⟩
              case measure => first | (simp [intOf]; done) | (simp [intOf]; omega)
          · rw [h1] at HC1
            have Ha := Lib.hid (mem_snoc (P := fun x : Link => (⟨0, x.obv⟩ : Die) ∈ l ∨ (⟨1, x.rev⟩ : Die) ∈ l) hx Hall.out (.inl (by simpa using h1)))
            clear hx h1
            go_wp2_with fail
            refine HC1.out.mono ?_
            rintro e w3 ⟨rfl, hb3⟩
            go_wp2_with fail
            refine ⟨?rel, ?measure⟩
            case rel => exact ⟨k + 1, by omega, by go_num, Ha.out, below_trans hbq hb3⟩
            case measure => first | (simp [intOf]; done) | (simp [intOf]; omega)
        · have HY : Hid (isCovB g l = true) := Lib.hid (isCovB_yes (HC.out.2 ⟨Hal.out, fun x hx => Hall.out x (by rw [List.take_of_length_le (by omega)]; exact hx)⟩))
          go_wp2_with fail
          go_ret
          exact ⟨ret_bool HY.out.symm, hwq⟩
end Go.Proofs.Ytnaoiochfdipiaa
