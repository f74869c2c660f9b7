/- The law's kept. Condition: whatever has a pair in the first list has one in the second. -/
import Derived.Test.YtnaoiochfdipiaaRefL
namespace Go.Proofs.Ytnaoiochfdipiaa
open Go.RowKit Go.Shelf Go.Maps

set_option maxHeartbeats 8000000 in
set_option maxRecDepth 100000 in
theorem kept_ok (v u : Value) (xs ys : List Pair) (w : World) (h : Pairs w v xs) (h' : Pairs w u ys) (hk : KeptP xs ys) :
    Calls Try.prog 21 #[v, u] w fun e w' => e = .returned (.bool true) ∧ Below w.heap.size w w' := by
  obtain ⟨A, c, rfl, _, _, hca⟩ := h.cells
  obtain ⟨A', c', rfl, _, _, hcb⟩ := h'.cells
  have HK := Lib.hid hk; clear hk
  go_enter Try.func21, Try.ntmps21
  go_wp2_with fail
  go_loopw [5] (fun i wr => ∃ k : Nat, k ≤ xs.length ∧ i = .int .i64 k ∧ Below w.heap.size w wr) (fun i _ => xs.length - (intOf i).toNat)
  case atStart => exact ⟨0, Nat.zero_le _, rfl, Below.refl _ _⟩
  case round =>
    obtain ⟨i, hi, rfl, hbo⟩ := hrel
    obtain ⟨wp, hwp⟩ : ∃ z, z = wr := ⟨_, rfl⟩
    subst hwp
    by_cases hin : i < xs.length
    · obtain ⟨p, hp⟩ := get_of_lt hin
      obtain ⟨ba, oa, rfl, _, hcp⟩ := hca i hin
      have Hcp := Lib.hid (fun w' (hb : Below w.heap.size w w') => hcp w' hb i p hp)
      have hi1 : (i : Int) < (xs.length : Int) := by omega
      have hi0 : (0 : Int) ≤ (i : Int) := by omega
      have Hp := Lib.hid (HK.out p (List.mem_of_getElem? hp))
      clear hp hcp
      go_wp2_with fail
      go_loopw [6, 7, 8] (fun x y j wr => ∃ (k : Nat) (b1 b2 : Bool), k ≤ ys.length ∧ x = .bool b1 ∧ y = .bool b2 ∧ j = .int .i64 k ∧ Hid (b1 = decide (p.a ∈ (ys.take k).map Pair.a)) ∧ Hid (b2 = decide (p.b ∈ (ys.take k).map Pair.b)) ∧ Below wp.heap.size wp wr) (fun _ _ j _ => ys.length - (intOf j).toNat)
      case atStart => exact ⟨0, false, false, Nat.zero_le _, rfl, rfl, rfl, by show _ = _; simp, by show _ = _; simp, Below.refl _ _⟩
      case round =>
        obtain ⟨k, b1, b2, hk, rfl, rfl, rfl, Hb1, Hb2, hb⟩ := hrel
        have hbw := below_trans hbo hb
        by_cases hkn : k < ys.length
        · obtain ⟨q, hq⟩ := get_of_lt hkn
          obtain ⟨bq, oq, rfl, _, hcq⟩ := hcb k hkn
          obtain ⟨e0', e1'⟩ := hcq wr hbw k q hq
          obtain ⟨e2', e3'⟩ := Hcp.out wr hbw
          have e0 := Later.cell_all e0'; have e1 := Later.cell_all e1'; have e2 := Later.cell_all e2'; have e3 := Later.cell_all e3'
          have hk1 : (k : Int) < (ys.length : Int) := by omega
          have hk0 : (0 : Int) ≤ (k : Int) := by omega
          have Hq := Lib.hid hq
          clear hq hcq
          cases b1
          · by_cases hq1 : q.a = p.a
            · have y1 : (q.a == p.a) = true := by simpa using hq1
              have Hn1 := Lib.hid (mem_map_yes (f := Pair.a) Hq.out hq1)
              clear hq1
              cases b2
              · by_cases hq2 : q.b = p.b
                · have y2 : (q.b == p.b) = true := by simpa using hq2
                  have Hn2 := Lib.hid (mem_map_yes (f := Pair.b) Hq.out hq2)
                  clear hq2
                  go_wp2_with fail
                  refine wp_region_later (by kernel_rfl) (by kernel_rfl) ?_
                  repeat (go_big_quiet_step (first | fail))
                  refine wpQuiet_nil ?_
                  intro _ hw'
                  obtain ⟨xq, hw''⟩ := hw'
                  subst hw''
                  have hba := xq.h
                  generalize xq.to = wa at hba ⊢
                  have n0 := Later.cell_all (cell_later hba e0'); have n1 := Later.cell_all (cell_later hba e1'); have n2 := Later.cell_all (cell_later hba e2'); have n3 := Later.cell_all (cell_later hba e3')
                  clear e0' e1' e2' e3' e0 e1 e2 e3
                  go_wp2_with fail
                  refine wp_region_later (by kernel_rfl) (by kernel_rfl) ?_
                  repeat (go_big_quiet_step (first | fail))
                  refine wpQuiet_nil ?_
                  intro _ hw'
                  obtain ⟨xq, hw''⟩ := hw'
                  subst hw''
                  have hbb := xq.h
                  generalize xq.to = wb at hbb ⊢
                  go_wp2_with fail
                  refine ⟨?rel, ?measure⟩
                  case rel => exact ⟨k + 1, true, true, by omega, rfl, rfl, by go_num, Hn1.out, Hn2.out, below_trans hb (below_trans hba hbb)⟩
                  case measure => first | (simp [intOf]; done) | (simp [intOf]; omega)
                · have y2 : (q.b == p.b) = false := by simpa using hq2
                  have Hn2 := Lib.hid (mem_map_no (f := Pair.b) Hq.out hq2 Hb2.out)
                  clear hq2
                  go_wp2_with fail
                  refine wp_region_later (by kernel_rfl) (by kernel_rfl) ?_
                  repeat (go_big_quiet_step (first | fail))
                  refine wpQuiet_nil ?_
                  intro _ hw'
                  obtain ⟨xq, hw''⟩ := hw'
                  subst hw''
                  have hba := xq.h
                  generalize xq.to = wa at hba ⊢
                  have n0 := Later.cell_all (cell_later hba e0'); have n1 := Later.cell_all (cell_later hba e1'); have n2 := Later.cell_all (cell_later hba e2'); have n3 := Later.cell_all (cell_later hba e3')
                  clear e0' e1' e2' e3' e0 e1 e2 e3
                  go_wp2_with fail
                  refine wp_region_later (by kernel_rfl) (by kernel_rfl) ?_
                  repeat (go_big_quiet_step (first | fail))
                  refine wpQuiet_nil ?_
                  intro _ hw'
                  obtain ⟨xq, hw''⟩ := hw'
                  subst hw''
                  have hbb := xq.h
                  generalize xq.to = wb at hbb ⊢
                  go_wp2_with fail
                  refine ⟨?rel, ?measure⟩
                  case rel => exact ⟨k + 1, true, false, by omega, rfl, rfl, by go_num, Hn1.out, Hn2.out, below_trans hb (below_trans hba hbb)⟩
                  case measure => first | (simp [intOf]; done) | (simp [intOf]; omega)
              · have Hn2 := Lib.hid (mem_map_more (f := Pair.b) (k := k) Hb2.out)
                go_wp2_with fail
                refine wp_region_later (by kernel_rfl) (by kernel_rfl) ?_
                repeat (go_big_quiet_step (first | fail))
                refine wpQuiet_nil ?_
                intro _ hw'
                obtain ⟨xq, hw''⟩ := hw'
                subst hw''
                have hba := xq.h
                generalize xq.to = wa at hba ⊢
                clear e0' e1' e2' e3' e0 e1 e2 e3
                go_wp2_with fail
                refine wp_region_later (by kernel_rfl) (by kernel_rfl) ?_
                repeat (go_big_quiet_step (first | fail))
                refine wpQuiet_nil ?_
                intro _ hw'
                obtain ⟨xq, hw''⟩ := hw'
                subst hw''
                have hbb := xq.h
                generalize xq.to = wb at hbb ⊢
                go_wp2_with fail
                refine ⟨?rel, ?measure⟩
                case rel => exact ⟨k + 1, true, true, by omega, rfl, rfl, by go_num, Hn1.out, Hn2.out, below_trans hb (below_trans hba hbb)⟩
                case measure => first | (simp [intOf]; done) | (simp [intOf]; omega)
            · have y1 : (q.a == p.a) = false := by simpa using hq1
              have Hn1 := Lib.hid (mem_map_no (f := Pair.a) Hq.out hq1 Hb1.out)
              clear hq1
              cases b2
              · by_cases hq2 : q.b = p.b
                · have y2 : (q.b == p.b) = true := by simpa using hq2
                  have Hn2 := Lib.hid (mem_map_yes (f := Pair.b) Hq.out hq2)
                  clear hq2
                  go_wp2_with fail
                  refine wp_region_later (by kernel_rfl) (by kernel_rfl) ?_
                  repeat (go_big_quiet_step (first | fail))
                  refine wpQuiet_nil ?_
                  intro _ hw'
                  obtain ⟨xq, hw''⟩ := hw'
                  subst hw''
                  have hba := xq.h
                  generalize xq.to = wa at hba ⊢
                  have n0 := Later.cell_all (cell_later hba e0'); have n1 := Later.cell_all (cell_later hba e1'); have n2 := Later.cell_all (cell_later hba e2'); have n3 := Later.cell_all (cell_later hba e3')
                  clear e0' e1' e2' e3' e0 e1 e2 e3
                  go_wp2_with fail
                  refine wp_region_later (by kernel_rfl) (by kernel_rfl) ?_
                  repeat (go_big_quiet_step (first | fail))
                  refine wpQuiet_nil ?_
                  intro _ hw'
                  obtain ⟨xq, hw''⟩ := hw'
                  subst hw''
                  have hbb := xq.h
                  generalize xq.to = wb at hbb ⊢
                  go_wp2_with fail
                  refine ⟨?rel, ?measure⟩
                  case rel => exact ⟨k + 1, false, true, by omega, rfl, rfl, by go_num, Hn1.out, Hn2.out, below_trans hb (below_trans hba hbb)⟩
                  case measure => first | (simp [intOf]; done) | (simp [intOf]; omega)
                · have y2 : (q.b == p.b) = false := by simpa using hq2
                  have Hn2 := Lib.hid (mem_map_no (f := Pair.b) Hq.out hq2 Hb2.out)
                  clear hq2
                  go_wp2_with fail
                  refine wp_region_later (by kernel_rfl) (by kernel_rfl) ?_
                  repeat (go_big_quiet_step (first | fail))
                  refine wpQuiet_nil ?_
                  intro _ hw'
                  obtain ⟨xq, hw''⟩ := hw'
                  subst hw''
                  have hba := xq.h
                  generalize xq.to = wa at hba ⊢
                  have n0 := Later.cell_all (cell_later hba e0'); have n1 := Later.cell_all (cell_later hba e1'); have n2 := Later.cell_all (cell_later hba e2'); have n3 := Later.cell_all (cell_later hba e3')
                  clear e0' e1' e2' e3' e0 e1 e2 e3
                  go_wp2_with fail
                  refine wp_region_later (by kernel_rfl) (by kernel_rfl) ?_
                  repeat (go_big_quiet_step (first | fail))
                  refine wpQuiet_nil ?_
                  intro _ hw'
                  obtain ⟨xq, hw''⟩ := hw'
                  subst hw''
                  have hbb := xq.h
                  generalize xq.to = wb at hbb ⊢
                  go_wp2_with fail
                  refine ⟨?rel, ?measure⟩
                  case rel => exact ⟨k + 1, false, false, by omega, rfl, rfl, by go_num, Hn1.out, Hn2.out, below_trans hb (below_trans hba hbb)⟩
                  case measure => first | (simp [intOf]; done) | (simp [intOf]; omega)
              · have Hn2 := Lib.hid (mem_map_more (f := Pair.b) (k := k) Hb2.out)
                go_wp2_with fail
                refine wp_region_later (by kernel_rfl) (by kernel_rfl) ?_
                repeat (go_big_quiet_step (first | fail))
                refine wpQuiet_nil ?_
                intro _ hw'
                obtain ⟨xq, hw''⟩ := hw'
                subst hw''
                have hba := xq.h
                generalize xq.to = wa at hba ⊢
                clear e0' e1' e2' e3' e0 e1 e2 e3
                go_wp2_with fail
                refine wp_region_later (by kernel_rfl) (by kernel_rfl) ?_
                repeat (go_big_quiet_step (first | fail))
                refine wpQuiet_nil ?_
                intro _ hw'
                obtain ⟨xq, hw''⟩ := hw'
                subst hw''
                have hbb := xq.h
                generalize xq.to = wb at hbb ⊢
                go_wp2_with fail
                refine ⟨?rel, ?measure⟩
                case rel => exact ⟨k + 1, false, true, by omega, rfl, rfl, by go_num, Hn1.out, Hn2.out, below_trans hb (below_trans hba hbb)⟩
                case measure => first | (simp [intOf]; done) | (simp [intOf]; omega)
          · have Hn1 := Lib.hid (mem_map_more (f := Pair.a) (k := k) Hb1.out)
            cases b2
            · by_cases hq2 : q.b = p.b
              · have y2 : (q.b == p.b) = true := by simpa using hq2
                have Hn2 := Lib.hid (mem_map_yes (f := Pair.b) Hq.out hq2)
                clear hq2
                go_wp2_with fail
                refine wp_region_later (by kernel_rfl) (by kernel_rfl) ?_
                repeat (go_big_quiet_step (first | fail))
                refine wpQuiet_nil ?_
                intro _ hw'
                obtain ⟨xq, hw''⟩ := hw'
                subst hw''
                have hba := xq.h
                generalize xq.to = wa at hba ⊢
                have n0 := Later.cell_all (cell_later hba e0'); have n1 := Later.cell_all (cell_later hba e1'); have n2 := Later.cell_all (cell_later hba e2'); have n3 := Later.cell_all (cell_later hba e3')
                clear e0' e1' e2' e3' e0 e1 e2 e3
                go_wp2_with fail
                refine wp_region_later (by kernel_rfl) (by kernel_rfl) ?_
                repeat (go_big_quiet_step (first | fail))
                refine wpQuiet_nil ?_
                intro _ hw'
                obtain ⟨xq, hw''⟩ := hw'
                subst hw''
                have hbb := xq.h
                generalize xq.to = wb at hbb ⊢
                go_wp2_with fail
                refine ⟨?rel, ?measure⟩
                case rel => exact ⟨k + 1, true, true, by omega, rfl, rfl, by go_num, Hn1.out, Hn2.out, below_trans hb (below_trans hba hbb)⟩
                case measure => first | (simp [intOf]; done) | (simp [intOf]; omega)
              · have y2 : (q.b == p.b) = false := by simpa using hq2
                have Hn2 := Lib.hid (mem_map_no (f := Pair.b) Hq.out hq2 Hb2.out)
                clear hq2
                go_wp2_with fail
                refine wp_region_later (by kernel_rfl) (by kernel_rfl) ?_
                repeat (go_big_quiet_step (first | fail))
                refine wpQuiet_nil ?_
                intro _ hw'
                obtain ⟨xq, hw''⟩ := hw'
                subst hw''
                have hba := xq.h
                generalize xq.to = wa at hba ⊢
                have n0 := Later.cell_all (cell_later hba e0'); have n1 := Later.cell_all (cell_later hba e1'); have n2 := Later.cell_all (cell_later hba e2'); have n3 := Later.cell_all (cell_later hba e3')
                clear e0' e1' e2' e3' e0 e1 e2 e3
                go_wp2_with fail
                refine wp_region_later (by kernel_rfl) (by kernel_rfl) ?_
                repeat (go_big_quiet_step (first | fail))
                refine wpQuiet_nil ?_
                intro _ hw'
                obtain ⟨xq, hw''⟩ := hw'
                subst hw''
                have hbb := xq.h
                generalize xq.to = wb at hbb ⊢
                go_wp2_with fail
                refine ⟨?rel, ?measure⟩
                case rel => exact ⟨k + 1, true, false, by omega, rfl, rfl, by go_num, Hn1.out, Hn2.out, below_trans hb (below_trans hba hbb)⟩
                case measure => first | (simp [intOf]; done) | (simp [intOf]; omega)
            · have Hn2 := Lib.hid (mem_map_more (f := Pair.b) (k := k) Hb2.out)
              go_wp2_with fail
              refine wp_region_later (by kernel_rfl) (by kernel_rfl) ?_
              repeat (go_big_quiet_step (first | fail))
              refine wpQuiet_nil ?_
              intro _ hw'
              obtain ⟨xq, hw''⟩ := hw'
              subst hw''
              have hba := xq.h
              generalize xq.to = wa at hba ⊢
              clear e0' e1' e2' e3' e0 e1 e2 e3
              go_wp2_with fail
              refine wp_region_later (by kernel_rfl) (by kernel_rfl) ?_
              repeat (go_big_quiet_step (first | fail))
              refine wpQuiet_nil ?_
              intro _ hw'
              obtain ⟨xq, hw''⟩ := hw'
              subst hw''
              have hbb := xq.h
              generalize xq.to = wb at hbb ⊢
              go_wp2_with fail
              refine ⟨?rel, ?measure⟩
              case rel => exact ⟨k + 1, true, true, by omega, rfl, rfl, by go_num, Hn1.out, Hn2.out, below_trans hb (below_trans hba hbb)⟩
              case measure => first | (simp [intOf]; done) | (simp [intOf]; omega)
        · have hf1 : b1 = true := by
            have := Hb1.out
            rw [List.take_of_length_le (by omega)] at this
            rw [this, decide_eq_true_eq]
            obtain ⟨q, hq, e⟩ := Hp.out.1
            exact List.mem_map.2 ⟨q, hq, e⟩
          have hf2 : b2 = true := by
            have := Hb2.out
            rw [List.take_of_length_le (by omega)] at this
            rw [this, decide_eq_true_eq]
            obtain ⟨q, hq, e⟩ := Hp.out.2
            exact List.mem_map.2 ⟨q, hq, e⟩
          subst hf1; subst hf2
          clear Hb1 Hb2
          go_wp2_with fail
          refine ⟨?rel, ?measure⟩
          case rel => exact ⟨i + 1, by omega, by go_num, hbw⟩
          case measure => first | (simp [intOf]; done) | (simp [intOf]; omega)
    · go_wp2_with fail
      go_ret
      exact ⟨rfl, hbo⟩
end Go.Proofs.Ytnaoiochfdipiaa
