/- The reference's Free. Condition: the arguments read as a graph and at most 41 pairs. -/
import Derived.Test.YtnaoiochfdipiaaRefK
import Derived.Test.YtnaoiochfdipiaaFreeA
import Derived.Test.YtnaoiochfdipiaaCovK
namespace Go.Proofs.Ytnaoiochfdipiaa
open Go.RowKit Go.Shelf Go.Maps

theorem mem_map_yes {α : Type} {f : α → Int} {l : List α} {k : Nat} {p : α} {o : Int} (hp : l[k]? = some p) (h : f p = o) : true = decide (o ∈ (l.take (k + 1)).map f) := by
  rw [take_snoc' hp, List.map_append]
  simp [h]
theorem mem_map_no {α : Type} {f : α → Int} {l : List α} {k : Nat} {p : α} {o : Int} (hp : l[k]? = some p) (h : f p ≠ o) (h0 : false = decide (o ∈ (l.take k).map f)) : false = decide (o ∈ (l.take (k + 1)).map f) := by
  rw [take_snoc' hp, List.map_append, eq_comm, decide_eq_false_iff_not, List.mem_append]
  rw [eq_comm, decide_eq_false_iff_not] at h0
  rintro (h1 | h1)
  · exact h0 h1
  · simp at h1; exact h h1.symm
theorem mem_map_more {α : Type} {f : α → Int} {l : List α} {k : Nat} {o : Int} (h0 : true = decide (o ∈ (l.take k).map f)) : true = decide (o ∈ (l.take (k + 1)).map f) := by
  rw [eq_comm, decide_eq_true_eq] at h0 ⊢
  obtain ⟨p, hp, rfl⟩ := List.mem_map.1 h0
  exact List.mem_map.2 ⟨p, (List.take_subset_take_left l (Nat.le_succ k)) hp, rfl⟩
theorem free_split {g : Graph} {l : List Pair} (hm : isMatB g l = true) : freeG g l = ((g.obv.filter fun o => !inPair l ⟨0, o⟩).map (Die.mk 0)) ++ ((g.rev.filter fun o => !inPair l ⟨1, o⟩).map (Die.mk 1)) := by
  have hg := (isMatB_iff.1 hm).1
  rw [freeG, if_pos hm, diesG, if_pos hg, List.filter_append, List.filter_map, List.filter_map]
  rfl
set_option maxHeartbeats 8000000 in
set_option maxRecDepth 100000 in
theorem Free_ok19 (g : Graph) (v u : Value) (l : List Pair) (w : World) (h : GraphAt w v g) (hl : Pairs w u l) (hlen : l.length ≤ 41) :
    Calls Try.prog 26 #[v, u] w fun e w' => ∃ z, e = .returned (.tuple #[z, .int .i64 (freeE g l)]) ∧ OwnD w.heap.size w' z (freeG g l) ∧ Below w.heap.size w w' := by
  have h0 := h
  obtain ⟨v1, v2, v3, rfl, ho, hr, hk⟩ := h
  obtain ⟨A1, c1, rfl, _, _, hco⟩ := ho.cells
  obtain ⟨A2, c2, rfl, _, _, hcr⟩ := hr.cells
  obtain ⟨A3, c3, rfl, _, _, _⟩ := hk.cells
  obtain ⟨A, c, rfl, _, _, hcl⟩ := hl.cells
  obtain ⟨W, hW, Hz, hwW, hlt0, hc0⟩ := boxed w #[.slice A1 g.obv.length c1, .slice A2 g.rev.length c2, .slice A3 g.links.length c3] 25
  have a0 := hc0 0 _ rfl; have a1 := hc0 1 _ rfl; have a2 := hc0 2 _ rfl
  clear hc0 ho hr hk
  have HM := Lib.hid (IsMatching_ok19 g _ _ l W (h0.below hwW) (hl.below hwW) hlen)
  have HE : Hid (freeE g l = if isMatB g l = true then 0 else 1) := Lib.hid rfl
  have HG0 : Hid (isMatB g l = false → freeG g l = []) := Lib.hid fun e => by rw [freeG, if_neg (by simp [e])]
  have HG := Lib.hid (fun e : isMatB g l = true => free_split e)
  have HB : Hid (isMatB g l = true → graphB g = true) := Lib.hid fun h => (isMatB_iff.1 h).1
  go_enter Try.func26, Try.ntmps26
  go_wp2_with fail
  clear hW
  refine HM.out.mono ?_
  rintro e w1 ⟨rfl, hb1⟩
  clear HM
  have b0 := cell_later hb1 a0; have b1 := cell_later hb1 a1; have b2 := cell_later hb1 a2
  have hw1 := below_trans hwW hb1
  clear a0 a1 a2
  cases hm : isMatB g l
  · rw [hm, if_neg (by simp)] at HE
    have HG1 := Lib.hid (HG0.out hm)
    clear HG HG0
    go_wp2_with fail
    go_ret2
    exact ⟨_, ret_mat HE.out.symm, by rw [HG1.out]; exact own_nil _ _ _ _ _, hw1⟩
  rw [hm, if_pos rfl] at HE
  have hok := (graphB_iff g).1 (HB.out hm)
  have hlo := hok.lo; have hlr := hok.lr
  have HG1 := Lib.hid (HG.out hm)
  clear hm hok HB HG HG0 h0 b2
  obtain ⟨iD, hiD, hzD, hkD, hbD⟩ := info_parts infoD
  go_wp2_with fail
  obtain ⟨pre, hpre⟩ : ∃ p : List Die, p = [] := ⟨_, rfl⟩
  have hpl : pre.length ≤ 32 := by rw [hpre]; simp
  have hown0 : OwnD w1.heap.size w1 (.slice none 0 0) pre := by rw [hpre]; exact own_nil _ _ _ _ _
  have Hpre := Lib.hid hpre
  have hbo0 : Below w1.heap.size w1 w1 := Below.refl _ _
  clear hpre
  go_loopw [6, 7] (fun u i wr => ∃ k : Nat, k ≤ (g.obv).length ∧ i = .int .i64 k ∧ OwnD w1.heap.size wr u (pre ++ (((g.obv).take k).filter fun o => !inPair l ⟨0, o⟩).map (Die.mk 0)) ∧ Below w1.heap.size w1 wr) (fun _ i _ => (g.obv).length - (intOf i).toNat)
  case atStart => exact ⟨0, Nat.zero_le _, rfl, by simpa using hown0, hbo0⟩
  case round =>
    clear hown0 hbo0
    obtain ⟨i, hi, rfl, hown, hbo⟩ := hrel
    obtain ⟨wp, hwp⟩ : ∃ z, z = wr := ⟨_, rfl⟩
    subst hwp
    have n0 := cell_later hbo b0; have n1 := cell_later hbo b1
    by_cases hin : i < (g.obv).length
    · obtain ⟨ba, oa, rfl, _, hca⟩ := hco i hin
      obtain ⟨o, ho⟩ := get_of_lt hin
      have hwo := below_trans hw1 hbo
      have Hca := Lib.hid (fun w' (hb : Below w.heap.size w w') => hca w' hb i o ho)
      have hsn := filter_snoc (p := fun o => !inPair l ⟨0, o⟩) ho
      have Hsn := Lib.hid hsn
      have HO := Lib.hid hown
      have hi1 : (i : Int) < ((g.obv).length : Int) := by omega
      have hi0 : (0 : Int) ≤ (i : Int) := by omega
      clear hca ho hsn hown
      go_wp2_with fail
      go_loopw [8, 9] (fun c j wr => ∃ (k : Nat) (b : Bool), k ≤ l.length ∧ c = .bool b ∧ j = .int .i64 k ∧ Hid (b = decide (o ∈ (l.take k).map Pair.a)) ∧ Below wp.heap.size wp wr) (fun _ j _ => l.length - (intOf j).toNat)
      case atStart => exact ⟨0, false, Nat.zero_le _, rfl, rfl, by show _ = _; simp, Below.refl _ _⟩
      case round =>
        obtain ⟨k, bb, hk, rfl, rfl, Hb, hb⟩ := hrel
        have hbw := below_trans hwo hb
        by_cases hkn : k < l.length
        · obtain ⟨p, hp⟩ := get_of_lt hkn
          obtain ⟨bq, oq, rfl, _, hcq⟩ := hcl k hkn
          obtain ⟨e0', e1'⟩ := hcq wr hbw k p hp
          have e2' := Hca.out wr hbw
          have e0 := Later.cell_all e0'; have e1 := Later.cell_all e1'; have e2 := Later.cell_all e2'
          have q0 := Later.cell_all (cell_later hb n0); have q1 := Later.cell_all (cell_later hb n1)
          have hk1 : (k : Int) < (l.length : Int) := by omega
          have hk0 : (0 : Int) ≤ (k : Int) := by omega
          have Hp := Lib.hid hp
          clear hp hcq e0' e1' e2'
          cases bb
          · by_cases hpo : p.a = o
            · have x1 : (p.a == o) = true := by simpa using hpo
              have Hn := Lib.hid (mem_map_yes (f := Pair.a) Hp.out hpo)
              clear hpo
              go_wp2_with fail
              refine wp_region_later (by kernel_rfl) (by kernel_rfl) ?_
              repeat (go_big_quiet_step (first | fail))
              refine wpQuiet_nil ?_
              intro _ hw'
              obtain ⟨xq, hw''⟩ := hw'
              subst hw''
              have hba := xq.h
              generalize xq.to = wa at hba ⊢
              go_wp2_with fail
              refine ⟨?rel, ?measure⟩
              case rel => exact ⟨k + 1, true, by omega, rfl, by go_num, Hn.out, below_trans hb hba⟩
              case measure => first | (simp [intOf]; done) | (simp [intOf]; omega)
            · have x1 : (p.a == o) = false := by simpa using hpo
              have Hn := Lib.hid (mem_map_no (f := Pair.a) Hp.out hpo Hb.out)
              clear hpo
              go_wp2_with fail
              refine wp_region_later (by kernel_rfl) (by kernel_rfl) ?_
              repeat (go_big_quiet_step (first | fail))
              refine wpQuiet_nil ?_
              intro _ hw'
              obtain ⟨xq, hw''⟩ := hw'
              subst hw''
              have hba := xq.h
              generalize xq.to = wa at hba ⊢
              go_wp2_with fail
              refine ⟨?rel, ?measure⟩
              case rel => exact ⟨k + 1, false, by omega, rfl, by go_num, Hn.out, below_trans hb hba⟩
              case measure => first | (simp [intOf]; done) | (simp [intOf]; omega)
          · have Hn := Lib.hid (mem_map_more (f := Pair.a) (k := k) Hb.out)
            clear e0 e1 e2 q0 q1
            go_wp2_with fail
            refine wp_region_later (by kernel_rfl) (by kernel_rfl) ?_
            repeat (go_big_quiet_step (first | fail))
            refine wpQuiet_nil ?_
            intro _ hw'
            obtain ⟨xq, hw''⟩ := hw'
            subst hw''
            have hba := xq.h
            generalize xq.to = wa at hba ⊢
            go_wp2_with fail
            refine ⟨?rel, ?measure⟩
            case rel => exact ⟨k + 1, true, by omega, rfl, by go_num, Hn.out, below_trans hb hba⟩
            case measure => first | (simp [intOf]; done) | (simp [intOf]; omega)
        · have hfin : bb = inPair l ⟨0, o⟩ := by
            have := Hb.out
            rw [List.take_of_length_le (by omega)] at this
            rw [this]; rfl
          have hbw2 := below_trans hbo hb
          have m0 := cell_later hb n0; have m1 := cell_later hb n1
          have e2 := Hca.out wr hbw
          have hBs := hbw2.size
          have hown2 := HO.out.below hb
          cases bb
          · have Hs2 : Hid (((g.obv).take (i + 1)).filter (fun o => !inPair l ⟨0, o⟩) = ((g.obv).take i).filter (fun o => !inPair l ⟨0, o⟩) ++ [o]) := Lib.hid (by rw [Hsn.out, ← hfin]; rfl)
            have hlen : (pre ++ (((g.obv).take i).filter fun o => !inPair l ⟨0, o⟩).map (Die.mk 0)).length ≤ 64 := by
              rw [List.length_append, List.length_map]
              have h2 := List.length_filter_le (fun o => !inPair l ⟨0, o⟩) ((g.obv).take i)
              rw [List.length_take] at h2
              omega
            clear hfin Hsn HO hcl
            go_wp2_with (at_builtin; refine wpList_append1 (enc := encD) (size := 2) (B := w1.heap.size) rfl (.tmp 46) (.tmp 53) _ rfl 46 iD _ 16 Try.underlying26 hiD hzD hkD hbD rfl (by decide) rfl hown2 (Die.mk 0 o) _ rfl lenD oneD _ rfl rfl (by omega) (by omega) hBs ?_; intro v' w2' hown' hgrow hat)
            refine ⟨?rel, ?measure⟩
            case rel => exact ⟨i + 1, by omega, by go_num, by rw [Hs2.out, List.map_append, ← List.append_assoc]; exact hown', hbw2.trans (below_append hown2 hgrow hBs)⟩
            case measure => first | (simp [intOf]; done) | (simp [intOf]; omega)
          · have Hs2 : Hid (((g.obv).take (i + 1)).filter (fun o => !inPair l ⟨0, o⟩) = ((g.obv).take i).filter (fun o => !inPair l ⟨0, o⟩)) := Lib.hid (by rw [Hsn.out, ← hfin]; simp)
            clear hfin Hsn HO hcl
            go_wp2_with fail
            refine ⟨?rel, ?measure⟩
            case rel => exact ⟨i + 1, by omega, by go_num, by rw [Hs2.out]; exact hown2, hbw2⟩
            case measure => first | (simp [intOf]; done) | (simp [intOf]; omega)
    · have e1 : g.obv.take i = g.obv := List.take_of_length_le (by omega)
      rw [e1] at hown
      rw [Hpre.out, List.nil_append] at hown
      obtain ⟨pre2, hpre2⟩ : ∃ p, (g.obv.filter fun o => !inPair l ⟨0, o⟩).map (Die.mk 0) = p := ⟨_, rfl⟩
      have hpl2 : pre2.length ≤ 32 := by rw [← hpre2, List.length_map]; exact Nat.le_trans (List.length_filter_le _ _) hlo
      rw [hpre2] at hown
      rw [hpre2] at HG1
      have hown0 := hown
      have hbo0 := hbo
      clear e1 hown hpre2 hpl Hpre
      obtain ⟨pre, hpre3⟩ : ∃ p, p = pre2 := ⟨_, rfl⟩
      subst hpre3
      go_wp2_with fail
      clear hbo n0 n1 hin hi
      go_loopw [6, 10] (fun u i wr => ∃ k : Nat, k ≤ (g.rev).length ∧ i = .int .i64 k ∧ OwnD w1.heap.size wr u (pre ++ (((g.rev).take k).filter fun o => !inPair l ⟨1, o⟩).map (Die.mk 1)) ∧ Below w1.heap.size w1 wr) (fun _ i _ => (g.rev).length - (intOf i).toNat)
      case atStart => exact ⟨0, Nat.zero_le _, rfl, by simpa using hown0, hbo0⟩
      case round =>
        clear hown0 hbo0
        obtain ⟨i, hi, rfl, hown, hbo⟩ := hrel
        obtain ⟨wp, hwp⟩ : ∃ z, z = wr := ⟨_, rfl⟩
        subst hwp
        have n0 := cell_later hbo b0; have n1 := cell_later hbo b1
        by_cases hin : i < (g.rev).length
        · obtain ⟨ba, oa, rfl, _, hca⟩ := hcr i hin
          obtain ⟨o, ho⟩ := get_of_lt hin
          have hwo := below_trans hw1 hbo
          have Hca := Lib.hid (fun w' (hb : Below w.heap.size w w') => hca w' hb i o ho)
          have hsn := filter_snoc (p := fun o => !inPair l ⟨1, o⟩) ho
          have Hsn := Lib.hid hsn
          have HO := Lib.hid hown
          have hi1 : (i : Int) < ((g.rev).length : Int) := by omega
          have hi0 : (0 : Int) ≤ (i : Int) := by omega
          clear hca ho hsn hown
          go_wp2_with fail
          go_loopw [11, 12] (fun c j wr => ∃ (k : Nat) (b : Bool), k ≤ l.length ∧ c = .bool b ∧ j = .int .i64 k ∧ Hid (b = decide (o ∈ (l.take k).map Pair.b)) ∧ Below wp.heap.size wp wr) (fun _ j _ => l.length - (intOf j).toNat)
          case atStart => exact ⟨0, false, Nat.zero_le _, rfl, rfl, by show _ = _; simp, Below.refl _ _⟩
          case round =>
            obtain ⟨k, bb, hk, rfl, rfl, Hb, hb⟩ := hrel
            have hbw := below_trans hwo hb
            by_cases hkn : k < l.length
            · obtain ⟨p, hp⟩ := get_of_lt hkn
              obtain ⟨bq, oq, rfl, _, hcq⟩ := hcl k hkn
              obtain ⟨e0', e1'⟩ := hcq wr hbw k p hp
              have e2' := Hca.out wr hbw
              have e0 := Later.cell_all e0'; have e1 := Later.cell_all e1'; have e2 := Later.cell_all e2'
              have q0 := Later.cell_all (cell_later hb n0); have q1 := Later.cell_all (cell_later hb n1)
              have hk1 : (k : Int) < (l.length : Int) := by omega
              have hk0 : (0 : Int) ≤ (k : Int) := by omega
              have Hp := Lib.hid hp
              clear hp hcq e0' e1' e2'
              cases bb
              · by_cases hpo : p.b = o
                · have x1 : (p.b == o) = true := by simpa using hpo
                  have Hn := Lib.hid (mem_map_yes (f := Pair.b) Hp.out hpo)
                  clear hpo
                  go_wp2_with fail
                  refine wp_region_later (by kernel_rfl) (by kernel_rfl) ?_
                  repeat (go_big_quiet_step (first | fail))
                  refine wpQuiet_nil ?_
                  intro _ hw'
                  obtain ⟨xq, hw''⟩ := hw'
                  subst hw''
                  have hba := xq.h
                  generalize xq.to = wa at hba ⊢
                  go_wp2_with fail
                  refine ⟨?rel, ?measure⟩
                  case rel => exact ⟨k + 1, true, by omega, rfl, by go_num, Hn.out, below_trans hb hba⟩
                  case measure => first | (simp [intOf]; done) | (simp [intOf]; omega)
                · have x1 : (p.b == o) = false := by simpa using hpo
                  have Hn := Lib.hid (mem_map_no (f := Pair.b) Hp.out hpo Hb.out)
                  clear hpo
                  go_wp2_with fail
                  refine wp_region_later (by kernel_rfl) (by kernel_rfl) ?_
                  repeat (go_big_quiet_step (first | fail))
                  refine wpQuiet_nil ?_
                  intro _ hw'
                  obtain ⟨xq, hw''⟩ := hw'
                  subst hw''
                  have hba := xq.h
                  generalize xq.to = wa at hba ⊢
                  go_wp2_with fail
                  refine ⟨?rel, ?measure⟩
                  case rel => exact ⟨k + 1, false, by omega, rfl, by go_num, Hn.out, below_trans hb hba⟩
                  case measure => first | (simp [intOf]; done) | (simp [intOf]; omega)
              · have Hn := Lib.hid (mem_map_more (f := Pair.b) (k := k) Hb.out)
                clear e0 e1 e2 q0 q1
                go_wp2_with fail
                refine wp_region_later (by kernel_rfl) (by kernel_rfl) ?_
                repeat (go_big_quiet_step (first | fail))
                refine wpQuiet_nil ?_
                intro _ hw'
                obtain ⟨xq, hw''⟩ := hw'
                subst hw''
                have hba := xq.h
                generalize xq.to = wa at hba ⊢
                go_wp2_with fail
                refine ⟨?rel, ?measure⟩
                case rel => exact ⟨k + 1, true, by omega, rfl, by go_num, Hn.out, below_trans hb hba⟩
                case measure => first | (simp [intOf]; done) | (simp [intOf]; omega)
            · have hfin : bb = inPair l ⟨1, o⟩ := by
                have := Hb.out
                rw [List.take_of_length_le (by omega)] at this
                rw [this]; rfl
              have hbw2 := below_trans hbo hb
              have m0 := cell_later hb n0; have m1 := cell_later hb n1
              have e2 := Hca.out wr hbw
              have hBs := hbw2.size
              have hown2 := HO.out.below hb
              cases bb
              · have Hs2 : Hid (((g.rev).take (i + 1)).filter (fun o => !inPair l ⟨1, o⟩) = ((g.rev).take i).filter (fun o => !inPair l ⟨1, o⟩) ++ [o]) := Lib.hid (by rw [Hsn.out, ← hfin]; rfl)
                have hlen : (pre ++ (((g.rev).take i).filter fun o => !inPair l ⟨1, o⟩).map (Die.mk 1)).length ≤ 64 := by
                  rw [List.length_append, List.length_map]
                  have h2 := List.length_filter_le (fun o => !inPair l ⟨1, o⟩) ((g.rev).take i)
                  rw [List.length_take] at h2
                  omega
                clear hfin Hsn HO hcl
                go_wp2_with (at_builtin; refine wpList_append1 (enc := encD) (size := 2) (B := w1.heap.size) rfl (.tmp 84) (.tmp 91) _ rfl 46 iD _ 16 Try.underlying26 hiD hzD hkD hbD rfl (by decide) rfl hown2 (Die.mk 1 o) _ rfl lenD oneD _ rfl rfl (by omega) (by omega) hBs ?_; intro v' w2' hown' hgrow hat)
                refine ⟨?rel, ?measure⟩
                case rel => exact ⟨i + 1, by omega, by go_num, by rw [Hs2.out, List.map_append, ← List.append_assoc]; exact hown', hbw2.trans (below_append hown2 hgrow hBs)⟩
                case measure => first | (simp [intOf]; done) | (simp [intOf]; omega)
              · have Hs2 : Hid (((g.rev).take (i + 1)).filter (fun o => !inPair l ⟨1, o⟩) = ((g.rev).take i).filter (fun o => !inPair l ⟨1, o⟩)) := Lib.hid (by rw [Hsn.out, ← hfin]; simp)
                clear hfin Hsn HO hcl
                go_wp2_with fail
                refine ⟨?rel, ?measure⟩
                case rel => exact ⟨i + 1, by omega, by go_num, by rw [Hs2.out]; exact hown2, hbw2⟩
                case measure => first | (simp [intOf]; done) | (simp [intOf]; omega)
        · have e1 : g.rev.take i = g.rev := List.take_of_length_le (by omega)
          rw [e1, ← HG1.out] at hown
          clear e1
          go_wp2_with fail
          go_ret2
          exact ⟨_, ret_mat HE.out.symm, hown.base hw1.size, below_trans hw1 hbo⟩
end Go.Proofs.Ytnaoiochfdipiaa
