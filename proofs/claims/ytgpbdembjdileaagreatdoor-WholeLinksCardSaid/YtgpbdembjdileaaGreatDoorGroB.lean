/- The growth of package joining: know, joined. Condition: the growth in its memory. -/
import Derived.Test.YtgpbdembjdileaaGreatDoorGroA
namespace Go.Proofs.YtgpbdembjdileaaGreatDoor
open Go.RowKit Go.Maps

theorem blk_cells {w : World} {p : Nat} {x y z : Value} {t : TypeId} (h : w.heap[p]? = some (.cells #[x, y, z] t (0, 0))) :
    w.cell? ⟨p, 0, none⟩ = some x ∧ w.cell? ⟨p, 1, none⟩ = some y ∧ w.cell? ⟨p, 2, none⟩ = some z ∧ w.frozen? ⟨p, 1, none⟩ = false ∧ w.frozen? ⟨p, 2, none⟩ = false := ⟨heap_cell h, heap_cell h, heap_cell h, heap_free h, heap_free h⟩
theorem wfN {n : Nat} (h : n ≤ 1000000) : wfI (n : Int) := by
  show (Lit.int .i64 (n : Int)).wf = true
  have e1 : IntKind.i64.min = -9223372036854775808 := by decide
  have e2 : IntKind.i64.max = 9223372036854775807 := by decide
  simp only [Lit.wf, Bool.and_eq_true, decide_eq_true_eq, e1, e2]
  omega
set_option maxHeartbeats 4000000 in
theorem know_ok (p b : Nat) (d : Die) (g : Gr) (w : World) (h : GrAt w p b g) (hd : wfD d) (hn : g.named ≤ 1000) (hc : g.count ≤ 1000) (hl : g.m.length ≤ 1000) :
    Calls Tryz.prog 57 #[.pointer (some ⟨p, 0, none⟩), vlD d] w fun e w' => e = .returned (.bool (lookM g.m d).isSome) ∧ GrAt w' p b (knowG d g) ∧ Touch w w' [p, b] := by
  obtain ⟨W, hW, Hz, hwW, hlt0, hc0⟩ := boxed w #[.int .i64 d.side, .int .i64 d.num] 24
  have a0' := hc0 0 _ rfl; have a1' := hc0 1 _ rfl
  have a0 := Later.cell_all a0'; have a1 := Later.cell_all a1'
  have hg := h.below hwW
  obtain ⟨q0', q1', q2', _, _⟩ := blk_cells hg.blk
  have q0 := Later.cell_all q0'
  have hpw := heap_lt h.blk
  have k1 := fun y : Later W => (hg.map.below y.h).look_ok hd
  clear hc0
  cases hs : lookM g.m d with
  | some n =>
    rw [hs] at k1
    have HG : Hid (knowG d g = g) := Lib.hid (by unfold knowG; rw [hs]; rfl)
    clear hs
    go_enter Tryz.func57, Tryz.ntmps57
    go_wp2_with fail
    refine wp_region_later (by kernel_rfl) (by kernel_rfl) ?_
    repeat (go_big_quiet_step (first | fail))
    refine wpQuiet_nil ?_
    intro _ hw'
    obtain ⟨xq, hw''⟩ := hw'
    subst hw''
    have hba := xq.h
    generalize xq.to = wa at hba ⊢
    go_wp2_with fail
    go_ret
    rw [HG.out]
    exact ⟨rfl, hg.below hba, touch_below (below_trans hwW hba) _⟩
  | none =>
    rw [hs] at k1
    have HG : Hid (knowG d g = ⟨putM g.m d g.named, g.named + 1, g.count + 1⟩) := Lib.hid (by unfold knowG; rw [hs]; rfl)
    clear hs
    go_enter Tryz.func57, Tryz.ntmps57
    go_wp2_with fail
    refine wp_region_later (by kernel_rfl) (by kernel_rfl) ?_
    repeat (go_big_quiet_step (first | fail))
    refine wpQuiet_nil ?_
    intro _ hw'
    obtain ⟨xq, hw''⟩ := hw'
    subst hw''
    have hba := xq.h
    generalize xq.to = wa at hba ⊢
    clear a0 a1 q0 k1
    go_wp2_with fail
    clear hW
    have hbb : Below wa.heap.size wa wa.drew := (Below.refl _ _).drew
    obtain ⟨wb, hwb⟩ : ∃ W, wa.drew = W := ⟨_, rfl⟩
    rw [hwb] at hbb
    have hbW := below_trans hba hbb
    have hgb := hg.below hbW
    have a0 := cell_later hbW a0'; have a1 := cell_later hbW a1'
    obtain ⟨q0, q1, q2, _, _⟩ := blk_cells hgb.blk
    obtain ⟨w2, hu, hm2, hg2⟩ := hgb.map.put hd (wfN (show g.named ≤ 1000000 by omega)) (by simp only [maxLen]; omega)
    have hblk2 := (hg2.block p (heap_lt hgb.blk) (fun e => hgb.ne (Option.some.inj e))).trans hgb.blk
    have hT2 : Touch w w2 [p, b] := (touch_below (below_trans hwW hbW) _).trans (grown_touch hg2 (by simp))
    have hHeld : wb = wb := rfl
    have n1 : (g.named : Int) ≤ 1000 := by omega
    have n0 : (0 : Int) ≤ (g.named : Int) := by omega
    have n3 : (g.count : Int) ≤ 1000 := by omega
    have n2 : (0 : Int) ≤ (g.count : Int) := by omega
    refine wp_region_S 9 (fun w' => w' = wb) (by kernel_rfl) (by decide) ?_
    rw [hwb]
    clear hwb q0' q1' q2' a0' a1'
    refine wpAnyS_takeD 0 (some 17) (.pointer (some ⟨p, 0, none⟩)) (by rfl) (by rfl) (by kernel_rfl) (by exact fun _ _ _ h => h) (by rfl) (fun w' hS => by (subst hS; go_simp)) hHeld ?_
    simp only [Act.put, List.setIfInBounds_toArray, List.set_cons_succ, List.set_cons_zero]
    refine wpAnyS_takeD 1 (some 18) (.pointer (some ⟨p, 0, none⟩)) (by rfl) (by rfl) (by kernel_rfl) (by exact fun _ _ _ h => h) (by rfl) (fun w' hS => by (subst hS; go_simp)) hHeld ?_
    simp only [Act.put, List.setIfInBounds_toArray, List.set_cons_succ, List.set_cons_zero]
    refine wpAnyS_takeD 2 (some 19) (.pointer (some ⟨p, 0, none⟩)) (by rfl) (by rfl) (by kernel_rfl) (by exact fun _ _ _ h => h) (by rfl) (fun w' hS => by (subst hS; go_simp)) hHeld ?_
    simp only [Act.put, List.setIfInBounds_toArray, List.set_cons_succ, List.set_cons_zero]
    refine wpAnyS_takeD 3 (some 20) (.map (some b)) (by rfl) (by rfl) (by kernel_rfl) (by exact fun _ _ _ h => h) (by rfl) (fun w' hS => by (subst hS; go_simp)) hHeld ?_
    simp only [Act.put, List.setIfInBounds_toArray, List.set_cons_succ, List.set_cons_zero]
    refine wpAnyS_takeD 4 (some 21) (vlD d) (by rfl) (by rfl) (by kernel_rfl) (by exact fun _ _ _ h => h) (by rfl) (fun w' hS => by (subst hS; go_simp)) hHeld ?_
    simp only [Act.put, List.setIfInBounds_toArray, List.set_cons_succ, List.set_cons_zero]
    refine wpAnyS_takeD 5 (some 22) (.pointer (some ⟨p, 0, none⟩)) (by rfl) (by rfl) (by kernel_rfl) (by exact fun _ _ _ h => h) (by rfl) (fun w' hS => by (subst hS; go_simp)) hHeld ?_
    simp only [Act.put, List.setIfInBounds_toArray, List.set_cons_succ, List.set_cons_zero]
    refine wpAnyS_takeD 6 (some 23) (.pointer (some ⟨p, 0, none⟩)) (by rfl) (by rfl) (by kernel_rfl) (by exact fun _ _ _ h => h) (by rfl) (fun w' hS => by (subst hS; go_simp)) hHeld ?_
    simp only [Act.put, List.setIfInBounds_toArray, List.set_cons_succ, List.set_cons_zero]
    refine wpAnyS_takeD 7 (some 24) (.pointer (some ⟨p, 1, none⟩)) (by rfl) (by rfl) (by kernel_rfl) (by exact fun _ _ _ h => h) (by rfl) (fun w' hS => by (subst hS; go_simp)) hHeld ?_
    simp only [Act.put, List.setIfInBounds_toArray, List.set_cons_succ, List.set_cons_zero]
    refine wpAnyS_takeD 8 (some 25) (.int .i64 g.named) (by rfl) (by rfl) (by kernel_rfl) (by exact fun _ _ _ h => h) (by rfl) (fun w' hS => by (subst hS; go_simp)) hHeld ?_
    simp only [Act.put, List.setIfInBounds_toArray, List.set_cons_succ, List.set_cons_zero]
    clear hHeld q0 q1 q2 a0 a1
    refine (show tailOf _ _ _ _ _ _ _ _ from ⟨by kernel_rfl, ?_⟩)
    simp only [List.drop_succ_cons, List.drop_zero]
    obtain ⟨s0, s1, s2, s3, s4⟩ := blk_cells hblk2
    have HB := Lib.hid hblk2; have HM := Lib.hid hm2; have HT := Lib.hid hT2; have HNE := Lib.hid hgb.ne
    clear hblk2 hm2 hT2 hg2
    go_wp2_with fail
    go_ret
    rw [HG.out]
    have hset := setCells_grown p [.int .i64 (g.named + 1 : Nat), .int .i64 (g.count + 1 : Nat)] w2 1
    refine ⟨rfl, ⟨?_, HM.out.kept hset (fun e => HNE.out (Option.some.inj e).symm), HNE.out⟩, HT.out.trans (grown_touch hset (by simp))⟩
    have r1 := heap_setCell_same w2 p 1 _ _ (.int .i64 (g.named + 1 : Nat)) HB.out
    have r2 := heap_setCell_same _ p 2 _ _ (.int .i64 (g.count + 1 : Nat)) r1
    simpa using r2

set_option maxHeartbeats 4000000 in
theorem joined_ok (p b : Nat) (x y : Die) (g : Gr) (w : World) (h : GrAt w p b g) (hx : wfD x) (hy : wfD y) :
    Calls Tryz.prog 30 #[.pointer (some ⟨p, 0, none⟩), vlD x, vlD y] w fun e w' => e = .returned (.bool ((lookM g.m x).isSome && (lookM g.m y).isSome && ((lookM g.m x).getD 0 == (lookM g.m y).getD 0))) ∧ Below w.heap.size w w' := by
  obtain ⟨W0, hW0, Hz0, hb0, hlt0, hc0⟩ := boxed w #[.int .i64 x.side, .int .i64 x.num] 24
  obtain ⟨W, hW, Hz, hb1, hlt1, hc1⟩ := boxed W0 #[.int .i64 y.side, .int .i64 y.num] 24
  have hwW := below_trans hb0 hb1
  have a0 := Later.cell_all (cell_later hb1 (hc0 0 _ rfl)); have a1 := Later.cell_all (cell_later hb1 (hc0 1 _ rfl))
  have b0 := Later.cell_all (hc1 0 _ rfl); have b1 := Later.cell_all (hc1 1 _ rfl)
  have hg := h.below hwW
  obtain ⟨q0', _, _, _, _⟩ := blk_cells hg.blk
  have q0 := Later.cell_all q0'
  have k1 := fun y' : Later W => (hg.map.below y'.h).look_ok hx
  have k2 := fun y' : Later W => (hg.map.below y'.h).look_ok hy
  clear hc0 hc1
  generalize lookM g.m x = X at k1 ⊢
  generalize lookM g.m y = Y at k2 ⊢
  have HG := Lib.hid hg
  clear hg q0'
  cases X with
  | none =>
    go_enter Tryz.func30, Tryz.ntmps30
    go_wp2_with fail
    refine wp_region_later (by kernel_rfl) (by kernel_rfl) ?_
    repeat (go_big_quiet_step (first | fail))
    refine wpQuiet_nil ?_
    intro _ hw'
    obtain ⟨xq, hw''⟩ := hw'
    subst hw''
    have hba := xq.h
    generalize xq.to = wa at hba ⊢
    have b0 := fun y' : Later wa => b0 ⟨y'.to, below_trans hba y'.h⟩; have b1 := fun y' : Later wa => b1 ⟨y'.to, below_trans hba y'.h⟩
    have q0 := fun y' : Later wa => q0 ⟨y'.to, below_trans hba y'.h⟩; have k2 := fun y' : Later wa => k2 ⟨y'.to, below_trans hba y'.h⟩
    dsimp only at b0 b1 q0 k2
    go_wp2_with fail
    refine wp_region_later (by kernel_rfl) (by kernel_rfl) ?_
    repeat (go_big_quiet_step (first | fail))
    refine wpQuiet_nil ?_
    intro _ hw'
    obtain ⟨xq, hw''⟩ := hw'
    subst hw''
    have hbb := xq.h
    generalize xq.to = wb at hbb ⊢
    have HB := Lib.hid (below_trans hwW (below_trans hba hbb))
    clear a0 a1 k1 b0 b1 q0 k2 hba hbb
    go_wp2_with fail
    go_ret
    exact ⟨rfl, HB.out⟩
  | some n =>
    cases Y with
    | none =>
      go_enter Tryz.func30, Tryz.ntmps30
      go_wp2_with fail
      refine wp_region_later (by kernel_rfl) (by kernel_rfl) ?_
      repeat (go_big_quiet_step (first | fail))
      refine wpQuiet_nil ?_
      intro _ hw'
      obtain ⟨xq, hw''⟩ := hw'
      subst hw''
      have hba := xq.h
      generalize xq.to = wa at hba ⊢
      have b0 := fun y' : Later wa => b0 ⟨y'.to, below_trans hba y'.h⟩; have b1 := fun y' : Later wa => b1 ⟨y'.to, below_trans hba y'.h⟩
      have q0 := fun y' : Later wa => q0 ⟨y'.to, below_trans hba y'.h⟩; have k2 := fun y' : Later wa => k2 ⟨y'.to, below_trans hba y'.h⟩
      dsimp only at b0 b1 q0 k2
      go_wp2_with fail
      refine wp_region_later (by kernel_rfl) (by kernel_rfl) ?_
      repeat (go_big_quiet_step (first | fail))
      refine wpQuiet_nil ?_
      intro _ hw'
      obtain ⟨xq, hw''⟩ := hw'
      subst hw''
      have hbb := xq.h
      generalize xq.to = wb at hbb ⊢
      have HB := Lib.hid (below_trans hwW (below_trans hba hbb))
      clear a0 a1 k1 b0 b1 q0 k2 hba hbb
      go_wp2_with fail
      go_ret
      exact ⟨rfl, HB.out⟩
    | some m =>
      go_enter Tryz.func30, Tryz.ntmps30
      go_wp2_with fail
      refine wp_region_later (by kernel_rfl) (by kernel_rfl) ?_
      repeat (go_big_quiet_step (first | fail))
      refine wpQuiet_nil ?_
      intro _ hw'
      obtain ⟨xq, hw''⟩ := hw'
      subst hw''
      have hba := xq.h
      generalize xq.to = wa at hba ⊢
      have b0 := fun y' : Later wa => b0 ⟨y'.to, below_trans hba y'.h⟩; have b1 := fun y' : Later wa => b1 ⟨y'.to, below_trans hba y'.h⟩
      have q0 := fun y' : Later wa => q0 ⟨y'.to, below_trans hba y'.h⟩; have k2 := fun y' : Later wa => k2 ⟨y'.to, below_trans hba y'.h⟩
      dsimp only at b0 b1 q0 k2
      go_wp2_with fail
      refine wp_region_later (by kernel_rfl) (by kernel_rfl) ?_
      repeat (go_big_quiet_step (first | fail))
      refine wpQuiet_nil ?_
      intro _ hw'
      obtain ⟨xq, hw''⟩ := hw'
      subst hw''
      have hbb := xq.h
      generalize xq.to = wb at hbb ⊢
      have HB := Lib.hid (below_trans hwW (below_trans hba hbb))
      clear a0 a1 k1 b0 b1 q0 k2 hba hbb
      go_wp2_with fail
      go_ret
      trace_state
      exact ⟨rfl, HB.out⟩
end Go.Proofs.YtgpbdembjdileaaGreatDoor
