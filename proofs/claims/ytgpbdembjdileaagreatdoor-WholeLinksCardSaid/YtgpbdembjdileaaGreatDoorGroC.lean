/- The growth of package joining: enter. Condition: the growth in its memory. -/
import Derived.Test.YtgpbdembjdileaaGreatDoorGroB
namespace Go.Proofs.YtgpbdembjdileaaGreatDoor
open Go.RowKit Go.Maps

theorem know_named {d : Die} {g : Gr} : (knowG d g).named ≤ g.named + 1 ∧ (knowG d g).count ≤ g.count + 1 ∧ (knowG d g).m.length ≤ g.m.length + 1 := by
  unfold knowG
  split
  · exact ⟨by omega, by omega, by omega⟩
  · have hl : (putM g.m d (g.named : Int)).length ≤ g.m.length + 1 := by
      generalize g.m = m
      induction m with
      | nil => simp [putM]
      | cons p m ih =>
        rw [putM]
        split
        · simp
        · simp only [List.length_cons]; omega
    exact ⟨by simp, by simp, hl⟩
/-- What the walk of the range has turned so far. -/
def midM (m : List (Die × Int)) (f t : Int) (todo : List Die) : List (Die × Int) := m.map fun p => (p.1, if p.1 ∈ todo then p.2 else if p.2 = f then t else p.2)
theorem midM_start (m : List (Die × Int)) (f t : Int) : midM m f t (m.map Prod.fst) = m := by
  unfold midM
  conv => rhs; rw [← List.map_id m]
  refine List.map_congr_left fun p hp => ?_
  rw [if_pos (List.mem_map.2 ⟨p, hp, rfl⟩)]
  rfl
theorem midM_end (m : List (Die × Int)) (f t : Int) : midM m f t [] = turnM m f t := by
  unfold midM turnM
  refine List.map_congr_left fun p _ => ?_
  rw [if_neg (by simp)]
theorem lookM_mid (m : List (Die × Int)) (f t : Int) (todo : List Die) (d : Die) : lookM (midM m f t todo) d = (lookM m d).map fun n => if d ∈ todo then n else if n = f then t else n := by
  induction m with
  | nil => rfl
  | cons p m ih =>
    simp only [midM, List.map_cons, lookM] at ih ⊢
    by_cases h : p.1 = d
    · rw [if_pos h, if_pos h, h]; rfl
    · rw [if_neg h, if_neg h]; exact ih
theorem midM_skip {m : List (Die × Int)} (hn : (m.map Prod.fst).Nodup) {f t : Int} {todo : List Die} {d : Die} {n : Int} (hd : d ∈ todo) (hl : lookM (midM m f t todo) d = some n) (hne : n ≠ f) : midM m f t (todo.filter fun z => decide (z ≠ d)) = midM m f t todo := by
  unfold midM
  refine List.map_congr_left fun p hp => ?_
  by_cases e : p.1 = d
  · have h1 := (lookM_mem hn).2 hp
    rw [lookM_mid, ← e, h1, e] at hl
    simp only [Option.map_some, if_pos hd, Option.some.injEq] at hl
    rw [e, if_neg (by simp), if_pos hd, if_neg (by rw [hl]; exact hne)]
  · by_cases e2 : p.1 ∈ todo
    · rw [if_pos e2, if_pos (by simp [e2, e])]
    · have e3 : ¬ p.1 ∈ todo.filter fun z => decide (z ≠ d) := fun h => e2 (List.mem_filter.1 h).1
      rw [if_neg e2, if_neg e3]
theorem putM_mid {m : List (Die × Int)} (hn : (m.map Prod.fst).Nodup) {f t : Int} {todo : List Die} {d : Die} (hd : d ∈ todo) (hl : lookM (midM m f t todo) d = some f) : putM (midM m f t todo) d t = midM m f t (todo.filter fun z => decide (z ≠ d)) := by
  have hkey : ∀ (l : List (Die × Int)) (x : Die) (y : Int), (l.map Prod.fst).Nodup → x ∈ l.map Prod.fst → putM l x y = l.map fun p => (p.1, if p.1 = x then y else p.2) := by
    intro l x y
    induction l with
    | nil => intro _ h; simp at h
    | cons p l ih =>
      intro hn h
      rw [List.map_cons, List.nodup_cons] at hn
      rw [putM]
      by_cases e : p.1 = x
      · rw [if_pos e, List.map_cons, if_pos e, e]
        congr 1
        conv => lhs; rw [← List.map_id l]
        refine List.map_congr_left fun q hq => ?_
        rw [if_neg]
        · rfl
        · intro e2
          exact hn.1 (List.mem_map.2 ⟨q, hq, by rw [e2, e]⟩)
      · rw [if_neg e, List.map_cons, if_neg e]
        congr 1
        exact ih hn.2 (by simpa [Ne.symm e] using h)
  have hfst : (midM m f t todo).map Prod.fst = m.map Prod.fst := by simp [midM, List.map_map, Function.comp_def]
  have hin : d ∈ (midM m f t todo).map Prod.fst := List.mem_map.2 ⟨_, lookM_some hl, rfl⟩
  rw [hkey _ _ _ (by rw [hfst]; exact hn) hin]
  unfold midM
  rw [List.map_map]
  refine List.map_congr_left fun p hp => ?_
  simp only [Function.comp_apply]
  by_cases e : p.1 = d
  · have h1 := (lookM_mem hn).2 hp
    rw [lookM_mid, ← e, h1, e] at hl
    simp only [Option.map_some, if_pos hd, Option.some.injEq] at hl
    rw [if_pos e, if_neg (by simp [e]), if_pos hl]
  · rw [if_neg e]
    by_cases e2 : p.1 ∈ todo
    · rw [if_pos e2, if_pos (by simp [e2, e])]
    · have e3 : ¬ p.1 ∈ todo.filter fun z => decide (z ≠ d) := fun h => e2 (List.mem_filter.1 h).1
      rw [if_neg e2, if_neg e3]
theorem midM_len (m : List (Die × Int)) (f t : Int) (todo : List Die) : (midM m f t todo).length = m.length := List.length_map _

set_option maxHeartbeats 4000000 in
set_option maxRecDepth 100000 in
theorem enter_ok (p b : Nat) (s : Spec) (g : Gr) (w : World) (h : GrAt w p b g) (hda : wfD (dA s)) (hdb : wfD (dB s)) (hn : g.named ≤ 900) (hc : g.count ≤ 900) (hl : g.m.length ≤ 900) (hpos : fromG s g ≠ toG s g → 1 ≤ (bothG s g).count) :
    Calls Tryz.prog 29 #[.pointer (some ⟨p, 0, none⟩), valS s] w fun e w' => e = .returned (.tuple #[.bool (apartG s g), .bool (thereG s g)]) ∧ GrAt w' p b (enterG s g) ∧ Touch w w' [p, b] := by
  obtain ⟨W0, hW0, Hz0, hb0, hlt0, hc0⟩ := boxed w #[.int .i64 s.id, .int .i64 s.obv, .int .i64 s.rev, .int .i64 s.os, .int .i64 s.rs, .int .i64 s.ax, .int .i64 s.wt] 47
  have a0 := hc0 0 _ rfl; have a1 := hc0 1 _ rfl; have a2 := hc0 2 _ rfl; have a3 := hc0 3 _ rfl; have a4 := hc0 4 _ rfl; have a5 := hc0 5 _ rfl; have a6 := hc0 6 _ rfl
  clear hc0
  go_enter Tryz.func29, Tryz.ntmps29
  go_wp2_with fail
  refine (dies_ok s _).mono ?_
  rintro e wd ⟨rfl, hbd⟩
  obtain ⟨W1, hW1, Hz1, hb1, hlt1, hc1⟩ := boxed wd #[.int .i64 0, .int .i64 0] 24
  obtain ⟨W2, hW2, Hz2, hb2, hlt2, hc2⟩ := boxed W1 #[.int .i64 0, .int .i64 0] 24
  have g1 : W1.heap[wd.heap.size]? = some (.cells #[.int .i64 0, .int .i64 0] 24 (0, 0)) := by rw [← hW1]; exact heap_alloc_new _ _
  have g2 : W2.heap[W1.heap.size]? = some (.cells #[.int .i64 0, .int .i64 0] 24 (0, 0)) := by rw [← hW2]; exact heap_alloc_new _ _
  have h1 := heap_below g1 hb2 (heap_lt g1)
  have c0 := (heap_cell (i := 0) h1).trans rfl; have c1 := (heap_cell (i := 1) h1).trans rfl; have f0 := heap_free (i := 0) h1; have f1 := heap_free (i := 1) h1
  have d0 := (heap_cell (i := 0) g2).trans rfl; have d1 := (heap_cell (i := 1) g2).trans rfl; have e0 := heap_free (i := 0) g2; have e1 := heap_free (i := 1) g2
  clear a0 a1 a2 a3 a4 a5 a6 hc1 hc2
  go_wp2_with fail
  obtain ⟨wr, hwr⟩ : ∃ z, (((W2.setCell ⟨wd.heap.size, 0, none⟩ (.int .i64 (dA s).side)).setCell ⟨wd.heap.size, 1, none⟩ (.int .i64 (dA s).num)).setCell ⟨W1.heap.size, 0, none⟩ (.int .i64 (dB s).side)).setCell ⟨W1.heap.size, 1, none⟩ (.int .i64 (dB s).num) = z := ⟨_, rfl⟩
  have HR : Hid (wr.heap[wd.heap.size]? = some (.cells #[.int .i64 (dA s).side, .int .i64 (dA s).num] 24 (0, 0)) ∧ wr.heap[W1.heap.size]? = some (.cells #[.int .i64 (dB s).side, .int .i64 (dB s).num] 24 (0, 0)) ∧ Below w.heap.size w wr) := Lib.hid (by
    obtain ⟨wq, hwq⟩ : ∃ z, (W2.setCell ⟨wd.heap.size, 0, none⟩ (.int .i64 (dA s).side)).setCell ⟨wd.heap.size, 1, none⟩ (.int .i64 (dA s).num) = z := ⟨_, rfl⟩
    rw [hwq] at hwr
    have q1 := heap_setCell_same W2 wd.heap.size 0 _ _ (.int .i64 (dA s).side) h1
    have q2 := heap_setCell_same _ wd.heap.size 1 _ _ (.int .i64 (dA s).num) q1
    rw [hwq] at q2
    have k1 : W2.grownBy wq (some wd.heap.size) := by rw [← hwq]; exact setCells_grown wd.heap.size [.int .i64 (dA s).side, .int .i64 (dA s).num] W2 0
    have k2 : wq.grownBy wr (some W1.heap.size) := by rw [← hwr]; exact setCells_grown W1.heap.size [.int .i64 (dB s).side, .int .i64 (dB s).num] wq 0
    have g3 := (k1.block _ (heap_lt g2) (fun e => by have := Option.some.inj e; omega)).trans g2
    have q3 := heap_setCell_same wq W1.heap.size 0 _ _ (.int .i64 (dB s).side) g3
    have q4 := heap_setCell_same _ W1.heap.size 1 _ _ (.int .i64 (dB s).num) q3
    rw [hwr] at q4
    have hb := below_trans hb0 (below_trans hbd (below_trans hb1 hb2))
    have hsz := hb.size
    have := hbd.size
    have hq := hb.grown k1 hb.size (fun j e => by cases e; omega)
    exact ⟨(k2.block _ (heap_lt q2) (fun e => by have := Option.some.inj e; omega)).trans (by simpa using q2), by simpa using q4, hq.grown k2 hq.size (fun j e => by cases e; omega)⟩)
  have hba : Below wr.heap.size wr wr.drew := (Below.refl _ _).drew
  obtain ⟨wa, hwa⟩ : ∃ W, wr.drew = W := ⟨_, rfl⟩
  rw [hwa] at hba
  have hwa0 := below_trans HR.out.2.2 hba
  have r1 := heap_below HR.out.1 hba (heap_lt HR.out.1)
  have r2 := heap_below HR.out.2.1 hba (heap_lt HR.out.2.1)
  have hHeld : wa.cell? ⟨wd.heap.size, 0, none⟩ = some (.int .i64 (dA s).side) ∧ wa.cell? ⟨wd.heap.size, 1, none⟩ = some (.int .i64 (dA s).num) ∧ wa.cell? ⟨W1.heap.size, 0, none⟩ = some (.int .i64 (dB s).side) ∧ wa.cell? ⟨W1.heap.size, 1, none⟩ = some (.int .i64 (dB s).num) := ⟨heap_cell r1, heap_cell r1, heap_cell r2, heap_cell r2⟩
  have HH := Lib.hid (h.below hwa0)
  have HS := Lib.hid hHeld
  have HB := Lib.hid hwa0
  have hpW := heap_lt h.blk; have hbW := h.map.lt
  have hlt : w.heap.size ≤ wd.heap.size := by have := hbd.size; omega
  clear c0 c1 f0 f1 d0 d1 e0 e1 h1 g1 g2 hW1 hW2 hb1 hb2 hbd hb0 hW0
  rw [hwr]
  refine wp_region_S 6 (fun w' => w'.cell? ⟨wd.heap.size, 0, none⟩ = some (.int .i64 (dA s).side) ∧ w'.cell? ⟨wd.heap.size, 1, none⟩ = some (.int .i64 (dA s).num) ∧ w'.cell? ⟨W1.heap.size, 0, none⟩ = some (.int .i64 (dB s).side) ∧ w'.cell? ⟨W1.heap.size, 1, none⟩ = some (.int .i64 (dB s).num)) (by kernel_rfl) (by decide) ?_
  rw [hwa]
  clear hwr hwa hba r1 r2 hwa0 HR
  refine wpAnyS_takeD 0 (some 19) (.pointer (some ⟨p, 0, none⟩)) (by rfl) (by rfl) (by kernel_rfl) (by exact fun _ _ _ h => h) (by rfl) (fun w' hS => by go_simp) hHeld ?_
  simp only [Act.put, List.setIfInBounds_toArray, List.set_cons_succ, List.set_cons_zero]
  refine wpAnyS_takeD 1 (some 20) (vlD (dA s)) (by rfl) (by rfl) (by kernel_rfl) (by exact fun _ _ _ h => h) (by rfl) (fun w' hS => by (obtain ⟨x0, x1, x2, x3⟩ := hS; go_simp)) hHeld ?_
  simp only [Act.put, List.setIfInBounds_toArray, List.set_cons_succ, List.set_cons_zero]
  refine wpAnyS_takeD 3 (some 22) (.pointer (some ⟨p, 0, none⟩)) (by rfl) (by rfl) (by kernel_rfl) (by exact fun _ _ _ h => h) (by rfl) (fun w' hS => by go_simp) hHeld ?_
  simp only [Act.put, List.setIfInBounds_toArray, List.set_cons_succ, List.set_cons_zero]
  refine wpAnyS_takeD 4 (some 23) (vlD (dB s)) (by rfl) (by rfl) (by kernel_rfl) (by exact fun _ _ _ h => h) (by rfl) (fun w' hS => by (obtain ⟨x0, x1, x2, x3⟩ := hS; go_simp)) hHeld ?_
  simp only [Act.put, List.setIfInBounds_toArray, List.set_cons_succ, List.set_cons_zero]
  clear hHeld
  refine wpAnyS_one 2 (by kernel_rfl) (by rfl) (by decide) (fun K hK => ?_)
  have HK := Lib.hid hK; clear hK
  rw [if_pos (by rfl)]
  go_simp
  refine (know_ok p b (dA s) g wa HH.out hda (by omega) (by omega) (by omega)).mono ?_
  rintro e w1 ⟨rfl, hg1, hT1⟩
  obtain ⟨y0, y1, y2, y3⟩ := HS.out
  have hn1 : wd.heap.size ∉ [p, b] ∧ W1.heap.size ∉ [p, b] := by simp; omega
  have z0 := cell_off hT1 hn1.1 y0; have z1 := cell_off hT1 hn1.1 y1; have z2 := cell_off hT1 hn1.2 y2; have z3 := cell_off hT1 hn1.2 y3
  refine HK.out _ _ ⟨z0, z1, z2, z3⟩ ?_
  have hT1' := (touch_below HB.out [p, b]).trans hT1
  clear HK HH HS HB hT1 y0 y1 y2 y3
  refine wpAnyS_one 5 (by kernel_rfl) (by rfl) (by decide) (fun K hK => ?_)
  have HK := Lib.hid hK; clear hK
  rw [if_pos (by rfl)]
  go_simp
  have hkn := @know_named (dA s) g
  refine (know_ok p b (dB s) (knowG (dA s) g) w1 hg1 hdb (by omega) (by omega) (by omega)).mono ?_
  rintro e w2 ⟨rfl, hg2, hT2⟩
  have z0 := cell_off hT2 hn1.1 z0; have z1 := cell_off hT2 hn1.1 z1; have z2 := cell_off hT2 hn1.2 z2; have z3 := cell_off hT2 hn1.2 z3
  refine HK.out _ _ ⟨z0, z1, z2, z3⟩ ?_
  have hTw := hT1'.trans hT2
  clear HK hg1 hT1' hT2
  refine (show tailOf _ _ _ _ _ _ _ _ from ⟨by kernel_rfl, ?_⟩)
  simp only [List.drop_succ_cons, List.drop_zero]
  have hgB : GrAt w2 p b (bothG s g) := hg2
  clear hg2
  have hkn2 := @know_named (dB s) (knowG (dA s) g)
  have hlen : (bothG s g).m.length ≤ 902 ∧ (bothG s g).count ≤ 902 := by unfold bothG; omega
  clear hkn hkn2
  obtain ⟨F, hF⟩ : ∃ F, fromG s g = F := ⟨_, rfl⟩
  obtain ⟨T, hT⟩ : ∃ T, toG s g = T := ⟨_, rfl⟩
  have k1 : ∀ y : Later w2, (Instr.lookup 70 (.map (some b)) (vlD (dB s)) false).run Tryz.prog y.to = .ok (.int .i64 F) y.to := fun y => by rw [← hF]; exact (hgB.map.below y.h).look hdb
  have k2 : ∀ y : Later w2, (Instr.lookup 70 (.map (some b)) (vlD (dA s)) false).run Tryz.prog y.to = .ok (.int .i64 T) y.to := fun y => by rw [← hT]; exact (hgB.map.below y.h).look hda
  have x0 := Later.cell_all z0; have x1 := Later.cell_all z1; have x2 := Later.cell_all z2; have x3 := Later.cell_all z3
  obtain ⟨q0', _, _, _, _⟩ := blk_cells hgB.blk
  have q0 := Later.cell_all q0'
  have HG := Lib.hid hgB; have HT := Lib.hid hTw; have Hlen := Lib.hid hlen
  have hwT : wfI T := by
    rw [← hT, toG]
    cases hq : lookM (bothG s g).m (dA s) with
    | none => exact wfN (n := 0) (by omega)
    | some v => exact (hgB.map.good _ (lookM_some hq)).2
  have HwT := Lib.hid hwT
  clear hgB hTw z0 z1 z2 z3 q0' hlen hwT
  by_cases e : F = T
  · have HA : Hid (apartG s g = false ∧ thereG s g = true ∧ enterG s g = bothG s g) := Lib.hid (by
      rw [apartG, thereG, enterG, hF, hT, if_pos e]
      simp [e])
    clear hpos
    go_wp2_with fail
    refine wp_region_later (by kernel_rfl) (by kernel_rfl) ?_
    repeat (go_big_quiet_step (first | fail))
    refine wpQuiet_nil ?_
    intro _ hw'
    obtain ⟨xq, hw''⟩ := hw'
    subst hw''
    have hb3 := xq.h
    generalize xq.to = w3 at hb3 ⊢
    clear x0 x1 x2 x3 q0 k1 k2
    have d0 : (F == T) = true := by simpa using e
    have d1 : decide (F = T) = true := by simpa using e
    clear e
    go_wp2_with fail
    obtain ⟨u1, u2, u3⟩ := HA.out
    refine bodyPost_ret (v := .tuple #[.bool false, .bool true]) (by simp [results, Tryz.results29, go_sem]) rfl ?_
    rw [u1, u2, u3]
    exact ⟨rfl, HG.out.below hb3, HT.out.trans (touch_below hb3 _)⟩
  · have HA : Hid (apartG s g = true ∧ thereG s g = ((lookM g.m (dA s)).isSome && (lookM (knowG (dA s) g).m (dB s)).isSome) ∧ enterG s g = ⟨turnM (bothG s g).m F T, (bothG s g).named, (bothG s g).count - 1⟩ ∧ 1 ≤ (bothG s g).count) := Lib.hid (by
      have h1 := hpos (by rw [hF, hT]; exact e)
      rw [apartG, thereG, enterG, hF, hT, if_neg e]
      have d0 : (F == T) = false := by simpa using e
      simp [d0, h1])
    clear hpos
    obtain ⟨O1, hO1⟩ : ∃ O, (lookM g.m (dA s)).isSome = O := ⟨_, rfl⟩
    obtain ⟨O2, hO2⟩ : ∃ O, (lookM (knowG (dA s) g).m (dB s)).isSome = O := ⟨_, rfl⟩
    rw [hO1, hO2] at HA
    simp only [hO1, hO2]
    go_wp2_with fail
    refine wp_region_later (by kernel_rfl) (by kernel_rfl) ?_
    repeat (go_big_quiet_step (first | fail))
    refine wpQuiet_nil ?_
    intro _ hw'
    obtain ⟨xq, hw''⟩ := hw'
    subst hw''
    have hb3 := xq.h
    generalize xq.to = w3 at hb3 ⊢
    clear x0 x1 x2 x3 q0 k1 k2
    have d0 : (F == T) = false := by simpa using e
    have d1 : decide (F = T) = false := by simpa using e
    clear e
    have hG3 := HG.out.below hb3
    have hm : MapD w3 b (bothG s g).m := hG3.map
    obtain ⟨q0, _, _, _, _⟩ := blk_cells hG3.blk
    go_wp2_with (first | (at_range; refine wpList_rangeAt rfl _ rfl Tryz.underlying70 hm rfl ?_; intro w4 hr4 hb4 hz4))
    go_frame
    have hp4 : w4.heap[p]? = some (.cells #[.map (some b), .int .i64 (bothG s g).named, .int .i64 (bothG s g).count] 72 (0, 0)) := heap_below hG3.blk hb4 (heap_lt hG3.blk)
    have hT4 := HT.out.trans (touch_below (below_trans hb3 hb4) [p, b])
    have hne : p ≠ b := hG3.ne
    have hnd : ((bothG s g).m.map Prod.fst).Nodup := hm.nodup
    have hsz3 : w.heap.size ≤ w3.heap.size := (HT.out.trans (touch_below hb3 [p, b])).size
    clear q0 hm hG3 HG HT hb3 hb4
    go_loopw [] (fun wr => ∃ todo : List Die, RangeD wr b w3.heap.size (midM (bothG s g).m F T todo) todo ∧ wr.heap[p]? = some (.cells #[.map (some b), .int .i64 (bothG s g).named, .int .i64 (bothG s g).count] 72 (0, 0)) ∧ Touch w wr [p, b] ∧ w4.heap.size ≤ wr.heap.size) (fun wr => wr.rangeLeft b w3.heap.size)
    case atStart => exact ⟨_, by rw [midM_start]; exact hr4, hp4, hT4, Nat.le_refl _⟩
    case round =>
      obtain ⟨todo, hr, hp, hTr, hzr⟩ := hrel
      have Hp := Lib.hid hp; have HTr := Lib.hid hTr; have Hhr := Lib.hid hr
      clear hp hTr hr4 hp4 hT4
      go_wp2_with (at_next; refine wpList_nextAt rfl _ rfl hr rfl ?_ ?_)
      · rintro rfl
        obtain ⟨_, _, u2, _, v2⟩ := blk_cells Hp.out
        have n0 : (1 : Int) ≤ ((bothG s g).count : Int) := by have := HA.out.2.2.2; omega
        have n1 : ((bothG s g).count : Int) ≤ 902 := by have := Hlen.out.2; omega
        clear hr hz4
        cases O1
        all_goals
          go_wp2_with fail
          obtain ⟨e1, e2, e3, _⟩ := HA.out
          refine bodyPost_ret (v := .tuple #[.bool true, .bool (thereG s g)]) (by simp [results, Tryz.results29, go_sem, e2]) rfl ?_
          rw [e1, e3]
          have r2 := heap_setCell_same _ p 2 _ _ (.int .i64 (((bothG s g).count : Int) - 1)) Hp.out
          have hset := setCells_grown p [.int .i64 (((bothG s g).count : Int) - 1)] wr 2
          have hmp := Hhr.out.map
          rw [midM_end] at hmp
          refine ⟨rfl, ⟨?_, MapAt.kept hmp hset (fun e => hne (Option.some.inj e).symm), hne⟩, HTr.out.trans (touch_set rfl (by simp))⟩
          have : (((bothG s g).count - 1 : Nat) : Int) = ((bothG s g).count : Int) - 1 := by omega
          simp only [this]
          simpa using r2
      · intro x y w5 hx hlk hr5 hlt5 hg5 hz5 hen
        have ek : keyDie.val x = vlD x := rfl
        have ee : (elInt Tryz.underlying3 zInt).val y = .int .i64 y := rfl
        rw [ek, ee] at hen
        rw [ek, ee]
        clear ek ee
        obtain ⟨W6, hW6, Hz6, hb6, hlt6, hc6⟩ := boxed w5 #[.int .i64 0, .int .i64 0] 24
        have g6 : W6.heap[w5.heap.size]? = some (.cells #[.int .i64 0, .int .i64 0] 24 (0, 0)) := by rw [← hW6]; exact heap_alloc_new _ _
        have c0 := (heap_cell (i := 0) g6).trans rfl; have c1 := (heap_cell (i := 1) g6).trans rfl; have f0 := heap_free (i := 0) g6; have f1 := heap_free (i := 1) g6
        have hg6 : w5.grownBy W6 none := by rw [← hW6]; exact World.grownBy_alloc _ _ none
        obtain ⟨w7, hw7⟩ : ∃ z, (W6.setCell ⟨w5.heap.size, 0, none⟩ (.int .i64 x.side)).setCell ⟨w5.heap.size, 1, none⟩ (.int .i64 x.num) = z := ⟨_, rfl⟩
        have hg7 : W6.grownBy w7 (some w5.heap.size) := by rw [← hw7]; exact setCells_grown w5.heap.size [.int .i64 x.side, .int .i64 x.num] W6 0
        have r7 : w7.heap[w5.heap.size]? = some (.cells #[.int .i64 x.side, .int .i64 x.num] 24 (0, 0)) := by
          have q1 := heap_setCell_same W6 w5.heap.size 0 _ _ (.int .i64 x.side) g6
          have q2 := heap_setCell_same _ w5.heap.size 1 _ _ (.int .i64 x.num) q1
          rw [hw7] at q2
          simpa using q2
        have hbr : b < w5.heap.size := by omega
        have hrr : w3.heap.size < w5.heap.size := by omega
        have hr6 := RangeAt.kept hr5 hg6 (by simp) (by simp)
        have hr7 := RangeAt.kept hr6 hg7 (fun e => by have := Option.some.inj e; omega) (fun e => by have := Option.some.inj e; omega)
        have hl7 := (RangeAt.left_kept hr6 hg7 (fun e => by have := Option.some.inj e; omega) (fun e => by have := Option.some.inj e; omega)).trans (RangeAt.left_kept hr5 hg6 (by simp) (by simp))
        have hp5 := (hg5.block p (heap_lt Hp.out) (fun e => by have := Option.some.inj e; omega)).trans Hp.out
        have hp6 := (hg6.block p (heap_lt hp5) (by simp)).trans hp5
        have hp7 := (hg7.block p (heap_lt hp6) (fun e => by have := Option.some.inj e; have := heap_lt Hp.out; omega)).trans hp6
        have hT7 : Touch w w7 [p, b] := ((HTr.out.trans_own hg5 (fun j e => by cases e; omega)).trans_own hg6 (fun j e => by cases e)).trans_own hg7 (fun j e => by cases e; omega)
        have hz7 : w4.heap.size ≤ w7.heap.size := by have := hg7.size; omega
        have HR7 := Lib.hid hr7; have HL7 := Lib.hid hl7; have HP7 := Lib.hid hp7; have HT7 := Lib.hid hT7
        clear hr hr5 hr6 hr7 hl7 hp5 hp6 hp7 hT7 hg6 hg7 hg5 g6 hb6 hc6 hz5 hbr hrr
        by_cases e : y = F
        · have d2 : (y == F) = true := by simpa using e
          have d3 : decide (y = F) = true := by simpa using e
          clear e
          go_wp2_with fail
          have hb8 : Below w7.heap.size w7 w7.drew := (Below.refl _ _).drew
          obtain ⟨w8, hw8⟩ : ∃ W, w7.drew = W := ⟨_, rfl⟩
          rw [hw8] at hb8
          have hg8 : w7.grownBy w8 none := ⟨hb8.os, hb8.tape, hb8.output, hb8.size, fun i hi _ => hb8.block i hi⟩
          have hr8 := RangeAt.kept HR7.out hg8 (by simp) (by simp)
          have hl8 := (RangeAt.left_kept HR7.out hg8 (by simp) (by simp)).trans HL7.out
          have hkx : x ∈ (midM (bothG s g).m F T todo).map Prod.fst := List.mem_map.2 ⟨_, lookM_some hlk, rfl⟩
          obtain ⟨w9, hrun, hr9, hg9, hl9⟩ := RangeAt.put hr8 Tryz.underlying70 (y := T) hkx HwT.out (by rw [midM_len]; have := Hlen.out.1; simp only [maxLen]; omega)
          have eFy : y = F := by simpa using d3
          have hpm := putM_mid hnd hx (hlk.trans (congrArg some eFy)) (t := T)
          simp only [ne_eq, decide_not] at hpm
          rw [hpm] at hr9
          have hrun' : (Instr.mapUpdate 70 (.map (some b)) (vlD x) (.int .i64 T)).run Tryz.prog w8 = .ok () w9 := hrun
          have hp8 := heap_below HP7.out hb8 (heap_lt HP7.out)
          have hp9 := (hg9.block p (heap_lt hp8) (fun e => hne (Option.some.inj e))).trans hp8
          have hx8 := heap_below r7 hb8 (heap_lt r7)
          obtain ⟨q0, _, _, _, _⟩ := blk_cells hp8
          have y0 : w8.cell? ⟨w5.heap.size, 0, none⟩ = some (.int .i64 x.side) := heap_cell hx8
          have y1 : w8.cell? ⟨w5.heap.size, 1, none⟩ = some (.int .i64 x.num) := heap_cell hx8
          have hHeld : w8 = w8 := rfl
          have HR9 := Lib.hid (⟨hr9, hp9, (HT7.out.trans (touch_below hb8 [p, b])).trans (grown_touch hg9 (by simp)), by have := hg9.size; have := hb8.size; omega⟩ : RangeD w9 b w3.heap.size (midM (bothG s g).m F T (todo.filter fun z => !decide (z = x))) (todo.filter fun z => !decide (z = x)) ∧ w9.heap[p]? = some (.cells #[.map (some b), .int .i64 (bothG s g).named, .int .i64 (bothG s g).count] 72 (0, 0)) ∧ Touch w w9 [p, b] ∧ w4.heap.size ≤ w9.heap.size)
          have HL9 := Lib.hid (show w9.rangeLeft b w3.heap.size < wr.rangeLeft b w3.heap.size by rw [hl9, hl8]; exact hlt5)
          clear hr9 hp9 hg9 hl9 hr8 hl8 hg8 hrun hp8 hx8 hkx r7 hlk eFy hb8
          refine wp_region_S 6 (fun w' => w' = w8) (by kernel_rfl) (by decide) ?_
          rw [hw8]
          clear hw8
          refine wpAnyS_takeD 0 (some 53) (.pointer (some ⟨p, 0, none⟩)) (by rfl) (by rfl) (by kernel_rfl) (by exact fun _ _ _ h => h) (by rfl) (fun w' hS => by (subst hS; go_simp)) hHeld ?_
          simp only [Act.put, List.setIfInBounds_toArray, List.set_cons_succ, List.set_cons_zero]
          refine wpAnyS_takeD 1 (some 54) (.pointer (some ⟨p, 0, none⟩)) (by rfl) (by rfl) (by kernel_rfl) (by exact fun _ _ _ h => h) (by rfl) (fun w' hS => by (subst hS; go_simp)) hHeld ?_
          simp only [Act.put, List.setIfInBounds_toArray, List.set_cons_succ, List.set_cons_zero]
          refine wpAnyS_takeD 2 (some 55) (.pointer (some ⟨p, 0, none⟩)) (by rfl) (by rfl) (by kernel_rfl) (by exact fun _ _ _ h => h) (by rfl) (fun w' hS => by (subst hS; go_simp)) hHeld ?_
          simp only [Act.put, List.setIfInBounds_toArray, List.set_cons_succ, List.set_cons_zero]
          refine wpAnyS_takeD 3 (some 56) (.map (some b)) (by rfl) (by rfl) (by kernel_rfl) (by exact fun _ _ _ h => h) (by rfl) (fun w' hS => by (subst hS; go_simp)) hHeld ?_
          simp only [Act.put, List.setIfInBounds_toArray, List.set_cons_succ, List.set_cons_zero]
          refine wpAnyS_takeD 4 (some 57) (vlD x) (by rfl) (by rfl) (by kernel_rfl) (by exact fun _ _ _ h => h) (by rfl) (fun w' hS => by (subst hS; go_simp)) hHeld ?_
          simp only [Act.put, List.setIfInBounds_toArray, List.set_cons_succ, List.set_cons_zero]
          refine wpAnyS_takeD 5 (some 58) (.int .i64 T) (by rfl) (by rfl) (by kernel_rfl) (by exact fun _ _ _ h => h) (by rfl) (fun w' hS => by (subst hS; go_simp)) hHeld ?_
          simp only [Act.put, List.setIfInBounds_toArray, List.set_cons_succ, List.set_cons_zero]
          clear hHeld q0 y0 y1
          refine (show tailOf _ _ _ _ _ _ _ _ from ⟨by kernel_rfl, ?_⟩)
          simp only [List.drop_succ_cons, List.drop_zero]
          go_wp2_with fail
          exact ⟨⟨_, HR9.out⟩, HL9.out⟩
        · have d2 : (y == F) = false := by simpa using e
          have d3 : decide (y = F) = false := by simpa using e
          have hsk := midM_skip hnd hx hlk e
          simp only [ne_eq, decide_not] at hsk
          clear e
          go_wp2_with fail
          exact ⟨⟨todo.filter fun z => !decide (z = x), by rw [hsk]; exact HR7.out, HP7.out, HT7.out, hz7⟩, by rw [HL7.out]; exact hlt5⟩
end Go.Proofs.YtgpbdembjdileaaGreatDoor
