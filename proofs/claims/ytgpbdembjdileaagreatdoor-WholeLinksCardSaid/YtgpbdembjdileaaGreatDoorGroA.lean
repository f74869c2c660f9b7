/- The growth of package joining: begin, dies, know, enter, joined. Condition: the growth in its memory. -/
import Derived.Test.YtgpbdembjdileaaGreatDoorMapD
import Derived.Test.YtgpbdembjdileaaGreatDoorJoinP
import Derived.Test.YtgpbdembjdileaaGreatDoorTail
import Derived.Test.YtgpbdembjdileaaGreatDoorCovT
import Derived.Test.YtgpbdembjdileaaGreatDoorRefA
import Derived.Test.YtgpbdembjdileaaGreatDoorIter
namespace Go.Proofs.YtgpbdembjdileaaGreatDoor
open Go.RowKit Go.Maps

abbrev vlD (x : Die) : Value := .agg #[.int .i64 x.side, .int .i64 x.num]
/-- A growth in its memory. -/
structure GrAt (w : World) (p b : Nat) (g : Gr) : Prop where
  blk : w.heap[p]? = some (.cells #[.map (some b), .int .i64 g.named, .int .i64 g.count] 72 (0, 0))
  map : MapD w b g.m
  ne : p ≠ b
section
variable {w w' : World} {p b : Nat} {g : Gr}
theorem GrAt.below (h : GrAt w p b g) (hb : Below w.heap.size w w') : GrAt w' p b g := ⟨heap_below h.blk hb (heap_lt h.blk), h.map.below hb, h.ne⟩
theorem GrAt.touch {S : List Nat} (h : GrAt w p b g) (ht : Touch w w' S) (h1 : p ∉ S) (h2 : b ∉ S) : GrAt w' p b g := ⟨(ht.block p (heap_lt h.blk) h1).trans h.blk, MapAt.same h.map (ht.block b h.map.lt h2), h.ne⟩
end
set_option maxHeartbeats 1000000 in
theorem begin_ok (w : World) : Calls Tryz.prog 28 #[] w fun e w' => ∃ p b, e = .returned (.pointer (some ⟨p, 0, none⟩)) ∧ GrAt w' p b beginG ∧ w.heap.size ≤ p ∧ w.heap.size ≤ b ∧ Below w.heap.size w w' := by
  have hmm := @run_makeMap Tryz.prog
  obtain ⟨W1, h1⟩ : ∃ W, w.alloc (.map #[] 0) = W := ⟨_, rfl⟩
  have hb1 : Below w.heap.size w W1 := by rw [← h1]; exact (Below.refl _ _).alloc (Nat.le_refl _) _
  have hz1 : W1.heap.size = w.heap.size + 1 := by rw [← h1]; simp
  have hm1 : MapD W1 w.heap.size [] := by rw [← h1]; exact mapD_made w
  obtain ⟨W2, h2⟩ : ∃ W, W1.alloc (.cells #[.map (some w.heap.size), .int .i64 0, .int .i64 0] 72) = W := ⟨_, rfl⟩
  have hb2 : Below W1.heap.size W1 W2 := by rw [← h2]; exact (Below.refl _ _).alloc (Nat.le_refl _) _
  have hblk : W2.heap[W1.heap.size]? = some (.cells #[.map (some w.heap.size), .int .i64 0, .int .i64 0] 72 (0, 0)) := by rw [← h2]; exact heap_alloc_new _ _
  have H : Hid (GrAt W2 W1.heap.size w.heap.size beginG ∧ W1.heap.size = w.heap.size + 1 ∧ Below w.heap.size w W2) := Lib.hid ⟨⟨hblk, hm1.below hb2, by omega⟩, hz1, below_trans hb1 hb2⟩
  clear hb1 hm1 hb2 hblk hz1
  go_enter Tryz.func28, Tryz.ntmps28
  go_wp2_with fail
  go_ret
  obtain ⟨q1, q2, q3⟩ := H.out
  exact ⟨_, _, rfl, q1, by omega, Nat.le_refl _, q3⟩

set_option maxHeartbeats 2000000 in
theorem dies_ok (s : Spec) (w : World) : Calls Tryz.prog 56 #[valS s] w fun e w' => e = .returned (.tuple #[vlD (dA s), vlD (dB s)]) ∧ Below w.heap.size w w' := by
  obtain ⟨W0, hW0, Hz0, hb0, hlt0, hc0⟩ := boxed w #[.int .i64 s.id, .int .i64 s.obv, .int .i64 s.rev, .int .i64 s.os, .int .i64 s.rs, .int .i64 s.ax, .int .i64 s.wt] 47
  obtain ⟨W1, hW1, Hz1, hb1, hlt1, hc1⟩ := boxed W0 #[.int .i64 0, .int .i64 0] 24
  obtain ⟨W2, hW2, Hz2, hb2, hlt2, hc2⟩ := boxed W1 #[.int .i64 0, .int .i64 0] 24
  have hb12 := below_trans hb1 hb2
  have a1 := cell_later hb12 (hc0 1 _ rfl); have a2 := cell_later hb12 (hc0 2 _ rfl)
  have HW := Lib.hid (below_trans hb0 hb12)
  have g1 : W1.heap[W0.heap.size]? = some (.cells #[.int .i64 0, .int .i64 0] 24 (0, 0)) := by rw [← hW1]; exact heap_alloc_new _ _
  have g2 : W2.heap[W1.heap.size]? = some (.cells #[.int .i64 0, .int .i64 0] 24 (0, 0)) := by rw [← hW2]; exact heap_alloc_new _ _
  have G1 := Lib.hid (heap_below g1 hb2 (heap_lt g1)); have G2 := Lib.hid g2
  clear hc0 hc1 hc2 g1 g2 hb0 hb1 hb2 hb12
  go_enter Tryz.func56, Tryz.ntmps56
  go_wp2_with fail
  have hba : Below W2.heap.size W2 W2.drew := (Below.refl _ _).drew
  obtain ⟨wa, hwa⟩ : ∃ W, W2.drew = W := ⟨_, rfl⟩
  rw [hwa] at hba
  have b1 := cell_later hba a1; have b2 := cell_later hba a2
  have hHeld : wa.cell? ⟨w.heap.size, 1, none⟩ = some (.int .i64 s.obv) ∧ wa.cell? ⟨w.heap.size, 2, none⟩ = some (.int .i64 s.rev) := ⟨b1, b2⟩
  have h1 := heap_below G1.out hba (heap_lt G1.out); have h2 := heap_below G2.out hba (heap_lt G2.out)
  have hne : W0.heap.size ≠ w.heap.size ∧ W1.heap.size ≠ w.heap.size ∧ W0.heap.size ≠ W1.heap.size := by omega
  have HW' := Lib.hid (below_trans HW.out hba)
  refine wp_region_S 7 (fun w' => w'.cell? ⟨w.heap.size, 1, none⟩ = some (.int .i64 s.obv) ∧ w'.cell? ⟨w.heap.size, 2, none⟩ = some (.int .i64 s.rev)) (by kernel_rfl) (by decide) ?_
  rw [hwa]
  clear hwa hW0 hW1 hW2 a1 a2 G1 G2 hba
  refine wpAnyS_takeD 0 (some 4) (.pointer (some ⟨w.heap.size, 1, none⟩)) (by rfl) (by rfl) (by kernel_rfl) (by exact fun _ _ _ h => h) (by rfl) (fun w' hS => by go_simp) hHeld ?_
  simp only [Act.put, List.setIfInBounds_toArray, List.set_cons_succ, List.set_cons_zero]
  refine wpAnyS_takeD 1 (some 5) (.int .i64 s.obv) (by rfl) (by rfl) (by kernel_rfl) (by exact fun _ _ _ h => h) (by rfl) (fun w' hS => by (have q := hS.1; go_simp)) hHeld ?_
  simp only [Act.put, List.setIfInBounds_toArray, List.set_cons_succ, List.set_cons_zero]
  refine wpAnyS_takeD 2 (some 6) (.agg #[.int .i64 0, .int .i64 s.obv]) (by rfl) (by rfl) (by kernel_rfl) (by exact fun _ _ _ h => h) (by rfl) (fun w' hS => by go_simp) hHeld ?_
  simp only [Act.put, List.setIfInBounds_toArray, List.set_cons_succ, List.set_cons_zero]
  refine wpAnyS_takeD 3 (some 7) (.pointer (some ⟨w.heap.size, 2, none⟩)) (by rfl) (by rfl) (by kernel_rfl) (by exact fun _ _ _ h => h) (by rfl) (fun w' hS => by go_simp) hHeld ?_
  simp only [Act.put, List.setIfInBounds_toArray, List.set_cons_succ, List.set_cons_zero]
  refine wpAnyS_takeD 4 (some 8) (.int .i64 s.rev) (by rfl) (by rfl) (by kernel_rfl) (by exact fun _ _ _ h => h) (by rfl) (fun w' hS => by (have q := hS.2; go_simp)) hHeld ?_
  simp only [Act.put, List.setIfInBounds_toArray, List.set_cons_succ, List.set_cons_zero]
  refine wpAnyS_takeD 5 (some 9) (.agg #[.int .i64 1, .int .i64 s.rev]) (by rfl) (by rfl) (by kernel_rfl) (by exact fun _ _ _ h => h) (by rfl) (fun w' hS => by go_simp) hHeld ?_
  simp only [Act.put, List.setIfInBounds_toArray, List.set_cons_succ, List.set_cons_zero]
  have c0 := (heap_cell (i := 0) h1).trans rfl; have c1 := (heap_cell (i := 1) h1).trans rfl; have f0 := heap_free (i := 0) h1; have f1 := heap_free (i := 1) h1
  have d0 := (heap_cell (i := 0) h2).trans rfl; have d1 := (heap_cell (i := 1) h2).trans rfl; have e0 := heap_free (i := 0) h2; have e1 := heap_free (i := 1) h2
  refine wpAnyS_one 6 (by kernel_rfl) (by rfl) (by decide) (fun K hK => ?_)
  have HK := Lib.hid hK; clear hK
  rw [if_pos (by rfl)]
  go_simp
  obtain ⟨wb, hwb⟩ : ∃ z, (wa.setCell ⟨W0.heap.size, 0, none⟩ (.int .i64 0)).setCell ⟨W0.heap.size, 1, none⟩ (.int .i64 s.obv) = z := ⟨_, rfl⟩
  rw [hwb]
  have hgb : wa.grownBy wb (some W0.heap.size) := by rw [← hwb]; exact setCells_grown W0.heap.size [.int .i64 0, .int .i64 s.obv] wa 0
  have r1 : wb.heap[W0.heap.size]? = some (.cells #[.int .i64 0, .int .i64 s.obv] 24 (0, 0)) := by
    have q1 := heap_setCell_same wa W0.heap.size 0 _ _ (.int .i64 0) h1
    have q2 := heap_setCell_same _ W0.heap.size 1 _ _ (.int .i64 s.obv) q1
    rw [hwb] at q2
    simpa using q2
  have r2 := (hgb.block _ (heap_lt h2) (fun e => hne.2.2 (Option.some.inj e).symm)).trans h2
  have s1 : wb.cell? ⟨w.heap.size, 1, none⟩ = some (.int .i64 s.obv) := by rw [World.cell?_of_block (hgb.block _ (World.block_lt_of_cell? wa _ b1) (fun e => hne.1 (Option.some.inj e).symm))]; exact b1
  have s2 : wb.cell? ⟨w.heap.size, 2, none⟩ = some (.int .i64 s.rev) := by rw [World.cell?_of_block (hgb.block _ (World.block_lt_of_cell? wa _ b2) (fun e => hne.1 (Option.some.inj e).symm))]; exact b2
  have HB := Lib.hid (HW'.out.grown hgb HW'.out.size (fun j e => by cases e; omega))
  refine HK.out _ _ ⟨s1, s2⟩ ?_
  clear HK hHeld hwb c0 c1 f0 f1 d0 d1 e0 e1 h1 h2 b1 b2 hgb s1 s2 HW' HW
  refine (show tailOf _ _ _ _ _ _ _ _ from ⟨by kernel_rfl, ?_⟩)
  simp only [List.drop_succ_cons, List.drop_zero]
  have d0 := (heap_cell (i := 0) r2).trans rfl; have d1 := (heap_cell (i := 1) r2).trans rfl; have e0 := heap_free (i := 0) r2; have e1 := heap_free (i := 1) r2
  have c0 : wb.cell? ⟨W0.heap.size, 0, none⟩ = some (.int .i64 0) := heap_cell (i := 0) r1
  have c1 : wb.cell? ⟨W0.heap.size, 1, none⟩ = some (.int .i64 s.obv) := heap_cell (i := 1) r1
  have d0' : wb.cell? ⟨W1.heap.size, 0, none⟩ = some (.int .i64 0) := heap_cell (i := 0) r2
  have d1' : wb.cell? ⟨W1.heap.size, 1, none⟩ = some (.int .i64 0) := heap_cell (i := 1) r2
  obtain ⟨n1, n2, n3⟩ := hne
  have R2 := Lib.hid r2
  clear r1 r2
  go_wp2_with fail
  refine bodyPost_ret (v := .tuple #[vlD (dA s), vlD (dB s)]) (by simp [results, Tryz.results56, go_sem, c0, c1, d0', d1', dA, dB]) rfl ⟨rfl, HB.out.grown (setCells_grown W1.heap.size [.int .i64 1, .int .i64 s.rev] wb 0) HB.out.size (fun j e => by cases e; omega)⟩
end Go.Proofs.YtgpbdembjdileaaGreatDoor
