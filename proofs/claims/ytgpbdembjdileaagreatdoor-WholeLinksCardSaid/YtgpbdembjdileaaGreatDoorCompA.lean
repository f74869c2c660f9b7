/- component.ends, across. No condition. -/
import Derived.Test.YtgpbdembjdileaaGreatDoorCompP
import Derived.Test.YtgpbdembjdileaaGreatDoorGroA
import Derived.Test.YtgpbdembjdileaaGreatDoorQueD
import Derived.Test.YtgpbdembjdileaaGreatDoorDelL
import Derived.Test.YtgpbdembjdileaaGreatDoorFresh
namespace Go.Proofs.YtgpbdembjdileaaGreatDoor
open Go.RowKit Go.Maps

set_option maxHeartbeats 2000000 in
theorem ends_ok (x : Link) (w : World) : Calls Tryz.prog 111 #[valL x] w fun e w' => e = .returned (.tuple #[vlD (lA x), vlD (lB x)]) ∧ Below w.heap.size w w' := by
  obtain ⟨W0, hW0, Hz0, hb0, hlt0, hc0⟩ := boxed w #[.int .i64 x.id, .int .i64 x.obv, .int .i64 x.rev] 64
  obtain ⟨W1, hW1, Hz1, hb1, hlt1, hc1⟩ := boxed W0 #[.int .i64 0, .int .i64 0] 24
  obtain ⟨W2, hW2, Hz2, hb2, hlt2, hc2⟩ := boxed W1 #[.int .i64 0, .int .i64 0] 24
  have hb12 := below_trans hb1 hb2
  have a1 := cell_later hb12 (hc0 1 _ rfl); have a2 := cell_later hb12 (hc0 2 _ rfl)
  have HW := Lib.hid (below_trans hb0 hb12)
  have g1 : W1.heap[W0.heap.size]? = some (.cells #[.int .i64 0, .int .i64 0] 24 (0, 0)) := by rw [← hW1]; exact heap_alloc_new _ _
  have g2 : W2.heap[W1.heap.size]? = some (.cells #[.int .i64 0, .int .i64 0] 24 (0, 0)) := by rw [← hW2]; exact heap_alloc_new _ _
  have G1 := Lib.hid (heap_below g1 hb2 (heap_lt g1)); have G2 := Lib.hid g2
  clear hc0 hc1 hc2 g1 g2 hb0 hb1 hb2 hb12
  go_enter Tryz.func111, Tryz.ntmps111
  go_wp2_with fail
  have hba : Below W2.heap.size W2 W2.drew := (Below.refl _ _).drew
  obtain ⟨wa, hwa⟩ : ∃ W, W2.drew = W := ⟨_, rfl⟩
  rw [hwa] at hba
  have b1 := cell_later hba a1; have b2 := cell_later hba a2
  have hHeld : wa.cell? ⟨w.heap.size, 1, none⟩ = some (.int .i64 x.obv) ∧ wa.cell? ⟨w.heap.size, 2, none⟩ = some (.int .i64 x.rev) := ⟨b1, b2⟩
  have h1 := heap_below G1.out hba (heap_lt G1.out); have h2 := heap_below G2.out hba (heap_lt G2.out)
  have hne : W0.heap.size ≠ w.heap.size ∧ W1.heap.size ≠ w.heap.size ∧ W0.heap.size ≠ W1.heap.size := by omega
  have HW' := Lib.hid (below_trans HW.out hba)
  refine wp_region_S 7 (fun w' => w'.cell? ⟨w.heap.size, 1, none⟩ = some (.int .i64 x.obv) ∧ w'.cell? ⟨w.heap.size, 2, none⟩ = some (.int .i64 x.rev)) (by kernel_rfl) (by decide) ?_
  rw [hwa]
  clear hwa hW0 hW1 hW2 a1 a2 G1 G2 hba
  refine wpAnyS_takeD 0 (some 4) (.pointer (some ⟨w.heap.size, 1, none⟩)) (by rfl) (by rfl) (by kernel_rfl) (by exact fun _ _ _ h => h) (by rfl) (fun w' hS => by go_simp) hHeld ?_
  simp only [Act.put, List.setIfInBounds_toArray, List.set_cons_succ, List.set_cons_zero]
  refine wpAnyS_takeD 1 (some 5) (.int .i64 x.obv) (by rfl) (by rfl) (by kernel_rfl) (by exact fun _ _ _ h => h) (by rfl) (fun w' hS => by (have q := hS.1; go_simp)) hHeld ?_
  simp only [Act.put, List.setIfInBounds_toArray, List.set_cons_succ, List.set_cons_zero]
  refine wpAnyS_takeD 2 (some 6) (.agg #[.int .i64 0, .int .i64 x.obv]) (by rfl) (by rfl) (by kernel_rfl) (by exact fun _ _ _ h => h) (by rfl) (fun w' hS => by go_simp) hHeld ?_
  simp only [Act.put, List.setIfInBounds_toArray, List.set_cons_succ, List.set_cons_zero]
  refine wpAnyS_takeD 3 (some 7) (.pointer (some ⟨w.heap.size, 2, none⟩)) (by rfl) (by rfl) (by kernel_rfl) (by exact fun _ _ _ h => h) (by rfl) (fun w' hS => by go_simp) hHeld ?_
  simp only [Act.put, List.setIfInBounds_toArray, List.set_cons_succ, List.set_cons_zero]
  refine wpAnyS_takeD 4 (some 8) (.int .i64 x.rev) (by rfl) (by rfl) (by kernel_rfl) (by exact fun _ _ _ h => h) (by rfl) (fun w' hS => by (have q := hS.2; go_simp)) hHeld ?_
  simp only [Act.put, List.setIfInBounds_toArray, List.set_cons_succ, List.set_cons_zero]
  refine wpAnyS_takeD 5 (some 9) (.agg #[.int .i64 1, .int .i64 x.rev]) (by rfl) (by rfl) (by kernel_rfl) (by exact fun _ _ _ h => h) (by rfl) (fun w' hS => by go_simp) hHeld ?_
  simp only [Act.put, List.setIfInBounds_toArray, List.set_cons_succ, List.set_cons_zero]
  have c0 := (heap_cell (i := 0) h1).trans rfl; have c1 := (heap_cell (i := 1) h1).trans rfl; have f0 := heap_free (i := 0) h1; have f1 := heap_free (i := 1) h1
  have d0 := (heap_cell (i := 0) h2).trans rfl; have d1 := (heap_cell (i := 1) h2).trans rfl; have e0 := heap_free (i := 0) h2; have e1 := heap_free (i := 1) h2
  refine wpAnyS_one 6 (by kernel_rfl) (by rfl) (by decide) (fun K hK => ?_)
  have HK := Lib.hid hK; clear hK
  rw [if_pos (by rfl)]
  go_simp
  obtain ⟨wb, hwb⟩ : ∃ z, (wa.setCell ⟨W0.heap.size, 0, none⟩ (.int .i64 0)).setCell ⟨W0.heap.size, 1, none⟩ (.int .i64 x.obv) = z := ⟨_, rfl⟩
  rw [hwb]
  have hgb : wa.grownBy wb (some W0.heap.size) := by rw [← hwb]; exact setCells_grown W0.heap.size [.int .i64 0, .int .i64 x.obv] wa 0
  have r1 : wb.heap[W0.heap.size]? = some (.cells #[.int .i64 0, .int .i64 x.obv] 24 (0, 0)) := by
    have q1 := heap_setCell_same wa W0.heap.size 0 _ _ (.int .i64 0) h1
    have q2 := heap_setCell_same _ W0.heap.size 1 _ _ (.int .i64 x.obv) q1
    rw [hwb] at q2
    simpa using q2
  have r2 := (hgb.block _ (heap_lt h2) (fun e => hne.2.2 (Option.some.inj e).symm)).trans h2
  have s1 : wb.cell? ⟨w.heap.size, 1, none⟩ = some (.int .i64 x.obv) := by rw [World.cell?_of_block (hgb.block _ (World.block_lt_of_cell? wa _ b1) (fun e => hne.1 (Option.some.inj e).symm))]; exact b1
  have s2 : wb.cell? ⟨w.heap.size, 2, none⟩ = some (.int .i64 x.rev) := by rw [World.cell?_of_block (hgb.block _ (World.block_lt_of_cell? wa _ b2) (fun e => hne.1 (Option.some.inj e).symm))]; exact b2
  have HB := Lib.hid (HW'.out.grown hgb HW'.out.size (fun j e => by cases e; omega))
  refine HK.out _ _ ⟨s1, s2⟩ ?_
  clear HK hHeld hwb c0 c1 f0 f1 d0 d1 e0 e1 h1 h2 b1 b2 hgb s1 s2 HW' HW
  refine (show tailOf _ _ _ _ _ _ _ _ from ⟨by kernel_rfl, ?_⟩)
  simp only [List.drop_succ_cons, List.drop_zero]
  have d0 := (heap_cell (i := 0) r2).trans rfl; have d1 := (heap_cell (i := 1) r2).trans rfl; have e0 := heap_free (i := 0) r2; have e1 := heap_free (i := 1) r2
  have c0 : wb.cell? ⟨W0.heap.size, 0, none⟩ = some (.int .i64 0) := heap_cell (i := 0) r1
  have c1 : wb.cell? ⟨W0.heap.size, 1, none⟩ = some (.int .i64 x.obv) := heap_cell (i := 1) r1
  have d0' : wb.cell? ⟨W1.heap.size, 0, none⟩ = some (.int .i64 0) := heap_cell (i := 0) r2
  have d1' : wb.cell? ⟨W1.heap.size, 1, none⟩ = some (.int .i64 0) := heap_cell (i := 1) r2
  obtain ⟨n1, n2, n3⟩ := hne
  have R2 := Lib.hid r2
  clear r1 r2
  go_wp2_with fail
  refine bodyPost_ret (v := .tuple #[vlD (lA x), vlD (lB x)]) (by simp [results, Tryz.results111, go_sem, c0, c1, d0', d1', lA, lB]) rfl ⟨rfl, HB.out.grown (setCells_grown W1.heap.size [.int .i64 1, .int .i64 x.rev] wb 0) HB.out.size (fun j e => by cases e; omega)⟩

theorem dieNe {d p : Die} (h : d ≠ p) : ((d.side = p.side) = False) ∨ (((d.side = p.side) = True) ∧ ((d.num = p.num) = False)) := by
  by_cases h1 : d.side = p.side
  · exact .inr ⟨eq_true h1, eq_false fun h2 => h (by cases d; cases p; simp_all)⟩
  · exact .inl (eq_false h1)
set_option maxHeartbeats 4000000 in
theorem across_ok (x : Link) (d : Die) (w : World) : Calls Tryz.prog 84 #[valL x, vlD d] w fun e w' => e = .returned (.tuple #[vlD (acrD x d), .bool (acrO x d).isSome]) ∧ Below w.heap.size w w' := by
  obtain ⟨W0, hW0, Hz0, hb0, hlt0, hc0⟩ := boxed w #[.int .i64 x.id, .int .i64 x.obv, .int .i64 x.rev] 64
  obtain ⟨W1, hW1, Hz1, hb1, hlt1, hc1⟩ := boxed W0 #[.int .i64 d.side, .int .i64 d.num] 24
  obtain ⟨W2, hW2, Hz2, hb2, hlt2, hc2⟩ := boxed W1 #[.int .i64 0, .int .i64 0] 24
  have hb12 := below_trans hb1 hb2
  have a0 := cell_later hb12 (hc0 0 _ rfl); have a1 := cell_later hb12 (hc0 1 _ rfl); have a2 := cell_later hb12 (hc0 2 _ rfl)
  have b0 := cell_later hb2 (hc1 0 _ rfl); have b1 := cell_later hb2 (hc1 1 _ rfl)
  have g2 : W2.heap[W1.heap.size]? = some (.cells #[.int .i64 0, .int .i64 0] 24 (0, 0)) := by rw [← hW2]; exact heap_alloc_new _ _
  have hbw := below_trans hb0 hb12
  have HA : Hid (acrO x d = if d = lA x then some (lB x) else if d = lB x then some (lA x) else none) := Lib.hid rfl
  have HE := Lib.hid (ends_ok x)
  unfold acrD
  generalize acrO x d = R at HA ⊢
  generalize lA x = p at HA HE ⊢
  generalize lB x = q at HA HE ⊢
  clear hc0 hc1 hc2
  go_enter Tryz.func84, Tryz.ntmps84
  go_wp2_with fail
  refine (HE.out _).mono ?_
  rintro e w3 ⟨rfl, hb3⟩
  have hw3 := below_trans hbw hb3
  have g3 := heap_below g2 hb3 (heap_lt g2)
  have b0 := cell_later hb3 b0; have b1 := cell_later hb3 b1
  clear a0 a1 a2 hW0 hW1 hW2 g2
  obtain ⟨V1, V2, V, hV1, hV2, hV, HzV, hltV, kz1, kz2, k1, k2, hbV, hltV'⟩ := fresh2 w3 [.int .i64 0, .int .i64 0] [.int .i64 p.side, .int .i64 p.num] [.int .i64 0, .int .i64 0] [.int .i64 q.side, .int .i64 q.num] 24 rfl rfl
  have hsV : (((V2.setCell ⟨w3.heap.size, 0, none⟩ (.int .i64 p.side)).setCell ⟨w3.heap.size, 1, none⟩ (.int .i64 p.num)).setCell ⟨V1.heap.size, 0, none⟩ (.int .i64 q.side)).setCell ⟨V1.heap.size, 1, none⟩ (.int .i64 q.num) = V := hV
  clear hV
  obtain ⟨⟨z0, z1⟩, f0, f1⟩ := cells2 kz1
  obtain ⟨⟨z2, z3⟩, f2, f3⟩ := cells2 kz2
  obtain ⟨⟨p0, p1⟩, _, _⟩ := cells2 k1
  obtain ⟨⟨q0, q1⟩, _, _⟩ := cells2 k2
  have g4 := heap_below g3 hbV (heap_lt g3)
  obtain ⟨⟨r0, r1⟩, e0, e1⟩ := cells2 g4
  have b0 := cell_later hbV b0; have b1 := cell_later hbV b1
  have hw4 := below_trans hw3 hbV
  have G4 := Lib.hid g4
  have hlw : w.heap.size ≤ W1.heap.size := by omega
  clear kz1 kz2 k1 k2 g3 g4
  by_cases h1 : d = p
  · have hR := HA.out
    rw [if_pos h1] at hR
    subst hR
    have d1 : (d.side = p.side) = True := eq_true (by rw [h1])
    have d2 : (d.num = p.num) = True := eq_true (by rw [h1])
    clear h1 HA
    go_wp2_with fail
    exact bodyPost_ret (v := .tuple #[vlD q, .bool true]) (by simp [results, Tryz.results84, go_sem, r0, r1]) rfl ⟨rfl, hw4.grown (setCells_grown W1.heap.size [.int .i64 (q).side, .int .i64 (q).num] V 0) hw4.size (fun j e => by cases e; omega)⟩
  · have hR := HA.out
    rw [if_neg h1] at hR
    have D1 : Hid (((d.side = p.side) = False) ∨ (((d.side = p.side) = True) ∧ ((d.num = p.num) = False))) := Lib.hid (dieNe h1)
    by_cases h2 : d = q
    · rw [if_pos h2] at hR
      subst hR
      have d3 : (d.side = q.side) = True := eq_true (by rw [h2])
      have d4 : (d.num = q.num) = True := eq_true (by rw [h2])
      clear h1 h2 HA
      rcases D1.out with d1 | ⟨d1, d2⟩
      all_goals
        go_wp2_with fail
        exact bodyPost_ret (v := .tuple #[vlD p, .bool true]) (by simp [results, Tryz.results84, go_sem, r0, r1]) rfl ⟨rfl, hw4.grown (setCells_grown W1.heap.size [.int .i64 (p).side, .int .i64 (p).num] V 0) hw4.size (fun j e => by cases e; omega)⟩
    · rw [if_neg h2] at hR
      subst hR
      have D2 : Hid (((d.side = q.side) = False) ∨ (((d.side = q.side) = True) ∧ ((d.num = q.num) = False))) := Lib.hid (dieNe h2)
      clear h1 h2 HA
      rcases D1.out with d1 | ⟨d1, d2⟩
      all_goals
        rcases D2.out with d3 | ⟨d3, d4⟩
        all_goals
          go_wp2_with fail
          exact bodyPost_ret (v := .tuple #[vlD ⟨0, 0⟩, .bool false]) (by simp [results, Tryz.results84, go_sem, r0, r1]) rfl ⟨rfl, hw4.grown (setCells_grown W1.heap.size [.int .i64 0, .int .i64 0] V 0) hw4.size (fun j e => by cases e; omega)⟩
end Go.Proofs.YtgpbdembjdileaaGreatDoor
